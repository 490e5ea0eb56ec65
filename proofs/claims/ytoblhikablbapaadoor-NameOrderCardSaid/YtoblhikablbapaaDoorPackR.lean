/- pack.Read: the walk. -/
import Derived.Test.YtoblhikablbapaaDoorPackV
import Derived.Deep.AppendLies
namespace Go.Proofs.YtoblhikablbapaaDoor
set_option linter.unusedVariables false
open Go.RowKit
theorem infoF : (Tryd.prog.info? 60).map (fun i => (i.zero, i.size, i.bytes)) = some (some (.agg #[.int .u64 0, .string ByteArray.empty]), 2, 24) := by kernel_rfl
theorem grown_drew {w w' : World} {r : Option Nat} (h : w.drew.grownBy w' r) : w.grownBy w' r := ⟨h.os, h.tape, h.output, h.size, h.block⟩
theorem ownsRow_heap {w w' : World} {base : Nat} {e : TypeId} {size : Nat} {v : Value} {n : Nat} {xs : List Value} (h : w.ownsRow base e size v n xs) (hk : ∀ j, j < w.heap.size → v.ownBlock = some j → w'.heap[j]? = w.heap[j]?) : w'.ownsRow base e size v n xs := by
  refine ⟨h.1, ?_⟩
  rcases h.2 with h2 | ⟨g, cap, cur, rfl, hg, hh, r⟩
  · exact Or.inl h2
  · exact Or.inr ⟨g, cap, cur, rfl, hg, (hk g (lt_of_heap hh) rfl).trans hh, r⟩
/-- The first field of bytes, and the rest. -/
def rd1 (k : UInt8) (r : ByteArray) : Option (Fld × ByteArray) :=
  if k = 116 then (if r.size < 2 then none else if (r.extract 2 r.size).size < toldN 0 (r.extract 0 2).data.toList then none else
    some ((0, (r.extract 2 r.size).extract 0 (toldN 0 (r.extract 0 2).data.toList)), (r.extract 2 r.size).extract (toldN 0 (r.extract 0 2).data.toList) (r.extract 2 r.size).size))
  else if kindB k = true then (if r.size < (widthB k.toNat).toNat then none else some ((toldN 0 (r.extract 0 (widthB k.toNat).toNat).data.toList, ⟨#[]⟩), r.extract (widthB k.toNat).toNat r.size))
  else some ((0, r), ⟨#[]⟩)
def readL : List UInt8 → ByteArray → Option (List Fld)
  | [], r => if r.toList = [] then some [] else none
  | k :: ks, r => match rd1 k r with
    | none => none
    | some p => (readL ks p.2).map (p.1 :: ·)
theorem readL_step {ks : List UInt8} {S r : ByteArray} {k : Nat} {acc : List Fld} (h1 : k < ks.length) (h : readL ks S = (readL (ks.drop k) r).map (acc ++ ·)) :
    (rd1 ks[k] r = none → readL ks S = none) ∧ (∀ f r', rd1 ks[k] r = some (f, r') → readL ks S = (readL (ks.drop (k + 1)) r').map ((acc ++ [f]) ++ ·)) := by
  have e : readL (ks[k] :: ks.drop (k + 1)) r = (match rd1 ks[k] r with | none => none | some p => (readL (ks.drop (k + 1)) p.2).map (p.1 :: ·)) := rfl
  rw [List.drop_eq_getElem_cons h1, e] at h
  constructor
  · intro hn; rw [hn] at h; exact h
  · intro f r' ha
    rw [ha] at h
    dsimp only at h
    rw [h]
    cases readL (ks.drop (k + 1)) r' <;> simp
def RdPost (w : World) (o : Option (List Fld)) (e : Ending) (w' : World) : Prop := match o with
  | none => e = .returned (.tuple #[.slice none 0 0, .bool false]) ∧ Below w.heap.size w w'
  | some fs => ∃ v, e = .returned (.tuple #[v, .bool true]) ∧ w'.ownsRow w.heap.size 60 2 v fs.length (fcells fs) ∧ Below w.heap.size w w'
theorem rdPost_none {w : World} {o : Option (List Fld)} {e : Ending} {w' : World} (h : o = none) (h1 : e = .returned (.tuple #[.slice none 0 0, .bool false])) (h2 : Below w.heap.size w w') : RdPost w o e w' := by
  subst h; exact ⟨h1, h2⟩
def RdRel (w : World) (ks : List UInt8) (S : ByteArray) (g : Nat) (s1 s6 s16 : Value) (wr : World) : Prop :=
  ∃ k acc r, g = ks.length - k ∧ k ≤ ks.length ∧ s16 = .int .i64 k ∧ s1 = .string r ∧ wr.ownsRow w.heap.size 60 2 s6 k (fcells acc) ∧ Below w.heap.size w wr ∧ r.size ≤ S.size ∧ acc.length = k ∧ readL ks S = (readL (ks.drop k) r).map (acc ++ ·)
theorem rd1_num (c : UInt8) (wd : Nat) (r : ByteArray) (h : (kindB c && c != 116) = true) (hw : (widthB c.toNat).toNat = wd) :
    rd1 c r = if r.size < wd then none else some ((toldN 0 (r.extract 0 wd).data.toList, ⟨#[]⟩), r.extract wd r.size) := by
  have h1 : kindB c = true ∧ c ≠ 116 := by simpa using h
  unfold rd1
  rw [if_neg h1.2, if_pos h1.1, hw]
theorem ex_le (r : ByteArray) (a b : Nat) {n : Nat} (h : r.size ≤ n) : (r.extract a b).size ≤ n := by
  simp; omega
theorem own_le {w : World} {base base' size n : Nat} {e : TypeId} {v : Value} {xs : List Value} (h : w.ownsRow base e size v n xs) (hb : base' ≤ base) : w.ownsRow base' e size v n xs :=
  ⟨h.1, h.2.imp id (fun ⟨g, cap, cur, a, b, c⟩ => ⟨g, cap, cur, a, Nat.le_trans hb b, c⟩)⟩
theorem rdPost_some {w w0 wr : World} {o : Option (List Fld)} {acc : List Fld} {r : ByteArray} {v : Value} {k : Nat} (h : o = (readL [] r).map (acc ++ ·)) (hr : r.toList = []) (ha : acc.length = k) (ho : wr.ownsRow w0.heap.size 60 2 v k (fcells acc)) (hb : Below w0.heap.size w0 wr) (h0 : Below w.heap.size w w0) :
    RdPost w o (.returned (.tuple #[v, .bool true])) wr := by
  have e : o = some acc := by rw [h]; simp [readL, hr]
  subst e ha
  exact ⟨v, rfl, own_le ho h0.size, h0.trans (hb.mono h0.size)⟩
theorem rd1_t_no (r : ByteArray) (h : r.size < 2) : rd1 116 r = none := by
  unfold rd1
  rw [if_pos rfl, if_pos h]
theorem rd1_t (r : ByteArray) (h : ¬ r.size < 2) : rd1 116 r = if (r.extract 2 r.size).size < toldN 0 (r.extract 0 2).data.toList then none else
    some ((0, (r.extract 2 r.size).extract 0 (toldN 0 (r.extract 0 2).data.toList)), (r.extract 2 r.size).extract (toldN 0 (r.extract 0 2).data.toList) (r.extract 2 r.size).size) := by
  unfold rd1
  rw [if_pos rfl, if_neg h]
theorem toldN_two (l : List UInt8) (h : l.length ≤ 2) : toldN 0 l < 65536 := by
  match l, h with
  | [], _ => decide
  | [a], _ => have := a.toNat_lt; simp [toldN]; omega
  | [a, b], _ => have := a.toNat_lt; have := b.toNat_lt; simp [toldN]; omega
theorem rd_alloc {w0 wr : World} {v : Value} {k : Nat} {xs : List Value} (o : Obj) (ho : wr.ownsRow w0.heap.size 60 2 v k xs) (hb : Below w0.heap.size w0 wr) :
    (wr.alloc o).ownsRow w0.heap.size 60 2 v k xs ∧ Below w0.heap.size w0 (wr.alloc o) := ⟨ho.alloc _, hb.alloc hb.size _⟩
theorem rd_below {w0 wr w2 : World} {v : Value} {k : Nat} {xs : List Value} (ho : wr.ownsRow w0.heap.size 60 2 v k xs) (hb : Below w0.heap.size w0 wr) (g : Below wr.heap.size wr w2) :
    w2.ownsRow w0.heap.size 60 2 v k xs ∧ Below w0.heap.size w0 w2 := ⟨ownsRow_heap ho (fun j hj _ => g.block j hj), hb.trans (g.mono hb.size)⟩
theorem rd_set {w0 w2 : World} {v : Value} {k p : Nat} {xs : List Value} {a : Value} {i : Nat} (ho : w2.ownsRow w0.heap.size 60 2 v k xs) (hb : Below w0.heap.size w0 w2) (hp : w0.heap.size ≤ p) (hn : v.ownBlock ≠ some p) :
    (w2.setCell ⟨p, i, none⟩ a).ownsRow w0.heap.size 60 2 v k xs ∧ Below w0.heap.size w0 (w2.setCell ⟨p, i, none⟩ a) :=
  ⟨ownsRow_setCell_other ho hn _, hb.setCell hp _⟩
theorem rd_next {w0 W w4 : World} {ks : List UInt8} {S r' : ByteArray} {v v' : Value} {k n : Nat} {T : ByteArray} {acc : List Fld} {o : Obj} (hlt : k < ks.length) (ho : W.ownsRow w0.heap.size 60 2 v k (fcells acc)) (hb : Below w0.heap.size w0 W) (hg : (W.alloc o).drew.grownBy w4 v.ownBlock)
    (h4 : w4.ownsRow w0.heap.size 60 2 v' (k + 1) (fcells acc ++ [.int .u64 n, .string T])) (hr : r'.size ≤ S.size) (ha : acc.length = k)
    (hw : readL ks S = (readL (ks.drop (k + 1)) r').map ((acc ++ [(n, T)]) ++ ·)) : RdRel w0 ks S (ks.length - (k + 1)) (.string r') v' (.int .i64 (k + 1)) w4 := by
  refine ⟨k + 1, acc ++ [(n, T)], r', rfl, by omega, by simp, rfl, ?_, ?_, hr, by simp [ha], hw⟩
  · have e : fcells (acc ++ [(n, T)]) = fcells acc ++ [.int .u64 n, .string T] := by simp [fcells]
    rw [e]; exact h4
  · exact hb.grown ((World.grownBy_alloc W _ _).trans (grown_drew hg)) hb.size (fun j hj => (ho.lt j hj).1)
set_option maxRecDepth 100000 in
set_option maxHeartbeats 4000000 in
theorem Read_in (s S : ByteArray) (w : World) (hs : s.size ≤ 1000) (hr : rightL s.data.toList = true) (hS : S.size ≤ 1000000) :
    Calls Tryd.prog 19 #[.string s, .string S] w (RdPost w (readL s.data.toList S)) := by
  have rc := Right_c s w (by omega)
  rw [hr] at rc
  have HR := Lib.hid hr
  obtain ⟨j0, hj, hz0, hz1, hz2⟩ := info_parts infoF
  clear hr
  go_enter Tryd.func19, Tryd.ntmps19
  go_wp2_with fail
  refine rc.mono ?_
  rintro e w0 ⟨rfl, hb0⟩
  have HB0 := Lib.hid hb0
  clear rc hb0
  have R0 := Lib.hid (show RdRel w0 s.data.toList S s.size (.string S) (.slice none 0 0) (.int .i64 0) w0 from
    ⟨0, [], S, (Lib.size_eq s), Nat.zero_le _, rfl, rfl, World.ownsRow_nil _ _ _ _, Below.refl _ _, Nat.le_refl _, rfl, by simp⟩)
  go_wp2_with fail
  go_loopg [1, 6, 16] s.size (fun g s1 s6 s16 wr => RdRel w0 s.data.toList S g s1 s6 s16 wr)
  case atStart => exact R0.out
  case round =>
    obtain ⟨k, acc, r, rfl, hk, rfl, rfl, ho, hb, hrs, hacc, hw⟩ := hrel
    clear R0
    have hsl : s.data.toList.length = s.size := (Lib.size_eq s).symm
    by_cases hks : k < s.size
    · have hks' : k < s.data.toList.length := by omega
      have HST := Lib.hid (readL_step hks' hw)
      have hge : s.data.toList[k] = s[k] := by simp; rfl
      rw [hge] at HST
      have HB := Lib.hid hb
      have HO := Lib.hid ho
      clear hw hb hge ho
      by_cases k110 : s[k] = 110
      · have W : ∀ w, Calls Tryd.prog 53 #[.int .u8 110] w (fun e w' => e = .returned (.int .i64 8) ∧ w = w') := fun w => width_c 110 w
        rw [k110] at HST
        have HW := Lib.hid (rd1_num 110 8 r rfl rfl)
        by_cases hn : r.size < 8
        · have HE := Lib.hid (HST.out.1 (by rw [HW.out, if_pos hn]))
          go_wp2_with (first | (go_at_call 53; refine (W _).mono ?_; rintro e w1 ⟨rfl, rfl⟩))
          go_ret2
          exact rdPost_none HE.out rfl ((HB0.out).trans ((HB.out).mono (HB0.out).size))
        · have HE := Lib.hid (HST.out.2 _ _ (by rw [HW.out, if_neg hn]))
          have hn' : (8 : Int) ≤ (r.size : Int) := by omega
          obtain ⟨N, hN⟩ : ∃ N, N = toldN 0 (r.extract 0 8).data.toList := ⟨_, rfl⟩
          rw [← hN] at HE
          have TC : ∀ w, Calls Tryd.prog 61 #[.string (r.extract 0 8)] w fun e w' => e = .returned (.int .u64 N) ∧ Below w.heap.size w w' := fun w => by rw [hN]; exact told_c _ w (by simp; omega)
          clear hN
          go_wp2_with (first | (go_at_call 53; refine (W _).mono ?_; rintro e w1 ⟨rfl, rfl⟩))
          refine (TC _).mono ?_
          rintro e w2 ⟨rfl, g2⟩
          have h2 : w2.heap[wr.heap.size]? = some (.cells #[.int .u64 0, .string (r.extract 0 8)] 60 (0, 0)) := (g2.block _ (by simp)).trans (heap_alloc_new _ _)
          have q1 := cell_lit (i := 0) h2 rfl
          have q2 := cell_lit (i := 1) h2 rfl
          have q3 := frozen_lit h2 0
          have q4 := frozen_lit h2 1
          have hne : u6.ownBlock ≠ some wr.heap.size := fun e => absurd ((HO.out).lt _ e).2 (Nat.lt_irrefl _)
          have X1 := rd_alloc (.cells #[.int .u64 0, .string (r.extract 0 8)] 60) HO.out HB.out
          have X2 := rd_below X1.1 X1.2 g2
          have X3 := rd_set (i := 0) (a := .int .u64 N) X2.1 X2.2 (HB.out).size hne
          have X4 := rd_set (i := 1) (a := .string ⟨#[]⟩) X3.1 X3.2 (HB.out).size hne
          have h3 : ((w2.setCell ⟨wr.heap.size, 0, none⟩ (.int .u64 N)).setCell ⟨wr.heap.size, 1, none⟩ (.string ⟨#[]⟩)).heap[wr.heap.size]? = some (.cells #[.int .u64 N, .string ⟨#[]⟩] 60 (0, 0)) := heap_set_lit (heap_set_lit h2 _) _
          have X5 := Lib.hid X4
          have H3 := Lib.hid h3
          clear X1 X2 X3 X4 h3 g2 h2 hne
          go_wp2_with fail
          generalize ((w2.setCell ⟨wr.heap.size, 0, none⟩ (.int .u64 N)).setCell ⟨wr.heap.size, 1, none⟩ (.string ⟨#[]⟩)) = V at *
          have q5 := cell_lit (i := 0) H3.out rfl
          have q6 := cell_lit (i := 1) H3.out rfl
          clear q1 q2 q3 q4
          go_region_law (
            refine step_append_lies _ (by rfl) _ _ _ (by rfl) w0.heap.size 60 j0 _ 2 24 Tryd.underlying22 hj hz0 hz1 hz2 rfl (by omega) u6 _ _ (by rfl) (((X5.out).1.alloc _).drew)
              ⟨V.heap.size, 0, none⟩ 1 1 [.int .u64 N, .string ⟨#[]⟩] (by rfl) (by rfl) (World.news_of_block (cs := #[.int .u64 N, .string ⟨#[]⟩]) (t := 60) (fr := (0, 0)) (heap_alloc_new V _)) (one2 _ _ rfl rfl)
              (by decide) (by unfold maxLen; omega) (by omega) (by have := (X5.out).2.size; simp; omega) (V.heap.size + 1) (World.size_alloc _ _) ?_; intro gg cap w4 hown4 hgrow hat hlt
            have R1 := Lib.hid (rd_next (r' := r.extract 8 r.size) hks' (X5.out).1 (X5.out).2 hgrow hown4 (by simp; omega) hacc HE.out)
            clear hown4 hgrow hat hlt)
          go_wp2_with fail
          go_roundg (s.data.toList.length - (k + 1))
          case measure => omega
          case rel => exact R1.out
      · by_cases k104 : s[k] = 104
        · have W : ∀ w, Calls Tryd.prog 53 #[.int .u8 104] w (fun e w' => e = .returned (.int .i64 4) ∧ w = w') := fun w => width_c 104 w
          rw [k104] at HST
          have HW := Lib.hid (rd1_num 104 4 r rfl rfl)
          by_cases hn : r.size < 4
          · have HE := Lib.hid (HST.out.1 (by rw [HW.out, if_pos hn]))
            go_wp2_with (first | (go_at_call 53; refine (W _).mono ?_; rintro e w1 ⟨rfl, rfl⟩))
            go_ret2
            exact rdPost_none HE.out rfl ((HB0.out).trans ((HB.out).mono (HB0.out).size))
          · have HE := Lib.hid (HST.out.2 _ _ (by rw [HW.out, if_neg hn]))
            have hn' : (4 : Int) ≤ (r.size : Int) := by omega
            obtain ⟨N, hN⟩ : ∃ N, N = toldN 0 (r.extract 0 4).data.toList := ⟨_, rfl⟩
            rw [← hN] at HE
            have TC : ∀ w, Calls Tryd.prog 61 #[.string (r.extract 0 4)] w fun e w' => e = .returned (.int .u64 N) ∧ Below w.heap.size w w' := fun w => by rw [hN]; exact told_c _ w (by simp; omega)
            clear hN
            go_wp2_with (first | (go_at_call 53; refine (W _).mono ?_; rintro e w1 ⟨rfl, rfl⟩))
            refine (TC _).mono ?_
            rintro e w2 ⟨rfl, g2⟩
            have h2 : w2.heap[wr.heap.size]? = some (.cells #[.int .u64 0, .string (r.extract 0 4)] 60 (0, 0)) := (g2.block _ (by simp)).trans (heap_alloc_new _ _)
            have q1 := cell_lit (i := 0) h2 rfl
            have q2 := cell_lit (i := 1) h2 rfl
            have q3 := frozen_lit h2 0
            have q4 := frozen_lit h2 1
            have hne : u6.ownBlock ≠ some wr.heap.size := fun e => absurd ((HO.out).lt _ e).2 (Nat.lt_irrefl _)
            have X1 := rd_alloc (.cells #[.int .u64 0, .string (r.extract 0 4)] 60) HO.out HB.out
            have X2 := rd_below X1.1 X1.2 g2
            have X3 := rd_set (i := 0) (a := .int .u64 N) X2.1 X2.2 (HB.out).size hne
            have X4 := rd_set (i := 1) (a := .string ⟨#[]⟩) X3.1 X3.2 (HB.out).size hne
            have h3 : ((w2.setCell ⟨wr.heap.size, 0, none⟩ (.int .u64 N)).setCell ⟨wr.heap.size, 1, none⟩ (.string ⟨#[]⟩)).heap[wr.heap.size]? = some (.cells #[.int .u64 N, .string ⟨#[]⟩] 60 (0, 0)) := heap_set_lit (heap_set_lit h2 _) _
            have X5 := Lib.hid X4
            have H3 := Lib.hid h3
            clear X1 X2 X3 X4 h3 g2 h2 hne
            go_wp2_with fail
            generalize ((w2.setCell ⟨wr.heap.size, 0, none⟩ (.int .u64 N)).setCell ⟨wr.heap.size, 1, none⟩ (.string ⟨#[]⟩)) = V at *
            have q5 := cell_lit (i := 0) H3.out rfl
            have q6 := cell_lit (i := 1) H3.out rfl
            clear q1 q2 q3 q4
            go_region_law (
              refine step_append_lies _ (by rfl) _ _ _ (by rfl) w0.heap.size 60 j0 _ 2 24 Tryd.underlying22 hj hz0 hz1 hz2 rfl (by omega) u6 _ _ (by rfl) (((X5.out).1.alloc _).drew)
                ⟨V.heap.size, 0, none⟩ 1 1 [.int .u64 N, .string ⟨#[]⟩] (by rfl) (by rfl) (World.news_of_block (cs := #[.int .u64 N, .string ⟨#[]⟩]) (t := 60) (fr := (0, 0)) (heap_alloc_new V _)) (one2 _ _ rfl rfl)
                (by decide) (by unfold maxLen; omega) (by omega) (by have := (X5.out).2.size; simp; omega) (V.heap.size + 1) (World.size_alloc _ _) ?_; intro gg cap w4 hown4 hgrow hat hlt
              have R1 := Lib.hid (rd_next (r' := r.extract 4 r.size) hks' (X5.out).1 (X5.out).2 hgrow hown4 (by simp; omega) hacc HE.out)
              clear hown4 hgrow hat hlt)
            go_wp2_with fail
            go_roundg (s.data.toList.length - (k + 1))
            case measure => omega
            case rel => exact R1.out
        · by_cases k98 : s[k] = 98
          · have W : ∀ w, Calls Tryd.prog 53 #[.int .u8 98] w (fun e w' => e = .returned (.int .i64 1) ∧ w = w') := fun w => width_c 98 w
            rw [k98] at HST
            have HW := Lib.hid (rd1_num 98 1 r rfl rfl)
            by_cases hn : r.size < 1
            · have HE := Lib.hid (HST.out.1 (by rw [HW.out, if_pos hn]))
              go_wp2_with (first | (go_at_call 53; refine (W _).mono ?_; rintro e w1 ⟨rfl, rfl⟩))
              go_ret2
              exact rdPost_none HE.out rfl ((HB0.out).trans ((HB.out).mono (HB0.out).size))
            · have HE := Lib.hid (HST.out.2 _ _ (by rw [HW.out, if_neg hn]))
              have hn' : (1 : Int) ≤ (r.size : Int) := by omega
              obtain ⟨N, hN⟩ : ∃ N, N = toldN 0 (r.extract 0 1).data.toList := ⟨_, rfl⟩
              rw [← hN] at HE
              have TC : ∀ w, Calls Tryd.prog 61 #[.string (r.extract 0 1)] w fun e w' => e = .returned (.int .u64 N) ∧ Below w.heap.size w w' := fun w => by rw [hN]; exact told_c _ w (by simp; omega)
              clear hN
              go_wp2_with (first | (go_at_call 53; refine (W _).mono ?_; rintro e w1 ⟨rfl, rfl⟩))
              refine (TC _).mono ?_
              rintro e w2 ⟨rfl, g2⟩
              have h2 : w2.heap[wr.heap.size]? = some (.cells #[.int .u64 0, .string (r.extract 0 1)] 60 (0, 0)) := (g2.block _ (by simp)).trans (heap_alloc_new _ _)
              have q1 := cell_lit (i := 0) h2 rfl
              have q2 := cell_lit (i := 1) h2 rfl
              have q3 := frozen_lit h2 0
              have q4 := frozen_lit h2 1
              have hne : u6.ownBlock ≠ some wr.heap.size := fun e => absurd ((HO.out).lt _ e).2 (Nat.lt_irrefl _)
              have X1 := rd_alloc (.cells #[.int .u64 0, .string (r.extract 0 1)] 60) HO.out HB.out
              have X2 := rd_below X1.1 X1.2 g2
              have X3 := rd_set (i := 0) (a := .int .u64 N) X2.1 X2.2 (HB.out).size hne
              have X4 := rd_set (i := 1) (a := .string ⟨#[]⟩) X3.1 X3.2 (HB.out).size hne
              have h3 : ((w2.setCell ⟨wr.heap.size, 0, none⟩ (.int .u64 N)).setCell ⟨wr.heap.size, 1, none⟩ (.string ⟨#[]⟩)).heap[wr.heap.size]? = some (.cells #[.int .u64 N, .string ⟨#[]⟩] 60 (0, 0)) := heap_set_lit (heap_set_lit h2 _) _
              have X5 := Lib.hid X4
              have H3 := Lib.hid h3
              clear X1 X2 X3 X4 h3 g2 h2 hne
              go_wp2_with fail
              generalize ((w2.setCell ⟨wr.heap.size, 0, none⟩ (.int .u64 N)).setCell ⟨wr.heap.size, 1, none⟩ (.string ⟨#[]⟩)) = V at *
              have q5 := cell_lit (i := 0) H3.out rfl
              have q6 := cell_lit (i := 1) H3.out rfl
              clear q1 q2 q3 q4
              go_region_law (
                refine step_append_lies _ (by rfl) _ _ _ (by rfl) w0.heap.size 60 j0 _ 2 24 Tryd.underlying22 hj hz0 hz1 hz2 rfl (by omega) u6 _ _ (by rfl) (((X5.out).1.alloc _).drew)
                  ⟨V.heap.size, 0, none⟩ 1 1 [.int .u64 N, .string ⟨#[]⟩] (by rfl) (by rfl) (World.news_of_block (cs := #[.int .u64 N, .string ⟨#[]⟩]) (t := 60) (fr := (0, 0)) (heap_alloc_new V _)) (one2 _ _ rfl rfl)
                  (by decide) (by unfold maxLen; omega) (by omega) (by have := (X5.out).2.size; simp; omega) (V.heap.size + 1) (World.size_alloc _ _) ?_; intro gg cap w4 hown4 hgrow hat hlt
                have R1 := Lib.hid (rd_next (r' := r.extract 1 r.size) hks' (X5.out).1 (X5.out).2 hgrow hown4 (by simp; omega) hacc HE.out)
                clear hown4 hgrow hat hlt)
              go_wp2_with fail
              go_roundg (s.data.toList.length - (k + 1))
              case measure => omega
              case rel => exact R1.out
          · by_cases k116 : s[k] = 116
            · have W : ∀ w, Calls Tryd.prog 53 #[.int .u8 116] w (fun e w' => e = .returned (.int .i64 0) ∧ w = w') := fun w => width_c 116 w
              rw [k116] at HST
              by_cases h2 : r.size < 2
              · have HE := Lib.hid (HST.out.1 (rd1_t_no r h2))
                go_wp2_with (first | (go_at_call 53; refine (W _).mono ?_; rintro e w1 ⟨rfl, rfl⟩))
                go_ret2
                exact rdPost_none HE.out rfl ((HB0.out).trans ((HB.out).mono (HB0.out).size))
              · have hn' : (2 : Int) ≤ (r.size : Int) := by omega
                have HT := Lib.hid (rd1_t r h2)
                obtain ⟨N, hN⟩ : ∃ N, N = toldN 0 (r.extract 0 2).data.toList := ⟨_, rfl⟩
                have hNb : N < 65536 := by rw [hN]; exact toldN_two _ (by rw [← Lib.size_eq]; simp; omega)
                have TC : ∀ w, Calls Tryd.prog 61 #[.string (r.extract 0 2)] w fun e w' => e = .returned (.int .u64 N) ∧ Below w.heap.size w w' := fun w => by rw [hN]; exact told_c _ w (by simp; omega)
                have hwr : IntKind.i64.wrap (N : Int) = N := by simp [IntKind.wrap, IntKind.bits, IntKind.signed]; omega
                obtain ⟨r2, hr2⟩ : ∃ r2, r2 = r.extract 2 r.size := ⟨_, rfl⟩
                have hr2s : r2.size = r.size - 2 := by rw [hr2]; simp
                rw [← hN, ← hr2] at HT
                clear hN
                go_wp2_with (first | (go_at_call 53; refine (W _).mono ?_; rintro e w1 ⟨rfl, rfl⟩))
                go_region_held3 (fun _ => True) (trivial) ((go_at_call 61; refine (TC _).mono ?_; rintro e w2 ⟨rfl, g2⟩))
                have X1 := rd_below (HO.out).drew (HB.out).drew g2
                rw [← hr2]
                clear hr2
                by_cases hn : r.size - 2 < N
                · have HE := Lib.hid (HST.out.1 (by rw [HT.out, if_pos (by omega)]))
                  have X5 := Lib.hid X1
                  clear X1 g2
                  go_wp2_with fail
                  go_ret2
                  exact rdPost_none HE.out rfl ((HB0.out).trans ((X5.out.2).mono (HB0.out).size))
                · have HE := Lib.hid (HST.out.2 _ _ (by rw [HT.out, if_neg (by omega)]))
                  have X5 := Lib.hid (rd_alloc (.cells #[.int .u64 0, .string (r2.extract 0 N)] 60) X1.1 X1.2)
                  rw [hr2s] at HE
                  have hn3 : N ≤ r.size - 2 := by omega
                  have H3 := Lib.hid (heap_alloc_new w2 (.cells #[.int .u64 0, .string (r2.extract 0 N)] 60))
                  clear X1 g2
                  go_wp2_with fail
                  generalize (w2.alloc (.cells #[.int .u64 0, .string (r2.extract 0 N)] 60)) = V at *
                  have q5 := cell_lit (i := 0) H3.out rfl
                  have q6 := cell_lit (i := 1) H3.out rfl
                  go_region_law (
                    refine step_append_lies _ (by rfl) _ _ _ (by rfl) w0.heap.size 60 j0 _ 2 24 Tryd.underlying22 hj hz0 hz1 hz2 rfl (by omega) u6 _ _ (by rfl) (((X5.out).1.alloc _).drew)
                      ⟨V.heap.size, 0, none⟩ 1 1 [.int .u64 0, .string (r2.extract 0 N)] (by rfl) (by rfl) (World.news_of_block (cs := #[.int .u64 0, .string (r2.extract 0 N)]) (t := 60) (fr := (0, 0)) (heap_alloc_new V _)) (one2 _ _ rfl rfl)
                      (by decide) (by unfold maxLen; omega) (by omega) (by have := (X5.out).2.size; simp; omega) (V.heap.size + 1) (World.size_alloc _ _) ?_; intro gg cap w4 hown4 hgrow hat hlt
                    have R1 := Lib.hid (rd_next (r' := r2.extract N (r.size - 2)) hks' (X5.out).1 (X5.out).2 hgrow hown4 (ex_le _ _ _ (by omega)) hacc HE.out)
                    clear hown4 hgrow hat hlt)
                  go_wp2_with fail
                  go_roundg (s.data.toList.length - (k + 1))
                  case measure => omega
                  case rel => exact R1.out
            · have k114 : s[k] = 114 := by
                have := kind_right hks' HR.out
                have hge : s.data.toList[k] = s[k] := by simp; rfl
                rw [hge] at this
                exact this.resolve_left (by simp [kindB, k110, k104, k98, k116])
              have W : ∀ w, Calls Tryd.prog 53 #[.int .u8 114] w (fun e w' => e = .returned (.int .i64 0) ∧ w = w') := fun w => width_c 114 w
              rw [k114] at HST
              clear k110 k104 k98 k116
              have HE := Lib.hid (HST.out.2 _ _ (show rd1 114 r = some ((0, r), ⟨#[]⟩) from rfl))
              have X5 := Lib.hid (rd_alloc (.cells #[.int .u64 0, .string r] 60) HO.out HB.out)
              have H3 := Lib.hid (heap_alloc_new wr (.cells #[.int .u64 0, .string r] 60))
              go_wp2_with (first | (go_at_call 53; refine (W _).mono ?_; rintro e w1 ⟨rfl, rfl⟩))
              generalize (wr.alloc (.cells #[.int .u64 0, .string r] 60)) = V at *
              have q5 := cell_lit (i := 0) H3.out rfl
              have q6 := cell_lit (i := 1) H3.out rfl
              go_region_law (
                refine step_append_lies _ (by rfl) _ _ _ (by rfl) w0.heap.size 60 j0 _ 2 24 Tryd.underlying22 hj hz0 hz1 hz2 rfl (by omega) u6 _ _ (by rfl) (((X5.out).1.alloc _).drew)
                  ⟨V.heap.size, 0, none⟩ 1 1 [.int .u64 0, .string r] (by rfl) (by rfl) (World.news_of_block (cs := #[.int .u64 0, .string r]) (t := 60) (fr := (0, 0)) (heap_alloc_new V _)) (one2 _ _ rfl rfl)
                  (by decide) (by unfold maxLen; omega) (by omega) (by have := (X5.out).2.size; simp; omega) (V.heap.size + 1) (World.size_alloc _ _) ?_; intro gg cap w4 hown4 hgrow hat hlt
                have R1 := Lib.hid (rd_next (r' := ⟨#[]⟩) hks' (X5.out).1 (X5.out).2 hgrow hown4 (Nat.zero_le _) hacc HE.out)
                clear hown4 hgrow hat hlt)
              go_wp2_with fail
              go_roundg (s.data.toList.length - (k + 1))
              case measure => omega
              case rel => exact R1.out
    · obtain rfl : k = s.size := by omega
      have HB := Lib.hid hb
      have HO := Lib.hid ho
      have hdr : s.data.toList.drop s.size = [] := by rw [List.drop_eq_nil_iff]; omega
      rw [hdr] at hw
      by_cases hrn : r.toList = []
      · have HP := Lib.hid (show RdPost w (readL s.data.toList S) (.returned (.tuple #[u6, .bool true])) wr from rdPost_some hw hrn hacc ho hb HB0.out)
        clear ho hb hw
        go_wp2_with fail
        go_ret2
        exact HP.out
      · have HE := Lib.hid (show readL s.data.toList S = none by rw [hw]; simp [readL, hrn])
        have q1 : (r.toList == []) = false := by simpa using hrn
        have q2 : (r.toList != []) = true := by simpa using hrn
        have q3 : ¬ r.size = 0 := fun h => hrn ((toList_nil r).2 h)
        clear ho hb hw
        go_wp2_with fail
        go_ret2
        exact rdPost_none HE.out rfl ((HB0.out).trans ((HB.out).mono (HB0.out).size))
end Go.Proofs.YtoblhikablbapaaDoor
