/- sector's reference: Read, Fall, New: walks. -/
import Derived.Test.YtjgihpabbogpjaaRefD
namespace Go.Proofs.Ytjgihpabbogpjaa
set_option linter.unusedVariables false
set_option maxRecDepth 100000
set_option maxHeartbeats 4000000
open Go.RowKit
def lastL (f : ByteArray) (l : List (Int × ByteArray)) (i : Int) : ByteArray := l.foldl (fun s p => if p.1 = i then p.2 else s) f
theorem lastL_take {f : ByteArray} {l : List (Int × ByteArray)} {i : Int} {k : Nat} (h : k < l.length) : lastL f (l.take (k + 1)) i = if l[k].1 = i then l[k].2 else lastL f (l.take k) i := by
  unfold lastL
  rw [List.take_succ_eq_append_getElem h, List.foldl_append]; rfl
def rkRead (R : Rk) (i : Int) : ByteArray × Int :=
  if R.off = true then (⟨#[]⟩, 3) else if i < 0 ∨ (R.firm.length : Int) ≤ i then (⟨#[]⟩, 2) else (lastL (R.firm.getD i.toNat ⟨#[]⟩) R.loose i, 0)
theorem rlen {w : World} {base : Nat} {e : TypeId} {size : Nat} {a : Option Addr} {m c n : Nat} {xs : List Value} (h : w.ownsRow base e size (.slice a m c) n xs) : m = n := by
  rcases h.2 with ⟨e, e2⟩ | ⟨gg, cap, cur, e, -⟩
  · cases e; exact e2.symm
  · cases e; rfl
def RdRel (w : World) (f : ByteArray) (L : List (Int × ByteArray)) (i : Int) (g : Nat) (s6 s7 : Value) (wr : World) : Prop :=
  ∃ k, g = L.length - k ∧ k ≤ L.length ∧ s7 = .int .i64 k ∧ s6 = .string (lastL f (L.take k) i) ∧ w = wr
theorem RRead_c4 (rb : Nat) (R : Rk) (G : Nat → Prop) (i : Int) (w : World) (h : IsRdisk w G rb R) (hn : R.firm.length ≤ 100000) (hL : R.loose.length ≤ 100000) :
    Calls Try.prog 28 #[.pointer (some ⟨rb, 0, none⟩), .int .i64 i] w fun e w' => e = .returned (.tuple #[.string (rkRead R i).1, .int .i64 (rkRead R i).2]) ∧ w = w' := by
  obtain ⟨fv, lv, h⟩ := h
  obtain ⟨c0, c1, -, c3⟩ := h.c
  obtain ⟨fa, fm, fc, rfl⟩ := slice_form h.firm
  obtain ⟨la, lm, lc, rfl⟩ := slice_form h.loose
  obtain rfl := rlen h.firm
  obtain rfl := rlen h.loose
  have HW := Lib.hid (wrsAt_of_own h.loose)
  cases ho : R.off
  · rw [ho] at c3
    by_cases hi : i < 0 ∨ (R.firm.length : Int) ≤ i
    · have HE := Lib.hid (show rkRead R i = (⟨#[]⟩, 2) by unfold rkRead; rw [ho, if_neg (by simp), if_pos hi])
      clear h ho
      by_cases i0 : i < 0
      · clear hi
        go_enter Try.func28, Try.ntmps28
        go_wp2_with fail
        go_ret2
        rw [HE.out]
        exact ⟨rfl, rfl⟩
      · have i1 : (R.firm.length : Int) ≤ i := hi.resolve_left i0
        clear hi
        go_enter Try.func28, Try.ntmps28
        go_wp2_with fail
        go_ret2
        rw [HE.out]
        exact ⟨rfl, rfl⟩
    · obtain ⟨m, rfl⟩ : ∃ m : Nat, i = m := ⟨i.toNat, by omega⟩
      have hm : m < R.firm.length := by omega
      have HE := Lib.hid (show rkRead R m = (lastL R.firm[m] R.loose m, 0) by unfold rkRead; rw [ho, if_neg (by simp), if_neg (by omega)]; simp [hm])
      obtain ⟨gg, cap, he, hgg, hgl⟩ := h.firm.form (by omega)
      cases he
      have t0 := h.firm.cellAt m (by omega)
      rw [List.getElem?_eq_getElem (by rw [strsV_length]; exact hm)] at t0
      simp only [strsV, List.getElem_map] at t0
      generalize R.firm[m] = f at *
      generalize R.loose = L at *
      clear h ho hi
      go_enter Try.func28, Try.ntmps28
      go_wp2_with fail
      go_loopg [6, 7] L.length (fun g s6 s7 wr => RdRel w f L m g s6 s7 wr)
      case atStart => exact ⟨0, by omega, Nat.zero_le _, rfl, rfl, rfl⟩
      case round =>
        obtain ⟨k, rfl, hk, rfl, rfl, rfl⟩ := hrel
        by_cases hlt : k < L.length
        · obtain ⟨g, rfl, d0, d1, lg⟩ := (HW.out).get k hlt
          have hst := lastL_take (f := f) (i := (m : Int)) hlt
          generalize L[k] = p at *
          generalize lastL f (L.take k) m = z at *
          by_cases hp : p.1 = (m : Int)
          · rw [if_pos hp] at hst
            have HST := Lib.hid hst
            have q1 : (p.1 == (m : Int)) = true := by simpa using hp
            clear hst hp
            go_wp2_with fail
            go_roundg (L.length - (k + 1))
            case measure => omega
            case rel => exact ⟨k + 1, rfl, by omega, by simp, by rw [HST.out], rfl⟩
          · rw [if_neg hp] at hst
            have HST := Lib.hid hst
            have q1 : (p.1 == (m : Int)) = false := by simpa using hp
            clear hst hp
            go_wp2_with fail
            go_roundg (L.length - (k + 1))
            case measure => omega
            case rel => exact ⟨k + 1, rfl, by omega, by simp, by rw [HST.out], rfl⟩
        · obtain rfl : k = L.length := by omega
          rw [List.take_length]
          go_wp2_with fail
          go_ret2
          rw [HE.out]
          exact ⟨rfl, rfl⟩
  · have HE := Lib.hid (show rkRead R i = (⟨#[]⟩, 3) by unfold rkRead; rw [ho]; rfl)
    rw [ho] at c3
    clear h ho
    go_enter Try.func28, Try.ntmps28
    go_wp2_with fail
    go_ret2
    rw [HE.out]
    exact ⟨rfl, rfl⟩
def rkNew (n : Nat) : Rk := ⟨List.replicate n pad0, [], -1, false⟩
def NwRel (w : World) (n : Nat) (g : Nat) (s5 : Value) (wr : World) : Prop :=
  ∃ k fv, g = n - k ∧ k ≤ n ∧ s5 = .int .i64 k ∧ wr.heap[w.heap.size]? = some (.cells #[fv, .slice none 0 0, .int .i64 (-1), .bool false] 64 (0, 0)) ∧ wr.ownsRow w.heap.size 9 1 fv k (strsV (List.replicate k pad0)) ∧ Below w.heap.size w wr
theorem RNew_c (n : Nat) (w : World) (hn : n ≤ 100000) :
    Calls Try.prog 18 #[.int .i64 n] w fun e w' => e = .returned (.pointer (some ⟨w.heap.size, 0, none⟩)) ∧ Hid (∃ G, IsRdisk w' G w.heap.size (rkNew n) ∧ (∀ k, G k → w.heap.size ≤ k) ∧ Below w.heap.size w w') := by
  have FU := Lib.hid (fun w => RFull_c ⟨#[]⟩ w (by decide))
  have hp : pad ⟨#[]⟩ = pad0 := rfl
  rw [hp] at FU
  clear hp
  generalize hpd : pad0 = z at *
  have HPD := Lib.hid hpd
  clear hpd
  go_enter Try.func18, Try.ntmps18
  go_wp2_with fail
  refine (FU.out _).mono ?_
  rintro e w1 ⟨rfl, hb⟩
  have HR : Hid (NwRel w n n (.int .i64 0) w1) := Lib.hid ⟨0, .slice none 0 0, rfl, Nat.zero_le _, rfl, (hb.block _ (by simp)).trans (heap_alloc_new _ _), World.ownsRow_nil _ _ _ _, ((Below.refl w.heap.size w).alloc (Nat.le_refl _) _).trans (hb.mono (by simp))⟩
  clear hb
  go_wp2_with fail
  go_loopg [5] n (fun g s5 wr => NwRel w n g s5 wr)
  case atStart => exact HR.out
  case round =>
    obtain ⟨k, fv, rfl, hk, rfl, hc, ho, hb⟩ := hrel
    clear HR
    have HB := Lib.hid hb
    have hrl := lt_of_heap hc
    obtain ⟨fa, fm, fc, rfl⟩ := slice_form ho
    obtain rfl := rlen ho
    by_cases hlt : fm < n
    · obtain ⟨j0, hj, hz0, hz1, hz2⟩ := info_parts infoS
      obtain ⟨x, w2, hr, ho2, hg, ha⟩ := run_append_y (P := Try.prog) (w := wr.alloc (.cells #[.string z] 9)) 61 61 w.heap.size 9 j0 _ 1 16 Try.underlying61 hj hz0 hz1 hz2 rfl (by decide) (.slice fa fm fc) fm _
        (ho.alloc _) (.slice (some ⟨wr.heap.size, 0, none⟩) 1 1) 1 [.string z] (yields_box wr #[.string z] _ 1 1) rfl (one1 _ rfl) (by unfold maxLen; omega) (by omega) (by have := hb.size; simp; omega)
      have hob : (Value.slice fa fm fc).ownBlock ≠ some w.heap.size := fun e => by
        obtain ⟨cur, hcc⟩ := ownsRow_cells ho e
        rw [hc] at hcc; simp at hcc
      have hc2 : w2.heap[w.heap.size]? = some (.cells #[.slice fa fm fc, .slice none 0 0, .int .i64 (-1), .bool false] 64 (0, 0)) := by
        rw [hg.block w.heap.size (by simp; omega) (fun e => hob e.symm), heap_alloc_lt _ hrl]; exact hc
      have hb2 : Below w.heap.size w w2 := (hb.alloc hb.size _).grown hg (by have := hb.size; simp; omega) (fun k hk => by have := (ho.lt k hk).1; exact this)
      obtain ⟨xa, xm, xc, rfl⟩ := slice_form ho2
      have hxb : (Value.slice xa xm xc).ownBlock ≠ some w.heap.size := fun e => by
        obtain ⟨cur, hcc⟩ := ownsRow_cells ho2 e
        rw [hc2] at hcc; simp at hcc
      have q0 := cell_lit hc2 (i := 0) rfl
      have f0 := frozen_lit hc2 0
      have p0 := cell_lit hc (i := 0) rfl
      have HC2 := Lib.hid hc2
      have HO2 := Lib.hid ho2
      have HB2 := Lib.hid hb2
      have HXB := Lib.hid hxb
      clear hb ho hg ha hob hc2 hb2 ho2 hxb hj hz0 hz1 hz2 hc
      go_wp2_with (at_builtin; refine wpList_append_run (by rfl) _ _ _ (by rfl) _ _ _ _ (by rfl) (by rfl) hr ?_)
      go_roundg (n - (fm + 1))
      case measure => omega
      case rel =>
        refine ⟨fm + 1, .slice xa xm xc, rfl, by omega, by simp, heap_set_lit HC2.out _, ?_, HB2.out.setCell (Nat.le_refl _) _⟩
        have := ownsRow_upd HO2.out (upd_setCell w2 w.heap.size 0 (.slice xa xm xc)) (fun k hk e => HXB.out (by rw [hk, e]))
        rw [List.replicate_succ']
        simp only [strsV, List.map_append, List.map_cons, List.map_nil] at this ⊢
        rw [← HPD.out] at this
        exact this
    · obtain rfl : fm = n := by omega
      have HD : Hid (∃ G, IsRdisk wr G w.heap.size (rkNew fm) ∧ (∀ k, G k → w.heap.size ≤ k) ∧ Below w.heap.size w wr) := Lib.hid ⟨owned w.heap.size (.slice fa fm fc) (.slice none 0 0), ⟨.slice fa fm fc, .slice none 0 0, hc, by
          show wr.ownsRow 0 9 1 (.slice fa fm fc) (List.replicate fm pad0).length (strsV (List.replicate fm pad0))
          rw [List.length_replicate]
          exact ⟨ho.1, ho.2.imp id (fun ⟨g, cap, cur, a, b, c⟩ => ⟨g, cap, cur, a, Nat.zero_le _, c⟩)⟩, World.ownsRow_nil _ _ _ _, fun k => Iff.rfl, (show (-1 : Int) ≤ -1 by decide), (show (-1 : Int) ≤ 9223372036854775807 by decide)⟩, fun k hk => by
          rcases hk with rfl | hk | hk
          · exact Nat.le_refl _
          · exact (ho.lt k hk).1
          · simp [Value.ownBlock] at hk, hb⟩
      clear hc ho hb
      go_wp2_with fail
      go_ret
      exact ⟨rfl, HD.out⟩
end Go.Proofs.Ytjgihpabbogpjaa
