/- pack.Read whole; the reference's Read. -/
import Derived.Test.YtoblhikablbapaaDoorPackR
namespace Go.Proofs.YtoblhikablbapaaDoor
set_option linter.unusedVariables false
open Go.RowKit
def readF (ks : List UInt8) (S : ByteArray) : Option (List Fld) := if rightL ks = true then readL ks S else none
theorem Read_c (s S : ByteArray) (w : World) (hs : s.size ≤ 1000) (hS : S.size ≤ 1000000) :
    Calls Tryd.prog 19 #[.string s, .string S] w (RdPost w (readF s.data.toList S)) := by
  cases hr : rightL s.data.toList
  · have HE := Lib.hid (show readF s.data.toList S = none by unfold readF; rw [hr]; rfl)
    have rc := Right_c s w (by omega)
    rw [hr] at rc
    clear hr
    go_enter Tryd.func19, Tryd.ntmps19
    go_wp2_with fail
    refine rc.mono ?_
    rintro e w0 ⟨rfl, hb0⟩
    have HB0 := Lib.hid hb0
    clear rc hb0
    go_wp2_with fail
    go_ret2
    exact rdPost_none HE.out rfl HB0.out
  · rw [show readF s.data.toList S = readL s.data.toList S by unfold readF; rw [if_pos hr]]
    exact Read_in s S w hs hr hS
theorem rd_next' {w0 W w4 : World} {ks : List UInt8} {S r' : ByteArray} {v v' : Value} {k n : Nat} {T : ByteArray} {acc : List Fld} {o : Obj} (hlt : k < ks.length) (ho : W.ownsRow w0.heap.size 60 2 v k (fcells acc)) (hb : Below w0.heap.size w0 W) (hg : (W.alloc o).grownBy w4 v.ownBlock)
    (h4 : w4.ownsRow w0.heap.size 60 2 v' (k + 1) (fcells acc ++ [.int .u64 n, .string T])) (hr : r'.size ≤ S.size) (ha : acc.length = k)
    (hw : readL ks S = (readL (ks.drop (k + 1)) r').map ((acc ++ [(n, T)]) ++ ·)) : RdRel w0 ks S (ks.length - (k + 1)) (.string r') v' (.int .i64 (k + 1)) w4 := by
  refine ⟨k + 1, acc ++ [(n, T)], r', rfl, by omega, by simp, rfl, ?_, ?_, hr, by simp [ha], hw⟩
  · have e : fcells (acc ++ [(n, T)]) = fcells acc ++ [.int .u64 n, .string T] := by simp [fcells]
    rw [e]; exact h4
  · exact hb.grown ((World.grownBy_alloc W _ _).trans hg) hb.size (fun j hj => (ho.lt j hj).1)
set_option maxRecDepth 100000 in
set_option maxHeartbeats 4000000 in
theorem RRead_in (s S : ByteArray) (w : World) (hs : s.size ≤ 1000) (hr : rightL s.data.toList = true) (hS : S.size ≤ 1000000) :
    Calls Tryd.prog 21 #[.string s, .string S] w (RdPost w (readL s.data.toList S)) := by
  have rc := RRight_c s w (by omega)
  rw [hr] at rc
  have HR := Lib.hid hr
  obtain ⟨j0, hj, hz0, hz1, hz2⟩ := info_parts infoF
  clear hr
  go_enter Tryd.func21, Tryd.ntmps21
  go_wp2_with fail
  refine rc.mono ?_
  rintro e w0 ⟨rfl, hb0⟩
  subst hb0
  clear rc
  have R0 := Lib.hid (show RdRel w s.data.toList S s.size (.string S) (.slice none 0 0) (.int .i64 0) w from
    ⟨0, [], S, (Lib.size_eq s), Nat.zero_le _, rfl, rfl, World.ownsRow_nil _ _ _ _, Below.refl _ _, Nat.le_refl _, rfl, by simp⟩)
  go_wp2_with fail
  go_loopg [1, 6, 7] s.size (fun g s1 s6 s7 wr => RdRel w s.data.toList S g s1 s6 s7 wr)
  case atStart => exact R0.out
  case round =>
    obtain ⟨k, acc, r, rfl, hk, rfl, rfl, ho, hb, hrs, hacc, hw⟩ := hrel
    clear R0
    have hsl : s.data.toList.length = s.size := (Lib.size_eq s).symm
    by_cases hks : k < s.size
    · have hks' : k < s.data.toList.length := by omega
      have HST := Lib.hid (readL_step hks' hw)
      have hge : s.data.toList[k] = s[k] := by simp; rfl
      rw [hge] at HST
      have HB := Lib.hid hb
      have HO := Lib.hid ho
      clear hw hb hge ho
      by_cases k110 : s[k] = 110
      · have W : ∀ w, Calls Tryd.prog 57 #[.int .u8 110] w (fun e w' => e = .returned (.int .i64 8) ∧ w = w') := fun w => RWidth_c 110 w
        rw [k110] at HST
        have HW := Lib.hid (rd1_num 110 8 r rfl rfl)
        by_cases hn : r.size < 8
        · have HE := Lib.hid (HST.out.1 (by rw [HW.out, if_pos hn]))
          go_wp2_with (first | (go_at_call 57; refine (W _).mono ?_; rintro e w1 ⟨rfl, rfl⟩))
          go_ret2
          exact rdPost_none HE.out rfl HB.out
        · have HE := Lib.hid (HST.out.2 _ _ (by rw [HW.out, if_neg hn]))
          have hn' : (8 : Int) ≤ (r.size : Int) := by omega
          obtain ⟨N, hN⟩ : ∃ N, N = toldN 0 (r.extract 0 8).data.toList := ⟨_, rfl⟩
          rw [← hN] at HE
          have TC : ∀ w, Calls Tryd.prog 62 #[.string (r.extract 0 8)] w fun e w' => e = .returned (.int .u64 N) ∧ w = w' := fun w => by rw [hN]; exact RTold_c _ w (by simp; omega)
          clear hN
          go_wp2_with (first | (go_at_call 57; refine (W _).mono ?_; rintro e w1 ⟨rfl, rfl⟩))
          refine (TC _).mono ?_
          rintro e w2 ⟨rfl, rfl⟩
          go_wp2_with (at_builtin; refine wpList_append_lies _ rfl _ _ _ rfl w.heap.size 60 j0 _ 2 24 Tryd.underlying22 hj hz0 hz1 hz2 rfl (by decide) u6 _ _ rfl ((HO.out).alloc _) ⟨wr.heap.size, 0, none⟩ 1 1 [.int .u64 N, .string ⟨#[]⟩] rfl rfl (World.news_of_block (cs := #[.int .u64 N, .string ⟨#[]⟩]) (t := 60) (fr := (0, 0)) (heap_alloc_new wr _)) (one2 _ _ rfl rfl) (by decide) (by unfold maxLen; omega) (by omega) (by have := (HB.out).size; simp; omega) (wr.heap.size + 1) (World.size_alloc _ _) ?_; intro gg cap' w4 hown4 hgrow hat hlt; have R1 := Lib.hid (rd_next' (r' := r.extract 8 r.size) hks' HO.out HB.out hgrow hown4 (ex_le _ _ _ (by omega)) hacc HE.out); clear hown4 hgrow hat hlt)
          go_roundg (s.data.toList.length - (k + 1))
          case measure => omega
          case rel => exact R1.out
      · by_cases k104 : s[k] = 104
        · have W : ∀ w, Calls Tryd.prog 57 #[.int .u8 104] w (fun e w' => e = .returned (.int .i64 4) ∧ w = w') := fun w => RWidth_c 104 w
          rw [k104] at HST
          have HW := Lib.hid (rd1_num 104 4 r rfl rfl)
          by_cases hn : r.size < 4
          · have HE := Lib.hid (HST.out.1 (by rw [HW.out, if_pos hn]))
            go_wp2_with (first | (go_at_call 57; refine (W _).mono ?_; rintro e w1 ⟨rfl, rfl⟩))
            go_ret2
            exact rdPost_none HE.out rfl HB.out
          · have HE := Lib.hid (HST.out.2 _ _ (by rw [HW.out, if_neg hn]))
            have hn' : (4 : Int) ≤ (r.size : Int) := by omega
            obtain ⟨N, hN⟩ : ∃ N, N = toldN 0 (r.extract 0 4).data.toList := ⟨_, rfl⟩
            rw [← hN] at HE
            have TC : ∀ w, Calls Tryd.prog 62 #[.string (r.extract 0 4)] w fun e w' => e = .returned (.int .u64 N) ∧ w = w' := fun w => by rw [hN]; exact RTold_c _ w (by simp; omega)
            clear hN
            go_wp2_with (first | (go_at_call 57; refine (W _).mono ?_; rintro e w1 ⟨rfl, rfl⟩))
            refine (TC _).mono ?_
            rintro e w2 ⟨rfl, rfl⟩
            go_wp2_with (at_builtin; refine wpList_append_lies _ rfl _ _ _ rfl w.heap.size 60 j0 _ 2 24 Tryd.underlying22 hj hz0 hz1 hz2 rfl (by decide) u6 _ _ rfl ((HO.out).alloc _) ⟨wr.heap.size, 0, none⟩ 1 1 [.int .u64 N, .string ⟨#[]⟩] rfl rfl (World.news_of_block (cs := #[.int .u64 N, .string ⟨#[]⟩]) (t := 60) (fr := (0, 0)) (heap_alloc_new wr _)) (one2 _ _ rfl rfl) (by decide) (by unfold maxLen; omega) (by omega) (by have := (HB.out).size; simp; omega) (wr.heap.size + 1) (World.size_alloc _ _) ?_; intro gg cap' w4 hown4 hgrow hat hlt; have R1 := Lib.hid (rd_next' (r' := r.extract 4 r.size) hks' HO.out HB.out hgrow hown4 (ex_le _ _ _ (by omega)) hacc HE.out); clear hown4 hgrow hat hlt)
            go_roundg (s.data.toList.length - (k + 1))
            case measure => omega
            case rel => exact R1.out
        · by_cases k98 : s[k] = 98
          · have W : ∀ w, Calls Tryd.prog 57 #[.int .u8 98] w (fun e w' => e = .returned (.int .i64 1) ∧ w = w') := fun w => RWidth_c 98 w
            rw [k98] at HST
            have HW := Lib.hid (rd1_num 98 1 r rfl rfl)
            by_cases hn : r.size < 1
            · have HE := Lib.hid (HST.out.1 (by rw [HW.out, if_pos hn]))
              go_wp2_with (first | (go_at_call 57; refine (W _).mono ?_; rintro e w1 ⟨rfl, rfl⟩))
              go_ret2
              exact rdPost_none HE.out rfl HB.out
            · have HE := Lib.hid (HST.out.2 _ _ (by rw [HW.out, if_neg hn]))
              have hn' : (1 : Int) ≤ (r.size : Int) := by omega
              obtain ⟨N, hN⟩ : ∃ N, N = toldN 0 (r.extract 0 1).data.toList := ⟨_, rfl⟩
              rw [← hN] at HE
              have TC : ∀ w, Calls Tryd.prog 62 #[.string (r.extract 0 1)] w fun e w' => e = .returned (.int .u64 N) ∧ w = w' := fun w => by rw [hN]; exact RTold_c _ w (by simp; omega)
              clear hN
              go_wp2_with (first | (go_at_call 57; refine (W _).mono ?_; rintro e w1 ⟨rfl, rfl⟩))
              refine (TC _).mono ?_
              rintro e w2 ⟨rfl, rfl⟩
              go_wp2_with (at_builtin; refine wpList_append_lies _ rfl _ _ _ rfl w.heap.size 60 j0 _ 2 24 Tryd.underlying22 hj hz0 hz1 hz2 rfl (by decide) u6 _ _ rfl ((HO.out).alloc _) ⟨wr.heap.size, 0, none⟩ 1 1 [.int .u64 N, .string ⟨#[]⟩] rfl rfl (World.news_of_block (cs := #[.int .u64 N, .string ⟨#[]⟩]) (t := 60) (fr := (0, 0)) (heap_alloc_new wr _)) (one2 _ _ rfl rfl) (by decide) (by unfold maxLen; omega) (by omega) (by have := (HB.out).size; simp; omega) (wr.heap.size + 1) (World.size_alloc _ _) ?_; intro gg cap' w4 hown4 hgrow hat hlt; have R1 := Lib.hid (rd_next' (r' := r.extract 1 r.size) hks' HO.out HB.out hgrow hown4 (ex_le _ _ _ (by omega)) hacc HE.out); clear hown4 hgrow hat hlt)
              go_roundg (s.data.toList.length - (k + 1))
              case measure => omega
              case rel => exact R1.out
          · by_cases k116 : s[k] = 116
            · have W : ∀ w, Calls Tryd.prog 57 #[.int .u8 116] w (fun e w' => e = .returned (.int .i64 0) ∧ w = w') := fun w => RWidth_c 116 w
              rw [k116] at HST
              by_cases h2 : r.size < 2
              · have HE := Lib.hid (HST.out.1 (rd1_t_no r h2))
                go_wp2_with (first | (go_at_call 57; refine (W _).mono ?_; rintro e w1 ⟨rfl, rfl⟩))
                go_ret2
                exact rdPost_none HE.out rfl HB.out
              · have hn' : (2 : Int) ≤ (r.size : Int) := by omega
                have HT := Lib.hid (rd1_t r h2)
                obtain ⟨N, hN⟩ : ∃ N, N = toldN 0 (r.extract 0 2).data.toList := ⟨_, rfl⟩
                have hNb : N < 65536 := by rw [hN]; exact toldN_two _ (by rw [← Lib.size_eq]; simp; omega)
                have TC : ∀ w, Calls Tryd.prog 62 #[.string (r.extract 0 2)] w fun e w' => e = .returned (.int .u64 N) ∧ w = w' := fun w => by rw [hN]; exact RTold_c _ w (by simp; omega)
                have hr2s : (r.extract 2 r.size).size = r.size - 2 := by simp
                rw [← hN] at HT
                clear hN
                go_wp2_with (first | (go_at_call 57; refine (W _).mono ?_; rintro e w1 ⟨rfl, rfl⟩))
                refine (TC _).mono ?_
                rintro e w2 ⟨rfl, rfl⟩
                by_cases hn : r.size - 2 < N
                · have HE := Lib.hid (HST.out.1 (by rw [HT.out, if_pos (by omega)]))
                  go_wp2_with fail
                  go_ret2
                  exact rdPost_none HE.out rfl HB.out
                · have HE := Lib.hid (HST.out.2 _ _ (by rw [HT.out, if_neg (by omega)]))
                  rw [hr2s] at HE
                  have hn3 : N ≤ r.size - 2 := by omega
                  go_wp2_with (at_builtin; refine wpList_append_lies _ rfl _ _ _ rfl w.heap.size 60 j0 _ 2 24 Tryd.underlying22 hj hz0 hz1 hz2 rfl (by decide) u6 _ _ rfl ((HO.out).alloc _) ⟨wr.heap.size, 0, none⟩ 1 1 [.int .u64 0, .string ((r.extract 2 r.size).extract 0 N)] rfl rfl (World.news_of_block (cs := #[.int .u64 0, .string ((r.extract 2 r.size).extract 0 N)]) (t := 60) (fr := (0, 0)) (heap_alloc_new wr _)) (one2 _ _ rfl rfl) (by decide) (by unfold maxLen; omega) (by omega) (by have := (HB.out).size; simp; omega) (wr.heap.size + 1) (World.size_alloc _ _) ?_; intro gg cap' w4 hown4 hgrow hat hlt; have R1 := Lib.hid (rd_next' (r' := (r.extract 2 r.size).extract N (r.size - 2)) hks' HO.out HB.out hgrow hown4 (ex_le _ _ _ (by omega)) hacc HE.out); clear hown4 hgrow hat hlt)
                  go_roundg (s.data.toList.length - (k + 1))
                  case measure => omega
                  case rel => exact R1.out
            · have k114 : s[k] = 114 := by
                have := kind_right hks' HR.out
                have hge : s.data.toList[k] = s[k] := by simp; rfl
                rw [hge] at this
                exact this.resolve_left (by simp [kindB, k110, k104, k98, k116])
              have W : ∀ w, Calls Tryd.prog 57 #[.int .u8 114] w (fun e w' => e = .returned (.int .i64 0) ∧ w = w') := fun w => RWidth_c 114 w
              rw [k114] at HST
              clear k110 k104 k98 k116
              have HE := Lib.hid (HST.out.2 _ _ (show rd1 114 r = some ((0, r), ⟨#[]⟩) from rfl))
              go_wp2_with (first | (go_at_call 57; refine (W _).mono ?_; rintro e w1 ⟨rfl, rfl⟩) | (at_builtin; refine wpList_append_lies _ rfl _ _ _ rfl w.heap.size 60 j0 _ 2 24 Tryd.underlying22 hj hz0 hz1 hz2 rfl (by decide) u6 _ _ rfl ((HO.out).alloc _) ⟨wr.heap.size, 0, none⟩ 1 1 [.int .u64 0, .string r] rfl rfl (World.news_of_block (cs := #[.int .u64 0, .string r]) (t := 60) (fr := (0, 0)) (heap_alloc_new wr _)) (one2 _ _ rfl rfl) (by decide) (by unfold maxLen; omega) (by omega) (by have := (HB.out).size; simp; omega) (wr.heap.size + 1) (World.size_alloc _ _) ?_; intro gg cap' w4 hown4 hgrow hat hlt; have R1 := Lib.hid (rd_next' (r' := ⟨#[]⟩) hks' HO.out HB.out hgrow hown4 (Nat.zero_le _) hacc HE.out); clear hown4 hgrow hat hlt))
              go_roundg (s.data.toList.length - (k + 1))
              case measure => omega
              case rel => exact R1.out
    · obtain rfl : k = s.size := by omega
      have HB := Lib.hid hb
      have hdr : s.data.toList.drop s.size = [] := by rw [List.drop_eq_nil_iff]; omega
      rw [hdr] at hw
      by_cases hrn : r.toList = []
      · have HP := Lib.hid (show RdPost w (readL s.data.toList S) (.returned (.tuple #[u6, .bool true])) wr from rdPost_some hw hrn hacc ho hb (Below.refl _ _))
        clear ho hb hw
        go_wp2_with fail
        go_ret2
        exact HP.out
      · have HE := Lib.hid (show readL s.data.toList S = none by rw [hw]; simp [readL, hrn])
        have q1 : (r.toList == []) = false := by simpa using hrn
        have q2 : (r.toList != []) = true := by simpa using hrn
        have q3 : ¬ r.size = 0 := fun h => hrn ((toList_nil r).2 h)
        clear ho hb hw
        go_wp2_with fail
        go_ret2
        exact rdPost_none HE.out rfl HB.out
theorem RRead_c (s S : ByteArray) (w : World) (hs : s.size ≤ 1000) (hS : S.size ≤ 1000000) :
    Calls Tryd.prog 21 #[.string s, .string S] w (RdPost w (readF s.data.toList S)) := by
  cases hr : rightL s.data.toList
  · have HE := Lib.hid (show readF s.data.toList S = none by unfold readF; rw [hr]; rfl)
    have rc := RRight_c s w (by omega)
    rw [hr] at rc
    clear hr
    go_enter Tryd.func21, Tryd.ntmps21
    go_wp2_with fail
    refine rc.mono ?_
    rintro e w0 ⟨rfl, hb0⟩
    subst hb0
    clear rc
    go_wp2_with fail
    go_ret2
    exact rdPost_none HE.out rfl (Below.refl _ _)
  · rw [show readF s.data.toList S = readL s.data.toList S by unfold readF; rw [if_pos hr]]
    exact RRead_in s S w hs hr hS
end Go.Proofs.YtoblhikablbapaaDoor
