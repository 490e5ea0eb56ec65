/- NameOrder: the walk, case 4. -/
import Derived.Test.YtoblhikablbapaaDoorNameOrdA
namespace Go.Proofs.YtoblhikablbapaaDoor
set_option linter.unusedVariables false
set_option maxRecDepth 100000
set_option maxHeartbeats 8000000
open Go.RowKit
theorem NameOrder_4 (s1 t1 t2 : ByteArray) (n1 n2 : Nat) (w : World) (hn1 : n1 < 18446744073709551616) (hn2 : n2 < 18446744073709551616) (e2 : ¬ t1 = t2) :
    Calls Tryd.prog 8 #[.agg #[.string s1, .string t1, .int .u64 n1], .agg #[.string s1, .string t2, .int .u64 n2]] w fun e w' => e = .returned (.bool true) ∧ Below w.heap.size w w' := by
  have AW := Lib.hid (fun w => awake13_c w)
  obtain ⟨x, hx⟩ : ∃ x : ByteArray, x = ⟨(versionKeyL s1.data.toList t1.data.toList n1).toArray⟩ := ⟨_, rfl⟩
  obtain ⟨y, hy⟩ : ∃ y : ByteArray, y = ⟨(versionKeyL s1.data.toList t2.data.toList n2).toArray⟩ := ⟨_, rfl⟩
  have HX := Lib.hid hx
  have HY := Lib.hid hy
  clear hx hy
  go_enter Tryd.func8, Tryd.ntmps8
  go_wp2_with fail
  refine (AW.out _).mono ?_
  rintro e w1 ⟨rfl, hb⟩
  have H1 : Hid (Six w s1 t1 s1 t2 n1 n2 w1.drew) := Lib.hid (Two.drew (Two.start hb))
  clear hb
  obtain ⟨c1, c2, c3, c4, c5, c6⟩ := H1.out.c
  go_wp2_with fail
  go_region_held3 (fun w' => w'.cell? ⟨w.heap.size, 0, none⟩ = some (.string s1) ∧ w'.cell? ⟨w.heap.size, 1, none⟩ = some (.string t1) ∧ w'.cell? ⟨w.heap.size, 2, none⟩ = some (.int .u64 n1) ∧ w'.cell? ⟨w.heap.size + 1, 0, none⟩ = some (.string s1) ∧ w'.cell? ⟨w.heap.size + 1, 1, none⟩ = some (.string t2) ∧ w'.cell? ⟨w.heap.size + 1, 2, none⟩ = some (.int .u64 n2)) (go_keep) ((first
    | (go_at_call 28; refine (VersionKey_any _ _ _ _ (by assumption)).mono ?_; rintro e W1 ⟨he, hb⟩; rw [← HX.out] at he; subst he; have H2 : Hid (Six w s1 t1 s1 t2 n1 n2 W1) := Lib.hid (Two.step H1.out hb); obtain ⟨d1, d2, d3, d4, d5, d6⟩ := H2.out.c; clear hb)
    | (go_at_call 28; refine (VersionKey_any _ _ _ _ (by assumption)).mono ?_; rintro e W2 ⟨he, hb⟩; rw [← HY.out] at he; subst he; have H3 : Hid (Six w s1 t1 s1 t2 n1 n2 W2) := Lib.hid (Two.step H2.out hb); obtain ⟨d1, d2, d3, d4, d5, d6⟩ := H3.out.c; clear hb)))
  obtain ⟨z1, hz1⟩ : ∃ z, IntKind.i64.wrap ((s1.size : Int) + (t1.size : Int)) = z := ⟨_, rfl⟩
  obtain ⟨z2, hz2⟩ : ∃ z, IntKind.i64.wrap (z1 + (s1.size : Int)) = z := ⟨_, rfl⟩
  obtain ⟨z3, hz3⟩ : ∃ z, IntKind.i64.wrap (z2 + (t2.size : Int)) = z := ⟨_, rfl⟩
  clear c1 c2 c3 c4 c5 c6
  by_cases hbig : 300 < z3
  · go_wp2_with fail
    go_ret
    exact ⟨rfl, Two.below H3.out⟩
  by_cases hx : x.toList.isEmpty = true
  · go_wp2_with fail
    go_ret
    exact ⟨rfl, Two.below H3.out⟩
  have hx : x.toList.isEmpty = false := by simpa using hx
  by_cases hy : y.toList.isEmpty = true
  · go_wp2_with fail
    go_ret
    exact ⟨rfl, Two.below H3.out⟩
  have hy : y.toList.isEmpty = false := by simpa using hy
  have gx : bktB s1.data.toList = true ∧ itemB t1.data.toList = true := by
    apply Classical.byContradiction; intro h
    rw [HX.out, Lib.toList_data, show versionKeyL s1.data.toList t1.data.toList n1 = [] by unfold versionKeyL; rw [if_neg h]] at hx
    cases hx
  have gy : bktB s1.data.toList = true ∧ itemB t2.data.toList = true := by
    apply Classical.byContradiction; intro h
    rw [HY.out, Lib.toList_data, show versionKeyL s1.data.toList t2.data.toList n2 = [] by unfold versionKeyL; rw [if_neg h]] at hy
    cases hy
  have xk : x.toList = keyL s1.data.toList t1.data.toList n1 := by rw [HX.out, Lib.toList_data, version_key n1 gx]
  have yk : y.toList = keyL s1.data.toList t2.data.toList n2 := by rw [HY.out, Lib.toList_data, version_key n2 gy]
  have lk : Op.bytesLess x.toList y.toList = lessK s1.data.toList t1.data.toList n1 s1.data.toList t2.data.toList n2 := by rw [xk, yk]; exact key_less gx.1 gx.2 gy.1 gy.2 hn1 hn2
  have ek : (x.toList == y.toList) = decide (s1.data.toList = s1.data.toList ∧ t1.data.toList = t2.data.toList ∧ n1 = n2) := by rw [xk, yk]; exact key_eq gx.1 gx.2 gy.1 gy.2 hn1 hn2
  have wxu := within_u (b := s1.data.toList) (i := t1.data.toList) (c := s1.data.toList) (j := t1.data.toList) (m := n1) gx.1 gx.1
  have wxv := within_v (b := s1.data.toList) (i := t1.data.toList) (c := s1.data.toList) (j := t1.data.toList) (m := n1) gx.1 gx.2 gx.1 gx.2
  have wyu := within_u (b := s1.data.toList) (i := t1.data.toList) (c := s1.data.toList) (j := t2.data.toList) (m := n2) gx.1 gy.1
  have wyv := within_v (b := s1.data.toList) (i := t1.data.toList) (c := s1.data.toList) (j := t2.data.toList) (m := n2) gx.1 gx.2 gy.1 gy.2
  rw [← xk] at wxu wxv
  rw [← yk] at wyu wyv
  obtain ⟨u, hu⟩ : ∃ u : ByteArray, u = ⟨(underL 118 (dat [s1])).toArray⟩ := ⟨_, rfl⟩
  obtain ⟨v, hv⟩ : ∃ v : ByteArray, v = ⟨(underL 118 (dat [s1, t1])).toArray⟩ := ⟨_, rfl⟩
  have lu : u.size ≤ 60 := by
    have := bkt_len gx.1
    rw [← Lib.size_eq] at this
    rw [hu, size_mk, show dat [s1] = [s1.data.toList] from rfl, under_one gx.1]; simp; omega
  have lv : v.size ≤ 60 := by rw [hv]; exact under_size gx.1 gx.2
  have l1 := bkt_len gx.1
  have l2 := item_len gx.2
  rw [← Lib.size_eq] at l1 l2
  have UN1 := Lib.hid (show ∀ (a : Value) (W : World), StrsAt W a [s1] → Calls Tryd.prog 29 #[.int .u8 118, a] W (fun e w' => e = .returned (.string u) ∧ Below W.heap.size W w') from fun a W h => by
    rw [hu]; exact Under_c 118 a [s1] W h (by simp) (by simp; omega))
  have UN2 := Lib.hid (show ∀ (a : Value) (W : World), StrsAt W a [s1, t1] → Calls Tryd.prog 29 #[.int .u8 118, a] W (fun e w' => e = .returned (.string v) ∧ Below W.heap.size W w') from fun a W h => by
    rw [hv]; exact Under_c 118 a [s1, t1] W h (by simp) (by simp; omega))
  have W1c := Lib.hid (fun w => Within_c x u _ _ _ w rfl (by omega) rfl rfl)
  have W2c := Lib.hid (fun w => Within_c x v _ _ _ w rfl (by omega) rfl rfl)
  have W3c := Lib.hid (fun w => Within_c y u _ _ _ w rfl (by omega) rfl rfl)
  have W4c := Lib.hid (fun w => Within_c y v _ _ _ w rfl (by omega) rfl rfl)
  have du : u.toList = underL 118 [s1.data.toList] := by rw [hu, Lib.toList_data]; rfl
  have dv : v.toList = underL 118 [s1.data.toList, t1.data.toList] := by rw [hv, Lib.toList_data]; rfl
  have bu : (⟨(behindL u.data.toList).toArray⟩ : ByteArray).toList = behindL (underL 118 [s1.data.toList]) := by rw [Lib.toList_data, ← Lib.toList_data u, du]
  have bv : (⟨(behindL v.data.toList).toArray⟩ : ByteArray).toList = behindL (underL 118 [s1.data.toList, t1.data.toList]) := by rw [Lib.toList_data, ← Lib.toList_data v, dv]
  rw [bu, du, wxu] at W1c
  rw [bv, dv, wxv] at W2c
  rw [bu, du, wyu] at W3c
  rw [bv, dv, wyv] at W4c
  rw [decide_eq_true rfl] at W1c
  rw [decide_eq_true rfl, decide_eq_true rfl, Bool.true_and] at W2c
  clear bu bv du dv wxu wxv wyu wyv xk yk gx gy lu lv l1 l2 hu hv hn1 hn2
  have HZ3 := Lib.hid (show ¬ 300 < z3 from hbig)
  rw [decide_eq_true rfl] at W3c
  rw [decide_eq_true rfl, Bool.true_and] at W4c
  have ne2 : (t1.toList == t2.toList) = false := by
    rw [Lib.toList_data, Lib.toList_data, beq_eq_false_iff_ne]
    intro h
    exact e2 (ByteArray.ext (Array.toList_inj.1 h))
  have nd : ¬ t1.data.toList = t2.data.toList := fun h => e2 (ByteArray.ext (Array.toList_inj.1 h))
  rw [show lessK s1.data.toList t1.data.toList n1 s1.data.toList t2.data.toList n2 = Op.bytesLess t1.toList t2.toList by unfold lessK; rw [if_pos rfl, if_neg nd, Lib.toList_data, Lib.toList_data]] at lk
  rw [decide_eq_false (fun h => nd h.2.1)] at ek
  rw [decide_eq_false (fun h => nd h.symm)] at W4c
  obtain ⟨L, hL⟩ : ∃ L, Op.bytesLess t1.toList t2.toList = L := ⟨_, rfl⟩
  rw [hL] at lk
  have HD : Hid (Six w s1 t1 s1 t2 n1 n2 W2.drew) := Lib.hid (Two.drew H3.out)
  go_wp2_with fail
  go_region_held3 (fun w' => w'.cell? ⟨w.heap.size, 0, none⟩ = some (.string s1) ∧ w'.cell? ⟨w.heap.size, 1, none⟩ = some (.string t1)) (go_keep) ((first
    | (go_at_call 29; refine (UN1.out _ _ (by first | exact strs1_a W2.drew _ _ | exact strs1_b W2.drew _ _ _ | exact strs1_c W2.drew _ _ _)).mono ?_; rintro e W3 ⟨rfl, hb⟩; have H4 : Hid (Six w s1 t1 s1 t2 n1 n2 W3) := Lib.hid (Two.step (by first | exact Two.alloc HD.out _ | exact Two.alloc (Two.alloc HD.out _) _) hb); have HB3 := Lib.hid hb; obtain ⟨c1, c2, c3, c4, c5, c6⟩ := H4.out.c; clear hb)
    | (go_at_call 29; refine (UN2.out _ _ (by first | exact strs2_a W3 _ _ _ | exact StrsAt.below (strs2_b W2.drew _ _ _ _) HB3.out | exact StrsAt.below (strs2_c W2.drew _ _ _ _) HB3.out)).mono ?_; rintro e W4 ⟨rfl, hb⟩; have H5 : Hid (Six w s1 t1 s1 t2 n1 n2 W4) := Lib.hid (Two.step (by first | exact Two.alloc H4.out _ | exact H4.out) hb); obtain ⟨c1, c2, c3, c4, c5, c6⟩ := H5.out.c; clear hb)))
  all_goals go_wp2_with fail
  all_goals (
    have H6 : Hid (Six w s1 t1 s1 t2 n1 n2 W4.drew) := Lib.hid (Two.drew H5.out)
    obtain ⟨c1, c2, c3, c4, c5, c6⟩ := H6.out.c
    go_region_held3 (fun w' => w'.cell? ⟨w.heap.size, 0, none⟩ = some (.string s1) ∧ w'.cell? ⟨w.heap.size, 1, none⟩ = some (.string t1) ∧ w'.cell? ⟨w.heap.size + 1, 0, none⟩ = some (.string s1) ∧ w'.cell? ⟨w.heap.size + 1, 1, none⟩ = some (.string t2)) (go_keep) ((first
      | (go_at_call 30; refine Calls.with_args (W1c.out _) (by with_reducible rfl) ?_; rintro e V1 ⟨rfl, hb⟩; have V1H : Hid (Six w s1 t1 s1 t2 n1 n2 V1) := Lib.hid (Two.step H6.out hb); obtain ⟨c1, c2, c3, c4, c5, c6⟩ := V1H.out.c; clear hb)
      | (go_at_call 30; refine Calls.with_args (W2c.out _) (by with_reducible rfl) ?_; rintro e V2 ⟨rfl, hb⟩; have V2H : Hid (Six w s1 t1 s1 t2 n1 n2 V2) := Lib.hid (Two.step V1H.out hb); obtain ⟨c1, c2, c3, c4, c5, c6⟩ := V2H.out.c; clear hb)
      | (go_at_call 30; refine Calls.with_args (W3c.out _) (by with_reducible rfl) ?_; rintro e V3 ⟨rfl, hb⟩; have V3H : Hid (Six w s1 t1 s1 t2 n1 n2 V3) := Lib.hid (Two.step V2H.out hb); obtain ⟨c1, c2, c3, c4, c5, c6⟩ := V3H.out.c; clear hb)
      | (go_at_call 30; refine Calls.with_args (W4c.out _) (by with_reducible rfl) ?_; rintro e V4 ⟨rfl, hb⟩; have V4H : Hid (Six w s1 t1 s1 t2 n1 n2 V4) := Lib.hid (Two.step V3H.out hb); obtain ⟨c1, c2, c3, c4, c5, c6⟩ := V4H.out.c; clear hb))) 
    go_wp2_with fail
    go_ret
    exact ⟨rfl, Two.below V4H.out⟩)
end Go.Proofs.YtoblhikablbapaaDoor
