/- name: the functions: walks. -/
import Derived.Test.YtoblhikablbapaaDoorNameL
import Derived.Test.YtoblhikablbapaaDoorPackFalls
namespace Go.Proofs.YtoblhikablbapaaDoor
set_option linter.unusedVariables false
set_option maxRecDepth 100000
open Go.RowKit
def bLetters : ByteArray := ⟨#[97, 98, 99, 100, 101, 102, 103, 104, 105, 106, 107, 108, 109, 110, 111, 112, 113, 114, 115, 116, 117, 118, 119, 120, 121, 122, 48, 49, 50, 51, 52, 53, 54, 55, 56, 57, 45]⟩
theorem Trim1 (s : ByteArray) (w : World) (hs : s.size ≤ 1000000000) : Calls Tryd.prog 60 #[.string s, .string ⟨#[45]⟩] w fun e w' => e = .returned (.string ⟨(Lib.trimS s.data.toList [45]).toArray⟩) ∧ Below w.heap.size w w' :=
  Any.strings_Trim_laid Tryd.lays160 (by kernel_rfl) s ⟨#[45]⟩ w (by omega) (by decide) (ascii_of_all (by decide))
theorem Trim2 (s : ByteArray) (w : World) (hs : s.size ≤ 1000000000) : Calls Tryd.prog 60 #[.string s, .string bLetters] w fun e w' => e = .returned (.string ⟨(Lib.trimS s.data.toList lettersL).toArray⟩) ∧ Below w.heap.size w w' :=
  Any.strings_Trim_laid Tryd.lays160 (by kernel_rfl) s bLetters w (by omega) (by decide) (ascii_of_all (by decide))
theorem Bucket_c (s : ByteArray) (w : World) (hs : s.size ≤ 1000000000) :
    Calls Tryd.prog 36 #[.string s] w fun e w' => e = .returned (.bool (bktB s.data.toList)) ∧ Below w.heap.size w w' := by
  have hl := Lib.size_eq s
  by_cases h1 : s.size < 3
  · have HE := Lib.hid (show bktB s.data.toList = false by unfold bktB; rw [← hl]; simp; omega)
    clear hl
    go_enter Tryd.func36, Tryd.ntmps36
    go_wp2_with fail
    go_ret
    exact ⟨ret_bool HE.out.symm, Below.refl _ _⟩
  · by_cases h2 : 16 < s.size
    · have HE := Lib.hid (show bktB s.data.toList = false by unfold bktB; rw [← hl]; simp; omega)
      clear hl
      go_enter Tryd.func36, Tryd.ntmps36
      go_wp2_with fail
      go_ret
      exact ⟨ret_bool HE.out.symm, Below.refl _ _⟩
    · have T1 := fun w => Trim1 s w hs
      have T2 := fun w => Trim2 s w hs
      have he := trim_ends s.data.toList
      have ha := trim_all s.data.toList
      have hb : bktB s.data.toList = (endsB s.data.toList && s.data.toList.all nameB) := by unfold bktB; rw [← hl]; simp only [show 3 ≤ s.size by omega, show s.size ≤ 16 by omega, decide_true, Bool.true_and]
      have e1 : ((⟨(Lib.trimS s.data.toList [45]).toArray⟩ : ByteArray).toList == s.toList) = endsB s.data.toList := by rw [Lib.toList_data, Lib.toList_data]; exact he
      have e2 : (⟨(Lib.trimS s.data.toList lettersL).toArray⟩ : ByteArray).toList.isEmpty = s.data.toList.all nameB := by rw [Lib.toList_data]; exact ha
      generalize (⟨(Lib.trimS s.data.toList [45]).toArray⟩ : ByteArray) = x at *
      generalize (⟨(Lib.trimS s.data.toList lettersL).toArray⟩ : ByteArray) = y at *
      have HT1 := Lib.hid T1
      have HT2 := Lib.hid T2
      have HB := Lib.hid hb
      clear T1 T2 he ha hb hl
      generalize endsB s.data.toList = q1 at *
      generalize s.data.toList.all nameB = q2 at *
      unfold bLetters at HT2
      cases q1
      · go_enter Tryd.func36, Tryd.ntmps36
        go_wp2_with fail
        refine (HT1.out _).mono ?_
        rintro e w1 ⟨rfl, hb⟩
        have Hb := Lib.hid hb
        clear hb
        go_wp2_with fail
        go_ret
        exact ⟨ret_bool HB.out.symm, Hb.out⟩
      · go_enter Tryd.func36, Tryd.ntmps36
        go_wp2_with fail
        refine (HT1.out _).mono ?_
        rintro e w1 ⟨rfl, hb⟩
        have Hb := Lib.hid hb
        clear hb
        go_wp2_with fail
        refine (HT2.out _).mono ?_
        rintro e w2 ⟨rfl, hb⟩
        have Hb2 := Lib.hid ((Hb.out).trans (hb.mono (Hb.out).size))
        clear hb
        go_wp2_with fail
        go_ret
        exact ⟨ret_bool (by rw [HB.out]; rfl), Hb2.out⟩
theorem cut_index (l : List UInt8) : ∃ n : Int, Lib.indexByte l 0 = n ∧ (decide (n < 0)) = (cutL l).isNone := by
  rcases indexByte_cut l with ⟨h1, h2⟩ | ⟨k, h1, h2, h3⟩
  · exact ⟨-1, h2, by rw [h1]; rfl⟩
  · exact ⟨k, h1, by rw [h3]; simp⟩
theorem Item_c (s : ByteArray) (w : World) :
    Calls Tryd.prog 38 #[.string s] w fun e w' => e = .returned (.bool (itemB s.data.toList)) ∧ w = w' := by
  have hl := Lib.size_eq s
  by_cases h1 : s.size = 0
  · have HE := Lib.hid (show itemB s.data.toList = false by unfold itemB; rw [← hl]; simp; omega)
    have e1 : s.toList = [] := (toList_nil s).2 h1
    have e2 : s.toList.isEmpty = true := by rw [e1]; rfl
    clear hl h1
    go_enter Tryd.func38, Tryd.ntmps38
    go_wp2_with fail
    go_ret
    exact ⟨ret_bool HE.out.symm, rfl⟩
  · have e2 : s.toList.isEmpty = false := by
      cases h : s.toList.isEmpty
      · rfl
      · exact absurd ((toList_nil s).1 (List.isEmpty_iff.1 h)) h1
    by_cases h2 : 40 < s.size
    · have HE := Lib.hid (show itemB s.data.toList = false by unfold itemB; rw [← hl]; simp; omega)
      clear hl
      go_enter Tryd.func38, Tryd.ntmps38
      go_wp2_with fail
      go_ret
      exact ⟨ret_bool HE.out.symm, rfl⟩
    · have hb : itemB s.data.toList = (cutL s.data.toList).isNone := by unfold itemB; rw [← hl]; simp only [show 1 ≤ s.size by omega, show s.size ≤ 40 by omega, decide_true, Bool.true_and]
      obtain ⟨n, hn, hd⟩ := cut_index s.data.toList
      have ib := Tryd.strings_IndexByte s 0 w
      rw [show ((0 : Int).toNat.toUInt8) = 0 from rfl, hn] at ib
      have HB := Lib.hid (hb.trans hd.symm)
      clear hl hb hd hn
      go_enter Tryd.func38, Tryd.ntmps38
      go_wp2_with fail
      refine ib.mono ?_
      rintro e w1 ⟨rfl, rfl⟩
      clear ib
      go_wp2_with fail
      go_ret
      exact ⟨ret_bool HB.out.symm, rfl⟩
/-- A slice of strings, as it reads in a world. -/
def StrsAt (w : World) (v : Value) (l : List ByteArray) : Prop := ∃ a cap, v = .slice a l.length cap ∧ ∀ k, (h : k < l.length) → ∃ b off, a = some ⟨b, off, none⟩ ∧ w.cell? ⟨b, off + k, none⟩ = some (.string l[k]) ∧ b < w.heap.size
theorem StrsAt.get {w : World} {a : Option Addr} {n cap : Nat} {l : List ByteArray} (h : StrsAt w (.slice a n cap) l) (k : Nat) (hk : k < l.length) : ∃ b off, a = some ⟨b, off, none⟩ ∧ w.cell? ⟨b, off + k, none⟩ = some (.string l[k]) ∧ b < w.heap.size := by
  obtain ⟨a', c', e, hc⟩ := h
  cases e
  exact hc k hk
theorem StrsAt.form {w : World} {v : Value} {l : List ByteArray} (h : StrsAt w v l) : ∃ a cap, v = .slice a l.length cap := by obtain ⟨a, c, e, _⟩ := h; exact ⟨a, c, e⟩
theorem StrsAt.below {w w' : World} {v : Value} {l : List ByteArray} (h : StrsAt w v l) (hb : Below w.heap.size w w') : StrsAt w' v l := by
  obtain ⟨a, c, rfl, hc⟩ := h
  refine ⟨a, c, rfl, fun k hk => ?_⟩
  obtain ⟨b, off, e, h1, h3⟩ := hc k hk
  exact ⟨b, off, e, (hb.cell (p := ⟨b, off + k, none⟩) h3).trans h1, Nat.lt_of_lt_of_le h3 hb.size⟩
theorem strs_one {w : World} {g : Nat} {S1 : ByteArray} {fr : Nat × Nat} {ty : TypeId} (h : w.heap[g]? = some (.cells #[.string S1] ty fr)) : StrsAt w (.slice (some ⟨g, 0, none⟩) 1 1) [S1] := by
  refine ⟨_, _, rfl, fun k hk => ⟨g, 0, rfl, ?_⟩⟩
  match k, hk with
  | 0, _ => exact ⟨cell_lit h rfl, lt_of_heap h⟩
theorem strs_two {w : World} {g : Nat} {S1 S2 : ByteArray} {fr : Nat × Nat} {ty : TypeId} (h : w.heap[g]? = some (.cells #[.string S1, .string S2] ty fr)) : StrsAt w (.slice (some ⟨g, 0, none⟩) 2 2) [S1, S2] := by
  refine ⟨_, _, rfl, fun k hk => ⟨g, 0, rfl, ?_⟩⟩
  match k, hk with
  | 0, _ => exact ⟨cell_lit h rfl, lt_of_heap h⟩
  | 1, _ => exact ⟨cell_lit h rfl, lt_of_heap h⟩
def dat (ps : List ByteArray) : List (List UInt8) := ps.map fun s => s.data.toList
def URel (w : World) (kind : UInt8) (ps : List ByteArray) (g : Nat) (s14 : Value) (wr : World) : Prop :=
  ∃ k, g = ps.length - k ∧ k ≤ ps.length ∧ s14 = .int .i64 k ∧ Bld w.heap.size w.heap.size (kind :: partsL (dat (ps.take k))) wr ∧ Below w.heap.size w wr ∧ noZero (dat (ps.take k)) = true ∧ (partsL (dat (ps.take k))).length ≤ k * 1000010
theorem parts_snoc (ps : List (List UInt8)) (p : List UInt8) : partsL (ps ++ [p]) = partsL ps ++ (p ++ [0]) := by simp [partsL]
theorem dat_snoc {ps : List ByteArray} {k : Nat} (h : k < ps.length) : dat (ps.take (k + 1)) = dat (ps.take k) ++ [ps[k].data.toList] := by
  unfold dat; rw [List.take_succ_eq_append_getElem h, List.map_append]; rfl
theorem noZero_snoc (ps : List (List UInt8)) (p : List UInt8) : noZero (ps ++ [p]) = (noZero ps && (cutL p).isNone) := by simp [noZero]
theorem noZero_take {ps : List ByteArray} {k : Nat} (h : k < ps.length) (hz : cutL ps[k].data.toList ≠ none) : noZero (dat ps) = false := by
  cases e : noZero (dat ps)
  · rfl
  · unfold noZero dat at e
    rw [List.all_eq_true] at e
    have := e _ (List.mem_map.2 ⟨ps[k], List.getElem_mem h, rfl⟩)
    exact absurd (Option.isNone_iff_eq_none.1 this) hz
theorem u_next {w wr : World} {kind : UInt8} {ps : List ByteArray} {k : Nat} (hlt : k < ps.length) (h1 : Bld w.heap.size w.heap.size ((kind :: partsL (dat (ps.take k))) ++ (ps[k].data.toList ++ [0])) wr) (h2 : Below w.heap.size w wr)
    (h3 : noZero (dat (ps.take k)) = true) (h4 : cutL ps[k].data.toList = none) (h5 : (partsL (dat (ps.take k))).length ≤ k * 1000010) (h6 : ps[k].size ≤ 1000000) : URel w kind ps (ps.length - (k + 1)) (.int .i64 (k + 1)) wr := by
  refine ⟨k + 1, rfl, by omega, by simp, ?_, h2, ?_, ?_⟩
  · rw [dat_snoc hlt, parts_snoc]; exact h1
  · rw [dat_snoc hlt, noZero_snoc, h3, h4]; rfl
  · rw [dat_snoc hlt, parts_snoc, List.length_append, List.length_append, ← Lib.size_eq]; simp; omega
set_option maxHeartbeats 1000000 in
theorem Under_c (kind : UInt8) (v : Value) (ps : List ByteArray) (w : World) (hv : StrsAt w v ps) (hn : ps.length ≤ 1000) (hz : ∀ p ∈ ps, p.size ≤ 1000000) :
    Calls Tryd.prog 29 #[.int .u8 kind.toNat, v] w fun e w' => e = .returned (.string ⟨(underL kind (dat ps)).toArray⟩) ∧ Below w.heap.size w w' := by
  have HV := Lib.hid hv
  have HZ := Lib.hid hz
  obtain ⟨a, cap, rfl⟩ := hv.form
  have wb := Tryd.Builder_WriteByte_k w.heap.size w.heap.size (Lib.byteCells []) (kind.toNat : Int) (w.alloc (.cells #[.pointer none, .slice none 0 0] 64)) (bld_new w) (by simp [Lib.byteCells]) (by simp)
  clear hv hz
  go_enter Tryd.func29, Tryd.ntmps29
  go_wp2_with fail
  refine wb.mono ?_
  rintro e w1 ⟨rfl, g3, g4, g5⟩
  have R0 : Hid (URel w kind ps ps.length (.int .i64 0) w1) := Lib.hid ⟨0, rfl, Nat.zero_le _, rfl, by rw [← byteCells_snoc] at g3; exact Bld.of g3, ((Below.refl w.heap.size w).alloc (Nat.le_refl _) _).trans g4, rfl, by simp [partsL, dat]⟩
  clear wb g3 g4 g5
  go_wp2_with fail
  go_loopg [14] ps.length (fun g s14 wr => URel w kind ps g s14 wr)
  case atStart => exact R0.out
  case round =>
    obtain ⟨k, rfl, hk, rfl, hbl, hb, hnz, hlen⟩ := hrel
    clear R0
    have HBL := Lib.hid hbl
    have HB := Lib.hid hb
    have HNZ := Lib.hid hnz
    have HLEN := Lib.hid hlen
    have hbs := hb.size
    clear hbl hb hnz hlen
    by_cases hlt : k < ps.length
    · obtain ⟨b, off, rfl, c1, -⟩ := ((HV.out).below HB.out).get k hlt
      have hsz := HZ.out ps[k] (List.getElem_mem hlt)
      by_cases hc : cutL ps[k].data.toList = none
      · have P1 := Part_yes ps[k] wr hc (by omega)
        have HC := Lib.hid hc
        have W1 := wstr_c w.heap.size w.heap.size _ ⟨(ps[k].data.toList ++ [0]).toArray⟩ wr HBL.out hbs (by rw [size_mk, List.length_cons, List.length_append, ← Lib.size_eq]; have := HLEN.out; simp; omega)
        clear hc
        go_wp2_with fail
        refine P1.mono ?_
        rintro e w2 ⟨rfl, rfl⟩
        go_wp2_with fail
        refine W1.mono ?_
        rintro e w3 ⟨rfl, g1, g2⟩
        have HR := Lib.hid (u_next hlt g1 ((HB.out).trans g2) HNZ.out HC.out HLEN.out hsz)
        clear g1 g2 W1 P1
        go_wp2_with fail
        go_roundg (ps.length - (k + 1))
        case measure => omega
        case rel => exact HR.out
      · have P1 := Part_no ps[k] wr hc
        have HE := Lib.hid (show underL kind (dat ps) = [] by unfold underL; rw [noZero_take hlt hc]; rfl)
        clear hc
        go_wp2_with fail
        refine P1.mono ?_
        rintro e w2 ⟨rfl, rfl⟩
        go_wp2_with fail
        go_ret
        exact ⟨by rw [HE.out]; rfl, HB.out⟩
    · obtain rfl : k = ps.length := by omega
      have hnz2 := HNZ.out
      have hbl2 := HBL.out
      rw [List.take_length] at hnz2 hbl2
      have HE := Lib.hid (show underL kind (dat ps) = kind :: partsL (dat ps) by unfold underL; rw [if_pos hnz2])
      have S1 := Tryd.Builder_String_any_k w.heap.size w.heap.size _ wr hbl2 hbs
      clear hnz2 hbl2
      go_wp2_with fail
      refine S1.mono ?_
      rintro e w3 ⟨rfl, g1, g2, g3⟩
      have HB2 := Lib.hid ((HB.out).trans g2)
      clear g1 g2 g3 S1
      go_wp2_with fail
      go_ret
      exact ⟨ret_str (by rw [HE.out]), HB2.out⟩
end Go.Proofs.YtoblhikablbapaaDoor
