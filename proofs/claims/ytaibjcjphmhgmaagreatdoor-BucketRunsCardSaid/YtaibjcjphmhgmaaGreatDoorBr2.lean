/- Parts of the proof of BucketRuns, joined: NameAk, NameBk, NameCk, NameDk, BukP, BukQ, BukA, BukB, BukC, BukD, BukE, BukF, BukG, BukH. No condition. -/
import Derived.Test.YtaibjcjphmhgmaaGreatDoorBr1
import Derived.Lib.SmallJoins
set_option linter.unusedSimpArgs false
set_option linter.unusedVariables false
set_option linter.unusedSectionVars false
namespace Go.Proofs.YtaibjcjphmhgmaaGreatDoor
set_option linter.unusedVariables false
set_option maxRecDepth 100000
open Go.RowKit
def bLetters : ByteArray := ⟨#[97, 98, 99, 100, 101, 102, 103, 104, 105, 106, 107, 108, 109, 110, 111, 112, 113, 114, 115, 116, 117, 118, 119, 120, 121, 122, 48, 49, 50, 51, 52, 53, 54, 55, 56, 57, 45]⟩
theorem Trim1 (s : ByteArray) (w : World) (hs : s.size ≤ 1000000000) : Calls Tryz.prog 93 #[.string s, .string ⟨#[45]⟩] w fun e w' => e = .returned (.string ⟨(Lib.trimS s.data.toList [45]).toArray⟩) ∧ Below w.heap.size w w' :=
  Any.strings_Trim_laid Tryz.lays160 (by kernel_rfl) s ⟨#[45]⟩ w (by omega) (by decide) (ascii_of_all (by decide))
theorem Trim2 (s : ByteArray) (w : World) (hs : s.size ≤ 1000000000) : Calls Tryz.prog 93 #[.string s, .string bLetters] w fun e w' => e = .returned (.string ⟨(Lib.trimS s.data.toList lettersL).toArray⟩) ∧ Below w.heap.size w w' :=
  Any.strings_Trim_laid Tryz.lays160 (by kernel_rfl) s bLetters w (by omega) (by decide) (ascii_of_all (by decide))
theorem Bucket_c (s : ByteArray) (w : World) (hs : s.size ≤ 1000000000) :
    Calls Tryz.prog 57 #[.string s] w fun e w' => e = .returned (.bool (bktB s.data.toList)) ∧ Below w.heap.size w w' := by
  have hl := Lib.size_eq s
  by_cases h1 : s.size < 3
  · have HE := Lib.hid (show bktB s.data.toList = false by unfold bktB; rw [← hl]; simp; omega)
    clear hl
    go_enter Tryz.func57, Tryz.ntmps57
    go_wp2_with fail
    go_ret
    exact ⟨ret_bool HE.out.symm, Below.refl _ _⟩
  · by_cases h2 : 16 < s.size
    · have HE := Lib.hid (show bktB s.data.toList = false by unfold bktB; rw [← hl]; simp; omega)
      clear hl
      go_enter Tryz.func57, Tryz.ntmps57
      go_wp2_with fail
      go_ret
      exact ⟨ret_bool HE.out.symm, Below.refl _ _⟩
    · have T1 := fun w => Trim1 s w hs
      have T2 := fun w => Trim2 s w hs
      have he := trim_ends s.data.toList
      have ha := trim_all s.data.toList
      have hb : bktB s.data.toList = (endsB s.data.toList && s.data.toList.all nameB) := by unfold bktB; rw [← hl]; simp only [show 3 ≤ s.size by omega, show s.size ≤ 16 by omega, decide_true, Bool.true_and]
      have e1 : ((⟨(Lib.trimS s.data.toList [45]).toArray⟩ : ByteArray).toList == s.toList) = endsB s.data.toList := by rw [Lib.toList_data, Lib.toList_data]; exact he
      have e2 : (⟨(Lib.trimS s.data.toList lettersL).toArray⟩ : ByteArray).toList.isEmpty = s.data.toList.all nameB := by rw [Lib.toList_data]; exact ha
      generalize (⟨(Lib.trimS s.data.toList [45]).toArray⟩ : ByteArray) = x at *
      generalize (⟨(Lib.trimS s.data.toList lettersL).toArray⟩ : ByteArray) = y at *
      have HT1 := Lib.hid T1
      have HT2 := Lib.hid T2
      have HB := Lib.hid hb
      clear T1 T2 he ha hb hl
      generalize endsB s.data.toList = q1 at *
      generalize s.data.toList.all nameB = q2 at *
      unfold bLetters at HT2
      cases q1
      · go_enter Tryz.func57, Tryz.ntmps57
        go_wp2_with fail
        refine (HT1.out _).mono ?_
        rintro e w1 ⟨rfl, hb⟩
        have Hb := Lib.hid hb
        clear hb
        go_wp2_with fail
        go_ret
        exact ⟨ret_bool HB.out.symm, Hb.out⟩
      · go_enter Tryz.func57, Tryz.ntmps57
        go_wp2_with fail
        refine (HT1.out _).mono ?_
        rintro e w1 ⟨rfl, hb⟩
        have Hb := Lib.hid hb
        clear hb
        go_wp2_with fail
        refine (HT2.out _).mono ?_
        rintro e w2 ⟨rfl, hb⟩
        have Hb2 := Lib.hid ((Hb.out).trans (hb.mono (Hb.out).size))
        clear hb
        go_wp2_with fail
        go_ret
        exact ⟨ret_bool (by rw [HB.out]; rfl), Hb2.out⟩
/-- A slice of strings, as it reads in a world. -/
def StrsAt (w : World) (v : Value) (l : List ByteArray) : Prop := ∃ a cap, v = .slice a l.length cap ∧ ∀ k, (h : k < l.length) → ∃ b off, a = some ⟨b, off, none⟩ ∧ w.cell? ⟨b, off + k, none⟩ = some (.string l[k]) ∧ b < w.heap.size
theorem StrsAt.get {w : World} {a : Option Addr} {n cap : Nat} {l : List ByteArray} (h : StrsAt w (.slice a n cap) l) (k : Nat) (hk : k < l.length) : ∃ b off, a = some ⟨b, off, none⟩ ∧ w.cell? ⟨b, off + k, none⟩ = some (.string l[k]) ∧ b < w.heap.size := by
  obtain ⟨a', c', e, hc⟩ := h
  cases e
  exact hc k hk
theorem StrsAt.form {w : World} {v : Value} {l : List ByteArray} (h : StrsAt w v l) : ∃ a cap, v = .slice a l.length cap := by obtain ⟨a, c, e, _⟩ := h; exact ⟨a, c, e⟩
theorem StrsAt.below {w w' : World} {v : Value} {l : List ByteArray} (h : StrsAt w v l) (hb : Below w.heap.size w w') : StrsAt w' v l := by
  obtain ⟨a, c, rfl, hc⟩ := h
  refine ⟨a, c, rfl, fun k hk => ?_⟩
  obtain ⟨b, off, e, h1, h3⟩ := hc k hk
  exact ⟨b, off, e, (hb.cell (p := ⟨b, off + k, none⟩) h3).trans h1, Nat.lt_of_lt_of_le h3 hb.size⟩
theorem strs_one {w : World} {g : Nat} {S1 : ByteArray} {fr : Nat × Nat} {ty : TypeId} (h : w.heap[g]? = some (.cells #[.string S1] ty fr)) : StrsAt w (.slice (some ⟨g, 0, none⟩) 1 1) [S1] := by
  refine ⟨_, _, rfl, fun k hk => ⟨g, 0, rfl, ?_⟩⟩
  match k, hk with
  | 0, _ => exact ⟨cell_lit h rfl, lt_of_heap h⟩
def dat (ps : List ByteArray) : List (List UInt8) := ps.map fun s => s.data.toList
def URel (w : World) (kind : UInt8) (ps : List ByteArray) (g : Nat) (s14 : Value) (wr : World) : Prop :=
  ∃ k, g = ps.length - k ∧ k ≤ ps.length ∧ s14 = .int .i64 k ∧ Bld w.heap.size w.heap.size (kind :: partsL (dat (ps.take k))) wr ∧ Below w.heap.size w wr ∧ noZero (dat (ps.take k)) = true ∧ (partsL (dat (ps.take k))).length ≤ k * 1000010
theorem parts_snoc (ps : List (List UInt8)) (p : List UInt8) : partsL (ps ++ [p]) = partsL ps ++ (p ++ [0]) := by simp [partsL]
theorem dat_snoc {ps : List ByteArray} {k : Nat} (h : k < ps.length) : dat (ps.take (k + 1)) = dat (ps.take k) ++ [ps[k].data.toList] := by
  unfold dat; rw [List.take_succ_eq_append_getElem h, List.map_append]; rfl
theorem noZero_snoc (ps : List (List UInt8)) (p : List UInt8) : noZero (ps ++ [p]) = (noZero ps && (cutL p).isNone) := by simp [noZero]
theorem noZero_take {ps : List ByteArray} {k : Nat} (h : k < ps.length) (hz : cutL ps[k].data.toList ≠ none) : noZero (dat ps) = false := by
  cases e : noZero (dat ps)
  · rfl
  · unfold noZero dat at e
    rw [List.all_eq_true] at e
    have := e _ (List.mem_map.2 ⟨ps[k], List.getElem_mem h, rfl⟩)
    exact absurd (Option.isNone_iff_eq_none.1 this) hz
theorem u_next {w wr : World} {kind : UInt8} {ps : List ByteArray} {k : Nat} (hlt : k < ps.length) (h1 : Bld w.heap.size w.heap.size ((kind :: partsL (dat (ps.take k))) ++ (ps[k].data.toList ++ [0])) wr) (h2 : Below w.heap.size w wr)
    (h3 : noZero (dat (ps.take k)) = true) (h4 : cutL ps[k].data.toList = none) (h5 : (partsL (dat (ps.take k))).length ≤ k * 1000010) (h6 : ps[k].size ≤ 1000000) : URel w kind ps (ps.length - (k + 1)) (.int .i64 (k + 1)) wr := by
  refine ⟨k + 1, rfl, by omega, by simp, ?_, h2, ?_, ?_⟩
  · rw [dat_snoc hlt, parts_snoc]; exact h1
  · rw [dat_snoc hlt, noZero_snoc, h3, h4]; rfl
  · rw [dat_snoc hlt, parts_snoc, List.length_append, List.length_append, ← Lib.size_eq]; simp; omega
set_option maxHeartbeats 1000000 in
theorem Under_c (kind : UInt8) (v : Value) (ps : List ByteArray) (w : World) (hv : StrsAt w v ps) (hn : ps.length ≤ 1000) (hz : ∀ p ∈ ps, p.size ≤ 1000000) :
    Calls Tryz.prog 63 #[.int .u8 kind.toNat, v] w fun e w' => e = .returned (.string ⟨(underL kind (dat ps)).toArray⟩) ∧ Below w.heap.size w w' := by
  have HV := Lib.hid hv
  have HZ := Lib.hid hz
  obtain ⟨a, cap, rfl⟩ := hv.form
  have wb := Tryz.Builder_WriteByte_k w.heap.size w.heap.size (Lib.byteCells []) (kind.toNat : Int) (w.alloc (.cells #[.pointer none, .slice none 0 0] 171)) (bld_new w) (by simp [Lib.byteCells]) (by simp)
  clear hv hz
  go_enter Tryz.func63, Tryz.ntmps63
  go_wp2_with fail
  refine wb.mono ?_
  rintro e w1 ⟨rfl, g3, g4, g5⟩
  have R0 : Hid (URel w kind ps ps.length (.int .i64 0) w1) := Lib.hid ⟨0, rfl, Nat.zero_le _, rfl, by rw [← byteCells_snoc] at g3; exact Bld.of g3, ((Below.refl w.heap.size w).alloc (Nat.le_refl _) _).trans g4, rfl, by simp [partsL, dat]⟩
  clear wb g3 g4 g5
  go_wp2_with fail
  go_loopg [14] ps.length (fun g s14 wr => URel w kind ps g s14 wr)
  case atStart => exact R0.out
  case round =>
    obtain ⟨k, rfl, hk, rfl, hbl, hb, hnz, hlen⟩ := hrel
    clear R0
    have HBL := Lib.hid hbl
    have HB := Lib.hid hb
    have HNZ := Lib.hid hnz
    have HLEN := Lib.hid hlen
    have hbs := hb.size
    clear hbl hb hnz hlen
    by_cases hlt : k < ps.length
    · obtain ⟨b, off, rfl, c1, -⟩ := ((HV.out).below HB.out).get k hlt
      have hsz := HZ.out ps[k] (List.getElem_mem hlt)
      by_cases hc : cutL ps[k].data.toList = none
      · have P1 := Part_yes ps[k] wr hc (by omega)
        have HC := Lib.hid hc
        have W1 := wstr_c w.heap.size w.heap.size _ ⟨(ps[k].data.toList ++ [0]).toArray⟩ wr HBL.out hbs (by rw [size_mk, List.length_cons, List.length_append, ← Lib.size_eq]; have := HLEN.out; simp; omega)
        clear hc
        go_wp2_with fail
        refine P1.mono ?_
        rintro e w2 ⟨rfl, rfl⟩
        go_wp2_with fail
        refine W1.mono ?_
        rintro e w3 ⟨rfl, g1, g2⟩
        have HR := Lib.hid (u_next hlt g1 ((HB.out).trans g2) HNZ.out HC.out HLEN.out hsz)
        clear g1 g2 W1 P1
        go_wp2_with fail
        go_roundg (ps.length - (k + 1))
        case measure => omega
        case rel => exact HR.out
      · have P1 := Part_no ps[k] wr hc
        have HE := Lib.hid (show underL kind (dat ps) = [] by unfold underL; rw [noZero_take hlt hc]; rfl)
        clear hc
        go_wp2_with fail
        refine P1.mono ?_
        rintro e w2 ⟨rfl, rfl⟩
        go_wp2_with fail
        go_ret
        exact ⟨by rw [HE.out]; rfl, HB.out⟩
    · obtain rfl : k = ps.length := by omega
      have hnz2 := HNZ.out
      have hbl2 := HBL.out
      rw [List.take_length] at hnz2 hbl2
      have HE := Lib.hid (show underL kind (dat ps) = kind :: partsL (dat ps) by unfold underL; rw [if_pos hnz2])
      have S1 := Tryz.Builder_String_any_k w.heap.size w.heap.size _ wr hbl2 hbs
      clear hnz2 hbl2
      go_wp2_with fail
      refine S1.mono ?_
      rintro e w3 ⟨rfl, g1, g2, g3⟩
      have HB2 := Lib.hid ((HB.out).trans g2)
      clear g1 g2 g3 S1
      go_wp2_with fail
      go_ret
      exact ⟨ret_str (by rw [HE.out]), HB2.out⟩
end Go.Proofs.YtaibjcjphmhgmaaGreatDoor
namespace Go.Proofs.YtaibjcjphmhgmaaGreatDoor
set_option linter.unusedVariables false
set_option maxRecDepth 100000
set_option maxHeartbeats 1000000
open Go.RowKit
theorem cat_mk (a b : List UInt8) : (⟨a.toArray⟩ ++ ⟨b.toArray⟩ : ByteArray) = ⟨(a ++ b).toArray⟩ := by apply ByteArray.ext; simp
theorem BucketKey_c (s : ByteArray) (w : World) (hs : s.size ≤ 1000000) :
    Calls Tryz.prog 59 #[.string s] w fun e w' => e = .returned (.string ⟨(bucketKeyL s.data.toList).toArray⟩) ∧ Below w.heap.size w w' := by
  have B1 := Bucket_c s w (by omega)
  cases hb : bktB s.data.toList
  · rw [hb] at B1
    have HE := Lib.hid (show bucketKeyL s.data.toList = [] by unfold bucketKeyL; rw [hb]; rfl)
    clear hb
    go_enter Tryz.func59, Tryz.ntmps59
    go_wp2_with fail
    refine B1.mono ?_
    rintro e w1 ⟨rfl, hb⟩
    have Hb := Lib.hid hb
    clear hb B1
    go_wp2_with fail
    go_ret
    exact ⟨by rw [HE.out]; rfl, Hb.out⟩
  · rw [hb] at B1
    have HE := Lib.hid (show bucketKeyL s.data.toList = underL 98 (dat [s]) by unfold bucketKeyL; rw [if_pos hb]; rfl)
    clear hb
    go_enter Tryz.func59, Tryz.ntmps59
    go_wp2_with fail
    refine B1.mono ?_
    rintro e w1 ⟨rfl, hb⟩
    have Hb := Lib.hid hb
    clear hb B1
    have U : Calls Tryz.prog 63 #[.int .u8 98, .slice (some ⟨w1.heap.size, 0, none⟩) 1 1] (w1.alloc (.cells #[.string s] 9)) _ := Under_c 98 (.slice (some ⟨w1.heap.size, 0, none⟩) 1 1) [s] _ (strs_one (heap_alloc_new w1 _)) (by simp) (by simpa using hs)
    go_wp2_with fail
    refine U.mono ?_
    rintro e w2 ⟨rfl, hb⟩
    have Hb2 := Lib.hid ((Hb.out).trans ((((Below.refl w1.heap.size w1).alloc (Nat.le_refl _) (.cells #[.string s] 9)).trans (hb.mono (by simp))).mono (Hb.out).size))
    clear hb U
    go_wp2_with fail
    go_ret
    exact ⟨ret_str (by rw [HE.out]), Hb2.out⟩
end Go.Proofs.YtaibjcjphmhgmaaGreatDoor
namespace Go.Proofs.YtaibjcjphmhgmaaGreatDoor
set_option linter.unusedVariables false
set_option maxRecDepth 100000
set_option maxHeartbeats 2000000
open Go.RowKit
end Go.Proofs.YtaibjcjphmhgmaaGreatDoor
namespace Go.Proofs.YtaibjcjphmhgmaaGreatDoor
set_option linter.unusedVariables false
set_option maxRecDepth 100000
set_option maxHeartbeats 2000000
open Go.RowKit
def one (c : UInt8) : ByteArray := ⟨#[c]⟩
theorem strOne (x : UInt8) : strOfNums [(x.toNat : Int)] = one x := by
  apply ByteArray.ext
  simp [strOfNums, one]
theorem conv_one (c : UInt8) (g : Nat) (W : World) (h : W.cell? ⟨g, 0, none⟩ = some (.int .u8 (c.toNat : Int))) : (convert 72 9 (.slice (some ⟨g, 0, none⟩) 1 1)).run Tryz.prog W = .ok (.string (one c)) W := by
  have := run_convert_bytes_arg (P := Tryz.prog) W 72 5 Tryz.underlying72 Tryz.underlying5 g 0 1 1 [(c.toNat : Int)] rfl (fun i hi => by
    obtain rfl : i = 0 := by omega
    exact h) 9 Tryz.underlying9
  rwa [strOne] at this
def BhRel (w : World) (l : List UInt8) (g : Nat) (s0 : Value) (wr : World) : Prop := ∃ r : List UInt8, g = r.length ∧ s0 = .string ⟨r.reverse.toArray⟩ ∧ behindL l = behindR r ∧ r.length ≤ l.length ∧ w = wr
theorem behind_mk (r : List UInt8) (c : UInt8) : (⟨(c :: r).reverse.toArray⟩ : ByteArray).size = r.length + 1 ∧ (⟨(c :: r).reverse.toArray⟩ : ByteArray)[r.length]? = some c ∧ (⟨(c :: r).reverse.toArray⟩ : ByteArray).extract 0 r.length = ⟨r.reverse.toArray⟩ := by
  have e : (c :: r).reverse = r.reverse ++ [c] := by simp
  have hs : (⟨(c :: r).reverse.toArray⟩ : ByteArray).size = r.length + 1 := by rw [size_mk]; simp
  refine ⟨hs, ?_, ?_⟩
  · rw [getElem?_pos _ r.length (by omega)]
    show some ((c :: r).reverse.toArray[r.length]'(by simp)) = some c
    simp
  · rw [extract_take]
    apply ByteArray.ext
    simp
theorem run_index_str {P : Program} (t : TypeId) (s : ByteArray) (k : Nat) (d : UInt8) (ht : P.underlying t = some .string) (h : s[k]? = some d) (w : World) :
    (Instr.index t (.string s) (.int .i64 (k : Int))).run P w = .ok (.int .u8 (d.toNat : Int)) w := by
  simp [Instr.index, asIntOf, run_underlying ht, h]
theorem Behind_c (s : ByteArray) (w : World) (hs : s.size ≤ 1000000) :
    Calls Tryz.prog 64 #[.string s] w fun e w' => e = .returned (.string ⟨(behindL s.data.toList).toArray⟩) ∧ Below w.heap.size w w' := by
  have hl := Lib.size_eq s
  have R0 : Hid (BhRel w s.data.toList s.data.toList.length (.string s) w) := Lib.hid ⟨s.data.toList.reverse, by simp, by rw [List.reverse_reverse, mk_data], rfl, by simp, rfl⟩
  generalize s.data.toList = l at *
  rw [hl] at hs
  clear hl
  go_enter Tryz.func64, Tryz.ntmps64
  go_wp2_with fail
  go_loopg [0] l.length (fun g s0 wr => BhRel w l g s0 wr)
  case atStart => exact R0.out
  case round =>
    obtain ⟨r, rfl, rfl, hb, hle, rfl⟩ := hrel
    clear R0
    cases r with
    | nil =>
      have HE := Lib.hid (show behindL l = [] from hb)
      clear hb
      go_wp2_with fail
      go_ret
      exact ⟨by rw [HE.out]; rfl, Below.refl _ _⟩
    | cons c r =>
      obtain ⟨e1, e2, e3⟩ := behind_mk r c
      have hidx := fun w => run_index_str (P := Tryz.prog) _ _ r.length c Tryz.underlying9 e2 w
      simp only [List.length_cons] at hle ⊢
      have HB := Lib.hid hb
      have hr : r.length ≤ 1000000 := by omega
      generalize (⟨(c :: r).reverse.toArray⟩ : ByteArray) = S at *
      have hc := c.toNat_lt
      by_cases h255 : c = 255
      · have q1 : ((c.toNat : Int) == 255) = true := by rw [h255]; rfl
        have HE := Lib.hid (show behindL l = behindR r by rw [hb, h255]; rfl)
        have HX := Lib.hid e3
        clear hb e2 h255 e3
        go_wp2_with fail
        go_roundg r.length
        case measure => simp
        case rel => exact ⟨r, rfl, by rw [HX.out], HE.out, by omega, rfl⟩
      · have hcn : c.toNat ≠ 255 := fun h => h255 (UInt8.toNat_inj.1 h)
        have q1 : ((c.toNat : Int) == 255) = false := by simp; omega
        obtain ⟨d, hd⟩ : ∃ d : UInt8, d = c + 1 := ⟨_, rfl⟩
        have hdn : d.toNat = c.toNat + 1 := by rw [hd, UInt8.toNat_add]; show (c.toNat + 1) % 256 = _; omega
        have HE := Lib.hid (show behindL l = r.reverse ++ [d] by rw [hb, hd]; show (if c = 255 then _ else _) = _; rw [if_neg h255])
        have HX := Lib.hid (show S.extract 0 r.length ++ one d = ⟨(r.reverse ++ [d]).toArray⟩ by rw [e3, show one d = ⟨[d].toArray⟩ from rfl, cat_mk])
        have k1 : IntKind.u8.wrap ((c.toNat : Int) + 1) = d.toNat := by rw [hdn]; simp only [IntKind.wrap, IntKind.bits, IntKind.signed]; simp; omega
        have k2 : ((c.toNat : Int) + 1) % 256 = d.toNat := by rw [hdn]; omega
        have hcv := fun g W h => conv_one d g W h
        have hz : (one d).size = 1 := rfl
        obtain ⟨z, hsl⟩ : ∃ z, S.extract 0 r.length = z := ⟨_, rfl⟩
        have hz2 : z.size = r.length := by rw [← hsl, e3, size_mk]; simp
        rw [hsl] at HX
        have ha1 : (z.size + (one d).size > 9223372036854775807) = False := eq_false (by rw [hz, hz2]; omega)
        have ha2 : (9223372036854775807 < z.size + (one d).size) = False := eq_false (by rw [hz, hz2]; omega)
        have hr0 : (0 : Int) ≤ (r.length : Int) := by omega
        have hr1 : IntKind.i64.wrap (r.length : Int) = r.length := by rw [IntWalk.i64_in _ (by omega)]
        generalize one d = y at *
        clear hb e2 e3 h255 hcn hd hdn hz hz2
        go_wp2_with fail
        go_region
        all_goals
          go_wp2_with fail
          go_ret
          exact ⟨ret_str (by rw [HE.out]; exact HX.out), ((Below.refl w.heap.size w).alloc (Nat.le_refl _) _).drew⟩
end Go.Proofs.YtaibjcjphmhgmaaGreatDoor
namespace Go.Proofs.YtaibjcjphmhgmaaGreatDoor
set_option linter.unusedVariables false
set_option maxRecDepth 100000
set_option maxHeartbeats 1000000
open Go.RowKit
structure Bk where
  nm : ByteArray
  st : Nat
  born : Nat
  on : Bool
  af : Nat
  pre : ByteArray
def flagN (b : Bool) : Nat := if b then 1 else 0
structure Bk.Ok (b : Bk) : Prop where
  nm : bktB b.nm.data.toList = true
  st : b.st ≤ 2
  born : b.born < 18446744073709551616
  af : b.af < 18446744073709551616
  pre : b.pre.size ≤ 20
def Bk.val (b : Bk) : Value := .agg #[.string b.nm, .int .i64 b.st, .int .u64 b.born, .bool b.on, .string b.pre, .int .u64 b.af]
def kindsB : ByteArray := ⟨#[98, 110, 98, 110, 116]⟩
def Bk.flds (b : Bk) : List Fld := [(b.st, ⟨#[]⟩), (b.born, ⟨#[]⟩), (flagN b.on, ⟨#[]⟩), (b.af, ⟨#[]⟩), (0, b.pre)]
def Bk.bytes (b : Bk) : List UInt8 := be b.st 1 ++ (be b.born 8 ++ (be (flagN b.on) 1 ++ (be b.af 8 ++ (be b.pre.size 2 ++ b.pre.data.toList))))
def Bk.text (b : Bk) : ByteArray := ⟨b.bytes.toArray⟩
theorem wr1_one (n : Nat) (h : n < 256) : wr1 98 (n, ⟨#[]⟩) = some (be n 1) := by
  rw [wr1_num 98 1 n ⟨#[]⟩ (by decide) (by decide)]
  rw [if_neg]; rintro (e | e)
  · exact e rfl
  · omega
theorem wr1_eight (n : Nat) (h : n < 18446744073709551616) : wr1 110 (n, ⟨#[]⟩) = some (be n 8) := by
  rw [wr1_num 110 8 n ⟨#[]⟩ (by decide) (by decide)]
  rw [if_neg]; rintro (e | e)
  · exact e rfl
  · rw [p256] at e; omega
theorem flagN_le (b : Bool) : flagN b ≤ 1 := by cases b <;> decide
theorem Bk.write {b : Bk} (h : b.Ok) : writeL kindsB.data.toList b.flds = some b.bytes := by
  have h1 := flagN_le b.on
  have h2 := h.st
  have h3 := h.pre
  rw [writeL_yes (by decide) rfl]
  show wrL [98, 110, 98, 110, 116] [(b.st, ⟨#[]⟩), (b.born, ⟨#[]⟩), (flagN b.on, ⟨#[]⟩), (b.af, ⟨#[]⟩), (0, b.pre)] = _
  simp only [wrL, wr1_one b.st (by omega), wr1_eight b.born h.born, wr1_one (flagN b.on) (by omega), wr1_eight b.af h.af, wr1_t 0 b.pre rfl (by omega), Option.map_some, List.append_nil, Bk.bytes]
theorem Bk.read {b : Bk} (h : b.Ok) : readF kindsB.data.toList b.text = some b.flds := by
  refine read_write (fun p hp => ?_) (Bk.write h)
  have h1 := flagN_le b.on
  have h2 := h.st
  have h3 := h.born
  have h4 := h.af
  simp only [Bk.flds, List.mem_cons, List.not_mem_nil, or_false] at hp
  rcases hp with rfl | rfl | rfl | rfl | rfl <;> simp <;> omega
theorem Bk.text_size {b : Bk} (h : b.Ok) : b.text.size ≤ 56 := by
  have := h.pre
  rw [Lib.size_eq] at this
  show (⟨b.bytes.toArray⟩ : ByteArray).size ≤ 56
  rw [size_mk]
  simp only [Bk.bytes, List.length_append, be_length]; omega
/-! ### keys -/
def bkey (s : ByteArray) : ByteArray := ⟨(bucketKeyL s.data.toList).toArray⟩
theorem bkey_data {s : ByteArray} (h : bktB s.data.toList = true) : (bkey s).data.toList = 98 :: (s.data.toList ++ [0]) := by
  have h1 : noZero [s.data.toList] = true := by unfold noZero; simp [bkt_noZero h]
  show (⟨(bucketKeyL s.data.toList).toArray⟩ : ByteArray).data.toList = _
  unfold bucketKeyL underL
  rw [if_pos h, if_pos h1]
  simp [partsL]
theorem bkt_short {s : ByteArray} (h : bktB s.data.toList = true) : s.size ≤ 16 := by
  unfold bktB at h
  simp only [Bool.and_eq_true, decide_eq_true_eq] at h
  rw [Lib.size_eq]; exact h.1.1.2
theorem bkey_size {s : ByteArray} (h : bktB s.data.toList = true) : (bkey s).size ≤ 96 := by
  have := bkt_short h
  rw [Lib.size_eq, bkey_data h, List.length_cons, List.length_append, ← Lib.size_eq]
  show s.size + 1 + 1 ≤ 96
  omega
theorem bkey_inj {s t : ByteArray} (hs : bktB s.data.toList = true) (ht : bktB t.data.toList = true) (h : bkey s = bkey t) : s = t := by
  have h1 : (bkey s).data.toList = (bkey t).data.toList := by rw [h]
  rw [bkey_data hs, bkey_data ht] at h1
  have h2 := List.append_cancel_right (List.cons.inj h1).2
  exact ByteArray.ext (Array.toList_inj.1 h2)
theorem bless_cons (c : UInt8) (a b : List UInt8) : Op.bytesLess (c :: a) (c :: b) = Op.bytesLess a b := by
  simp [Op.bytesLess]
theorem bkey_less {s t : ByteArray} (hs : bktB s.data.toList = true) (ht : bktB t.data.toList = true) : kless (bkey s) (bkey t) = kless s t := by
  by_cases e : s = t
  · rw [e, kless_irrefl, kless_irrefl]
  · unfold kless
    rw [Lib.toList_data, Lib.toList_data, Lib.toList_data, Lib.toList_data, bkey_data hs, bkey_data ht, bless_cons]
    exact less_part _ _ [] [] (bkt_noZero hs) (bkt_noZero ht) fun h => e (ByteArray.ext (Array.toList_inj.1 h))
/-! ### lists of buckets -/
def encB (b : Bk) : ByteArray × ByteArray := (bkey b.nm, b.text)
structure BRel (E : List (ByteArray × ByteArray)) (B : List Bk) : Prop where
  eq : E = B.map encB
  ok : ∀ b ∈ B, b.Ok
/-- The bucket of a name. -/
def bAt (B : List Bk) (s : ByteArray) : Option Bk := B.find? fun b => decide (b.nm = s)
theorem bAt_some {B : List Bk} {s : ByteArray} {b : Bk} (h : bAt B s = some b) : b ∈ B ∧ b.nm = s := by
  have := List.find?_some h
  exact ⟨List.mem_of_find?_eq_some h, by simpa using this⟩
theorem bAt_none {B : List Bk} {s : ByteArray} (h : bAt B s = none) : ∀ b ∈ B, b.nm ≠ s := by
  have := List.find?_eq_none.1 h
  intro b hb e; exact this b hb (by simp [e])
theorem srt_uniq {E : List (ByteArray × ByteArray)} (h : Srt E) {k v v' : ByteArray} (h1 : (k, v) ∈ E) (h2 : (k, v') ∈ E) : v = v' := by
  obtain ⟨A, B, rfl⟩ := List.append_of_mem h1
  obtain ⟨-, s2, s3⟩ := srt_of h
  rcases List.mem_append.1 h2 with h2 | h2
  · exact absurd rfl (kless_ne (s2 (k, v') h2))
  · rcases List.mem_cons.1 h2 with h2 | h2
    · cases h2; rfl
    · exact absurd rfl (kless_ne (s3 (k, v') h2))
/-- What Get answers at a bucket's key. -/
theorem BRel.got {E : List (ByteArray × ByteArray)} {B : List Bk} {s v : ByteArray} {ok : Bool} (h : BRel E B) (hs : Srt E) (hn : bktB s.data.toList = true) (g : Got (bkey s) E v ok) :
    (∃ b, bAt B s = some b ∧ b.Ok ∧ ok = true ∧ v = b.text) ∨ (bAt B s = none ∧ ok = false) := by
  rcases g with ⟨hk, hm⟩ | ⟨hk, -, hm⟩
  · left
    have hm2 := hm
    rw [h.eq] at hm2
    obtain ⟨b0, hb0, e0⟩ := List.mem_map.1 hm2
    have e1 : b0.nm = s := bkey_inj (h.ok b0 hb0).nm hn (congrArg Prod.fst e0)
    cases hf : bAt B s with
    | none => exact absurd e1 (bAt_none hf b0 hb0)
    | some b =>
      obtain ⟨h1, h2⟩ := bAt_some hf
      refine ⟨b, rfl, h.ok b h1, hk, ?_⟩
      have : (bkey s, b.text) ∈ E := by
        rw [h.eq]; exact List.mem_map.2 ⟨b, h1, by unfold encB; rw [h2]⟩
      exact srt_uniq hs hm this
  · right
    refine ⟨?_, hk⟩
    cases hf : bAt B s with
    | none => rfl
    | some b =>
      obtain ⟨h1, h2⟩ := bAt_some hf
      exact absurd (by rw [← h2]; rfl) (hm (encB b) (by rw [h.eq]; exact List.mem_map.2 ⟨b, h1, rfl⟩))
/-- A bucket put in its place. -/
def PutB (b : Bk) (B B' : List Bk) : Prop := ∃ A C, B' = A ++ b :: C ∧ (B = A ++ C ∨ ∃ b0, b0.nm = b.nm ∧ B = A ++ b0 :: C) ∧ (∀ a ∈ A, kless a.nm b.nm = true) ∧ ∀ c ∈ C, kless b.nm c.nm = true
theorem BRel.ins {E E' : List (ByteArray × ByteArray)} {B : List Bk} {b : Bk} (h : BRel E B) (hb : b.Ok) (hi : Ins (bkey b.nm) b.text E E') : ∃ B', BRel E' B' ∧ PutB b B B' := by
  obtain ⟨A, C, rfl, h', hA, hC⟩ := hi
  obtain ⟨heq, hok⟩ := h
  rcases h' with h' | ⟨v, h'⟩
  · rw [heq] at h'
    obtain ⟨A1, C1, rfl, rfl, rfl⟩ := List.map_eq_append_iff.1 h'
    refine ⟨A1 ++ b :: C1, ⟨by simp [encB], fun x hx => ?_⟩, A1, C1, rfl, .inl rfl, fun a ha => ?_, fun c hc => ?_⟩
    · simp only [List.mem_append, List.mem_cons] at hx
      rcases hx with hx | rfl | hx
      · exact hok x (by simp [hx])
      · exact hb
      · exact hok x (by simp [hx])
    · have := hA (encB a) (List.mem_map.2 ⟨a, ha, rfl⟩)
      rw [← bkey_less (hok a (by simp [ha])).nm hb.nm]; exact this
    · have := hC (encB c) (List.mem_map.2 ⟨c, hc, rfl⟩)
      rw [← bkey_less hb.nm (hok c (by simp [hc])).nm]; exact this
  · rw [heq] at h'
    obtain ⟨A1, C0, rfl, rfl, h2⟩ := List.map_eq_append_iff.1 h'
    obtain ⟨b0, C1, rfl, h3, rfl⟩ := List.map_eq_cons_iff.1 h2
    have hb0 : b0.Ok := hok b0 (by simp)
    refine ⟨A1 ++ b :: C1, ⟨by simp [encB], fun x hx => ?_⟩, A1, C1, rfl, .inr ⟨b0, bkey_inj hb0.nm hb.nm (congrArg Prod.fst h3), rfl⟩, fun a ha => ?_, fun c hc => ?_⟩
    · simp only [List.mem_append, List.mem_cons] at hx
      rcases hx with hx | rfl | hx
      · exact hok x (by simp [hx])
      · exact hb
      · exact hok x (by simp [hx])
    · have := hA (encB a) (List.mem_map.2 ⟨a, ha, rfl⟩)
      rw [← bkey_less (hok a (by simp [ha])).nm hb.nm]; exact this
    · have := hC (encB c) (List.mem_map.2 ⟨c, hc, rfl⟩)
      rw [← bkey_less hb.nm (hok c (by simp [hc])).nm]; exact this
/-- A bucket taken away. -/
def DelB (s : ByteArray) (B B' : List Bk) : Prop := ∃ A C b, b.nm = s ∧ B = A ++ b :: C ∧ B' = A ++ C
theorem BRel.del {E E' : List (ByteArray × ByteArray)} {B : List Bk} {s : ByteArray} (h : BRel E B) (hs : bktB s.data.toList = true) (hd : Del (bkey s) E E') : ∃ B', BRel E' B' ∧ DelB s B B' := by
  obtain ⟨A, C, v, rfl, rfl⟩ := hd
  obtain ⟨heq, hok⟩ := h
  obtain ⟨A1, C0, rfl, rfl, h2⟩ := List.map_eq_append_iff.1 heq.symm
  obtain ⟨b0, C1, rfl, h3, rfl⟩ := List.map_eq_cons_iff.1 h2
  refine ⟨A1 ++ C1, ⟨by simp, fun x hx => hok x ?_⟩, A1, C1, b0, bkey_inj (hok b0 (by simp)).nm hs (congrArg Prod.fst h3), rfl, rfl⟩
  rcases List.mem_append.1 hx with hx | hx <;> simp [hx]
/-- Other buckets stay. -/
theorem PutB.other {b x : Bk} {B B' : List Bk} (h : PutB b B B') (hx : x ∈ B) (hn : x.nm ≠ b.nm) : x ∈ B' := by
  obtain ⟨A, C, rfl, h', -, -⟩ := h
  rcases h' with rfl | ⟨b0, h0, rfl⟩
  · rcases List.mem_append.1 hx with hx | hx <;> simp [hx]
  · simp only [List.mem_append, List.mem_cons] at hx ⊢
    rcases hx with hx | rfl | hx
    · exact .inl hx
    · exact absurd h0 hn
    · exact .inr (.inr hx)
theorem DelB.other {s : ByteArray} {x : Bk} {B B' : List Bk} (h : DelB s B B') (hx : x ∈ B) (hn : x.nm ≠ s) : x ∈ B' := by
  obtain ⟨A, C, b0, h0, rfl, rfl⟩ := h
  simp only [List.mem_append, List.mem_cons] at hx ⊢
  rcases hx with hx | rfl | hx
  · exact .inl hx
  · exact absurd h0 hn
  · exact .inr hx
end Go.Proofs.YtaibjcjphmhgmaaGreatDoor
namespace Go.Proofs.YtaibjcjphmhgmaaGreatDoor
set_option linter.unusedVariables false
set_option maxRecDepth 100000
set_option maxHeartbeats 1000000
open Go.RowKit
theorem RSt.set {w1 w : World} {K : Nat → Prop} {rb n m : Nat} {S : RS} (h : RSt w1 w K rb n m S) {x : Nat} (hx : K x) (hl : w1.heap.size ≤ x) (off : Nat) (v : Value) : RSt w1 (w.setCell ⟨x, off, none⟩ v) K rb n m S := by
  obtain ⟨G, ⟨puts, a1, a2, a3⟩, b, d, e⟩ := h
  have hu : Upd (fun k => k = x) w (w.setCell ⟨x, off, none⟩ v) := (Upd.refl (fun k => k = x) w).setCell (p := ⟨x, off, none⟩) (.inl rfl) v
  refine ⟨G, ⟨puts, a1, a2.frame hu fun k hk e => (d x hx).2 (e ▸ hk), a3⟩, b, fun k hk => ⟨Nat.lt_of_lt_of_le (d k hk).1 hu.size, (d k hk).2⟩, e.setCell hl v⟩
/-- The map of buckets in a room, behind a acts; the blocks of K are none of the room's. -/
def BSt (w1 w : World) (K : Nat → Prop) (rb n a : Nat) (B : List Bk) : Prop :=
  ∃ S o, RSt w1 w K rb n (300 * a) S ∧ TreeSt S 4 o ∧ Spare S n (18 * (66 - a)) ∧ crO o ≤ 6 + a ∧ BRel (entsO o) B ∧ B.length ≤ a
/-- .. with a tree at hand. -/
def BMt (w1 w : World) (K : Nat → Prop) (tb rb n a : Nat) (B : List Bk) : Prop := TB w tb rb 4 ∧ BSt w1 w (fun k => K k ∨ k = tb) rb n a B
section
variable {w1 w w' : World} {K : Nat → Prop} {tb rb n a : Nat} {B : List Bk}
theorem BSt.mono {K' : Nat → Prop} (h : BSt w1 w K rb n a B) (hK : ∀ k, K' k → K k) : BSt w1 w K' rb n a B := by
  obtain ⟨S, o, h1, h2⟩ := h
  exact ⟨S, o, h1.mono hK, h2⟩
theorem BSt.belowK (h : BSt w1 w K rb n a B) (hb : Below w.heap.size w w') : BSt w1 w' (fun k => K k ∨ (w.heap.size ≤ k ∧ k < w'.heap.size)) rb n a B ∧ Kept K w w' := by
  obtain ⟨S, o, h1, h2⟩ := h
  exact ⟨⟨S, o, (h1.below hb).1, h2⟩, (h1.below hb).2⟩
theorem BSt.below (h : BSt w1 w K rb n a B) (hb : Below w.heap.size w w') : BSt w1 w' K rb n a B := (h.belowK hb).1.mono fun k hk => .inl hk
theorem BSt.keep (h : BSt w1 w K rb n a B) (hb : Below w.heap.size w w') : Kept K w w' := (h.belowK hb).2
/-- .. with a new block. -/
theorem BSt.new (h : BSt w1 w K rb n a B) (hb : Below w.heap.size w w') (x : Nat) (h1 : w.heap.size ≤ x) (h2 : x < w'.heap.size) : BSt w1 w' (fun k => K k ∨ k = x) rb n a B :=
  (h.belowK hb).1.mono fun k hk => by
    rcases hk with hk | hk
    · exact .inl hk
    · exact .inr (by omega)
theorem BSt.set (h : BSt w1 w K rb n a B) {x : Nat} (hx : K x) (hl : w1.heap.size ≤ x) (off : Nat) (v : Value) : BSt w1 (w.setCell ⟨x, off, none⟩ v) K rb n a B := by
  obtain ⟨S, o, h1, h2⟩ := h
  exact ⟨S, o, h1.set hx hl off v, h2⟩
theorem BSt.meta_ (h : BSt w1 w K rb n a B) (hb : Below w.heap.size w w') (ht : TB w' tb rb 4) (hl : w.heap.size ≤ tb) : BMt w1 w' K tb rb n a B := ⟨ht, h.new hb tb hl (lt_of_heap ht)⟩
theorem BMt.below (h : BMt w1 w K tb rb n a B) (hb : Below w.heap.size w w') : BMt w1 w' K tb rb n a B := ⟨h.1.below hb, h.2.below hb⟩
theorem BMt.keep (h : BMt w1 w K tb rb n a B) (hb : Below w.heap.size w w') : Kept K w w' := (h.2.keep hb).mono fun k hk => .inl hk
theorem BSt.more {a' : Nat} (h : BSt w1 w K rb n a B) (ha : a ≤ a') : BSt w1 w K rb n a' B := by
  obtain ⟨S, o, h1, h2, h3, h4, h5, h6⟩ := h
  exact ⟨S, o, h1.more (by omega), h2, h3.less (by omega), by omega, h5, by omega⟩
theorem BSt.bel (h : BSt w1 w K rb n a B) : Below w1.heap.size w1 w := by obtain ⟨S, o, h1, -⟩ := h; exact h1.bel
theorem BSt.ok (h : BSt w1 w K rb n a B) : ∀ b ∈ B, b.Ok := by obtain ⟨S, o, -, -, -, -, h, -⟩ := h; exact h.ok
theorem BSt.len (h : BSt w1 w K rb n a B) : B.length ≤ a := by obtain ⟨S, o, -, -, -, -, -, h⟩ := h; exact h
end
theorem PutB.len {b : Bk} {B B' : List Bk} (h : PutB b B B') : B'.length ≤ B.length + 1 := by
  obtain ⟨A, C, rfl, h', -, -⟩ := h
  rcases h' with rfl | ⟨b0, -, rfl⟩ <;> simp <;> omega
theorem DelB.len {s : ByteArray} {B B' : List Bk} (h : DelB s B B') : B'.length ≤ B.length := by
  obtain ⟨A, C, b0, -, rfl, rfl⟩ := h
  simp
section
variable (w1 w : World) (K : Nat → Prop) (tb rb n a : Nat) (B : List Bk)
/-- Get of a bucket's key. -/
theorem get_b (s : ByteArray) (h : BMt w1 w K tb rb n a B) (ha : a ≤ 66) (hs : bktB s.data.toList = true) :
    Calls Tryz.prog 35 #[.pointer (some ⟨tb, 0, none⟩), .string (bkey s)] w fun e w' => ∃ v ok, e = .returned (.tuple #[.string v, .bool ok, .int .i64 0]) ∧ ((∃ b, bAt B s = some b ∧ b.Ok ∧ ok = true ∧ v = b.text) ∨ (bAt B s = none ∧ ok = false)) ∧ Hid (BSt w1 w' K rb n a B ∧ Kept K w w') := by
  obtain ⟨ht, S, o, h1, h2, h3, h4, h5, h6⟩ := h
  refine (get_r w1 w _ tb rb 4 n (300 * a) S o (bkey s) h1 ht (.inr rfl) h2 (by decide) (by omega) (by have := crO_hgt o; omega)).mono ?_
  rintro e w' ⟨v, ok, rfl, g, hE⟩
  exact ⟨v, ok, rfl, h5.got (srt_o h2) hs g, Lib.hid ⟨⟨S, o, hE.out.1.mono fun k hk => .inl hk, h2, h3, h4, h5, h6⟩, hE.out.2.mono fun k hk => .inl hk⟩⟩
/-- Put of a bucket. -/
theorem put_b (b : Bk) (h : BMt w1 w K tb rb n a B) (ha : a ≤ 61) (hb : b.Ok) :
    Calls Tryz.prog 31 #[.pointer (some ⟨tb, 0, none⟩), .string (bkey b.nm), .string b.text] w fun e w' => e = .returned (.int .i64 0) ∧ Hid (∃ B', (BSt w1 w' K rb n (a + 1) B' ∧ Kept K w w') ∧ PutB b B B') := by
  obtain ⟨ht, S, o, h1, h2, h3, h4, h5, h6⟩ := h
  refine (put_r w1 w _ tb rb 4 n (300 * a) S o 16 (bkey b.nm) b.text h1 ht (.inr rfl) h2 (h3.less (by omega)) (by decide) (by omega) (bkey_size hb.nm) (Bk.text_size hb) (by decide) (by have := crO_hgt o; omega)).mono ?_
  rintro e w' ⟨rfl, hE⟩
  obtain ⟨S', o', x1, x2, g1, g2, g3, g4, g5, g6, -⟩ := hE.out
  obtain ⟨B', y1, y2⟩ := h5.ins hb g2
  refine ⟨rfl, Lib.hid ⟨B', ⟨⟨S', o', (x1.mono fun k hk => .inl hk).more (by omega), g1.st, g5 _ (h3.less (by have := crO_hgt o; omega)), by omega, y1, by have := y2.len; omega⟩, x2.mono fun k hk => .inl hk⟩, y2⟩⟩
/-- Delete of a bucket that is there. -/
theorem del_b (s : ByteArray) (h : BMt w1 w K tb rb n a B) (ha : a ≤ 61) (hs : bktB s.data.toList = true) (b : Bk) (hb : bAt B s = some b) :
    Calls Tryz.prog 33 #[.pointer (some ⟨tb, 0, none⟩), .string (bkey s)] w fun e w' => e = .returned (.tuple #[.bool true, .int .i64 0]) ∧ Hid (∃ B', (BSt w1 w' K rb n (a + 1) B' ∧ Kept K w w') ∧ DelB s B B') := by
  obtain ⟨ht, S, o, h1, h2, h3, h4, h5, h6⟩ := h
  refine (del_r w1 w _ tb rb 4 n (300 * a) S o (bkey s) h1 ht (.inr rfl) h2 (by decide) (by omega) (by have := crO_hgt o; omega)).mono ?_
  rintro e w' ⟨was, rfl, hE⟩
  obtain ⟨S', o', x1, x2, g1⟩ := hE.out
  rcases g1 with ⟨rfl, g1, g2, g3, g4, g5⟩ | ⟨rfl, -, -, g3⟩
  · obtain ⟨B', y1, y2⟩ := h5.del hs g2
    exact ⟨rfl, Lib.hid ⟨B', ⟨⟨S', o', (x1.mono fun k hk => .inl hk).more (by omega), g1.st, g4 _ (h3.less (by omega)), by omega, y1, by have := y2.len; omega⟩, x2.mono fun k hk => .inl hk⟩, y2⟩⟩
  · obtain ⟨z1, z2⟩ := bAt_some hb
    exact absurd (by show bkey b.nm = _; rw [z2]) (g3 (encB b) (by rw [h5.eq]; exact List.mem_map.2 ⟨b, z1, rfl⟩))
/-- Scan behind all buckets. -/
theorem bkey_head {s : ByteArray} (h : bktB s.data.toList = true) (t : ByteArray) (c : UInt8) (r : List UInt8) (ht : t.data.toList = c :: r) (hc : 98 < c) : kless (bkey s) t = true := by
  rw [kless_iff, bkey_data h, ht]
  exact List.Lex.rel hc
theorem bkey_notless {s : ByteArray} (h : bktB s.data.toList = true) : kless (bkey s) ⟨#[98]⟩ = false := by
  cases hk : kless (bkey s) ⟨#[98]⟩ with
  | false => rfl
  | true =>
    rw [kless_iff, bkey_data h] at hk
    have : (98 :: (s.data.toList ++ [0]) : List UInt8) < [98] := hk
    cases this with
    | rel h => exact absurd h (by decide)
    | cons h => exact absurd (show (s.data.toList ++ [0] : List UInt8) < [] from h) (List.not_lt_nil _)
theorem scan_behind (frm tt : ByteArray) (c : UInt8) (r : List UInt8) (ht : frm.data.toList = c :: r) (hc : 98 < c) (h : BMt w1 w K tb rb n a B) (ha : a ≤ 66) :
    Calls Tryz.prog 44 #[.pointer (some ⟨tb, 0, none⟩), .string frm, .string tt, .int .i64 1] w fun e w' => ∃ v k, e = .returned (.tuple #[.slice v 0 k, .int .i64 0]) ∧ Hid (BSt w1 w' K rb n a B ∧ Kept K w w') := by
  obtain ⟨htb, S, o, h1, h2, h3, h4, h5, h6⟩ := h
  have hl : (entsO o).length = B.length := by rw [h5.eq, List.length_map]
  refine (scan_g w1 w _ tb rb 4 n (300 * a) S o frm tt 1 h1 htb (.inr rfl) h2 (by decide) (by omega) (by have := crO_hgt o; omega) (by omega) (by decide) (by decide)).mono ?_
  have hf : from_ frm (entsO o) = [] := from_none fun e he => by
    rw [h5.eq] at he
    obtain ⟨b, hb, rfl⟩ := List.mem_map.1 he
    exact bkey_head (h5.ok b hb).nm frm c r ht hc
  rw [hf]
  rintro e w' ⟨v, rfl, hE⟩
  have hv := hE.out.1
  have HR : Hid (BSt w1 w' K rb n a B ∧ Kept K w w') := Lib.hid ⟨⟨S, o, hE.out.2.1.mono fun k hk => .inl (.inl hk), h2, h3, h4, h5, h6⟩, hE.out.2.2.mono fun k hk => .inl hk⟩
  rcases hv.2 with ⟨rfl, -⟩ | ⟨g, cap, cur, rfl, -⟩
  · exact ⟨none, 0, rfl, HR⟩
  · exact ⟨_, _, rfl, HR⟩
theorem sRun_all2 (tt : ByteArray) (limit : Nat) : ∀ (F L : List (ByteArray × ByteArray)) (_ : L.length + F.length ≤ limit) (_ : ∀ e ∈ F, kless e.1 tt = true), sRun tt limit F L = (L ++ F, true)
  | [], L, _, _ => by simp [sRun]
  | e :: F, L, h, hF => by
    simp only [List.length_cons] at h
    have hn : ¬ (L.length = limit ∨ (tt.size ≠ 0 ∧ kless e.1 tt = false)) := by
      rintro (h | ⟨-, h⟩)
      · omega
      · rw [hF e (by simp)] at h; cases h
    rw [sRun_cons, if_neg hn, sRun_all2 tt limit F (L ++ [e]) (by simp; omega) fun x hx => hF x (by simp [hx])]
    simp
/-- Scan of the buckets. -/
theorem scan_names (h : BMt w1 w K tb rb n a B) (ha : a ≤ 66) :
    Calls Tryz.prog 44 #[.pointer (some ⟨tb, 0, none⟩), .string ⟨#[98]⟩, .string ⟨#[99]⟩, .int .i64 33554432] w fun e w' => ∃ v, e = .returned (.tuple #[v, .int .i64 0]) ∧ Hid (w'.ownsRow (w.heap.size + 2) 105 2 v B.length (pairC (B.map encB)) ∧ BSt w1 w' (fun k => K k ∨ (w.heap.size ≤ k ∧ k < w'.heap.size)) rb n a B ∧ Kept K w w') := by
  obtain ⟨htb, S, o, h1, h2, h3, h4, h5, h6⟩ := h
  have hl : (entsO o).length = B.length := by rw [h5.eq, List.length_map]
  refine (scan_g w1 w _ tb rb 4 n (300 * a) S o ⟨#[98]⟩ ⟨#[99]⟩ 33554432 h1 htb (.inr rfl) h2 (by decide) (by omega) (by have := crO_hgt o; omega) (by omega) (by decide) (by decide)).mono ?_
  have hf : from_ ⟨#[98]⟩ (entsO o) = B.map encB := by
    rw [from_all, h5.eq]
    intro e he
    rw [h5.eq] at he
    obtain ⟨b, hb, rfl⟩ := List.mem_map.1 he
    exact bkey_notless (h5.ok b hb).nm
  rw [hf, sRun_all2 ⟨#[99]⟩ 33554432 (B.map encB) [] (by simp; omega) fun e he => by
    obtain ⟨b, hb, rfl⟩ := List.mem_map.1 he
    exact bkey_head (h5.ok b hb).nm _ 99 [] rfl (by decide)]
  rintro e w' ⟨v, rfl, hE⟩
  refine ⟨v, rfl, Lib.hid ⟨by simpa using hE.out.1, ⟨S, o, hE.out.2.1.mono fun k hk => ?_, h2, h3, h4, h5, h6⟩, hE.out.2.2.mono fun k hk => .inl hk⟩⟩
  rcases hk with hk | hk
  · exact .inl (.inl hk)
  · exact .inr hk
end
end Go.Proofs.YtaibjcjphmhgmaaGreatDoor
namespace Go.Proofs.YtaibjcjphmhgmaaGreatDoor
set_option linter.unusedVariables false
set_option maxRecDepth 100000
set_option maxHeartbeats 2000000
open Go.RowKit
theorem meta_c (rb : Nat) (w : World) : Calls Tryz.prog 58 #[.pointer (some ⟨rb, 0, none⟩)] w fun e w' => e = .returned (.pointer (some ⟨w.heap.size, 0, none⟩)) ∧ Hid (TB w' w.heap.size rb 4 ∧ Below w.heap.size w w') := by
  have AT := At_c rb 4 w
  rw [show ((4 : Nat) : Int) = 4 from rfl] at AT
  go_enter Tryz.func58, Tryz.ntmps58
  go_wp2_with fail
  refine AT.mono ?_
  rintro e w2 ⟨rfl, h⟩
  go_wp2_with fail
  go_ret
  exact ⟨rfl, h.out⟩
theorem up_c (w1 w : World) (K : Nat → Prop) (rb n a : Nat) (B : List Bk) (h : BSt w1 w K rb n a B) (ha : a ≤ 66) : Calls Tryz.prog 56 #[.pointer (some ⟨rb, 0, none⟩)] w fun e w' => e = .returned (.int .i64 0) ∧ Hid (Below w.heap.size w w') := by
  have US : ∃ c : Nat, Calls Tryz.prog 38 #[.pointer (some ⟨rb, 0, none⟩)] w fun e w' => e = .returned (.tuple #[.int .i64 (c : Int), .int .i64 0]) ∧ Below w.heap.size w w' := by
    obtain ⟨S, o, ⟨G, ⟨puts, hp, hr, hrep⟩, -⟩, -⟩ := h
    exact ⟨_, Used_c G rb n puts S w hr hrep (by omega)⟩
  obtain ⟨c, US⟩ := US
  clear h
  go_enter Tryz.func56, Tryz.ntmps56
  go_wp2_with fail
  refine US.mono ?_
  rintro e w2 ⟨rfl, hb⟩
  have HB := Lib.hid hb
  clear hb US
  go_wp2_with fail
  go_ret
  exact ⟨rfl, HB.out⟩
theorem flag_c (b : Bool) (w : World) : Calls Tryz.prog 98 #[.bool b] w fun e w' => e = .returned (.agg #[.int .u64 (flagN b : Int), .string ⟨#[]⟩]) ∧ Hid (Below w.heap.size w w') := by
  have HB : ∀ o : Obj, Below w.heap.size w (w.alloc o) := fun o => (Below.refl w.heap.size w).alloc (Nat.le_refl _) o
  cases b
  · go_enter Tryz.func98, Tryz.ntmps98
    go_wp2_with fail
    refine bodyPost_ret (v := .agg #[.int .u64 0, .string ⟨#[]⟩]) (by simp [results, Tryz.results98, go_sem]) rfl ⟨rfl, HB _⟩
  · go_enter Tryz.func98, Tryz.ntmps98
    go_wp2_with fail
    refine bodyPost_ret (v := .agg #[.int .u64 1, .string ⟨#[]⟩]) (by simp [results, Tryz.results98, go_sem]) rfl ⟨rfl, HB _⟩
/-- May a rule be set? -/
def rightB (on : Bool) (pre : ByteArray) (af : Nat) : Bool := decide (pre.size ≤ 20) && (on || (decide (pre.size = 0) && decide (af = 0)))
theorem right_c (on : Bool) (pre : ByteArray) (af : Nat) (w : World) : Calls Tryz.prog 62 #[.agg #[.bool on, .string pre, .int .u64 (af : Int)]] w fun e w' => e = .returned (.bool (rightB on pre af)) ∧ Hid (Below w.heap.size w w') := by
  have HB : Hid (∀ o : Obj, Below w.heap.size w (w.alloc o)) := Lib.hid fun o => (Below.refl w.heap.size w).alloc (Nat.le_refl _) o
  by_cases h1 : pre.size ≤ 20
  · cases on
    · have HR : Hid (∀ n : Nat, rightB false pre n = (decide (pre.size = 0) && decide (n = 0))) := Lib.hid fun n => by simp [rightB, h1]
      have HT := Lib.hid (toList_nil pre)
      go_enter Tryz.func62, Tryz.ntmps62
      go_wp2_with fail
      all_goals (
        go_ret
        refine ⟨ret_bool ?_, HB.out _⟩
        rw [HR.out]
        first
          | (rename_i _ q1 q2; rw [HT.out] at q1; simp [q1, q2])
          | (rename_i q1 q2; rw [HT.out] at q2; simp [q2]))
    · have HE := Lib.hid (show rightB true pre af = true by simp [rightB, h1])
      go_enter Tryz.func62, Tryz.ntmps62
      go_wp2_with fail
      go_ret
      exact ⟨ret_bool HE.out.symm, HB.out _⟩
  · have HE := Lib.hid (show rightB on pre af = false by simp [rightB, h1])
    go_enter Tryz.func62, Tryz.ntmps62
    go_wp2_with fail
    go_ret
    exact ⟨ret_bool HE.out.symm, HB.out _⟩
theorem flds5 {W : World} {g : Nat} {a0 a1 a2 a3 a4 : Nat} {s0 s1 s2 s3 s4 : ByteArray} (h : W.heap[g]? = some (.cells #[.int .u64 (a0 : Int), .string s0, .int .u64 (a1 : Int), .string s1, .int .u64 (a2 : Int), .string s2, .int .u64 (a3 : Int), .string s3, .int .u64 (a4 : Int), .string s4] 125 (0, 0)))
    (hl : ∀ p ∈ [(a0, s0), (a1, s1), (a2, s2), (a3, s3), (a4, s4)], p.1 < 18446744073709551616) : FldsAt W (.slice (some ⟨g, 0, none⟩) 5 5) [(a0, s0), (a1, s1), (a2, s2), (a3, s3), (a4, s4)] := by
  refine ⟨⟨some ⟨g, 0, none⟩, 5, rfl, fun k hk => ⟨g, 0, rfl, ?_, ?_, lt_of_heap h⟩⟩, hl⟩
  · have : k = 0 ∨ k = 1 ∨ k = 2 ∨ k = 3 ∨ k = 4 := by simp at hk; omega
    rcases this with rfl | rfl | rfl | rfl | rfl <;> exact cell_lit h rfl
  · have : k = 0 ∨ k = 1 ∨ k = 2 ∨ k = 3 ∨ k = 4 := by simp at hk; omega
    rcases this with rfl | rfl | rfl | rfl | rfl <;> exact cell_lit h rfl
/-- Write of a bucket. -/
theorem write_b (b : Bk) (hb : b.Ok) (W : World) (v : Value) (hv : FldsAt W v b.flds) : Calls Tryz.prog 97 #[.string ⟨#[98, 110, 98, 110, 116]⟩, v] W fun e w' => e = .returned (.tuple #[.string b.text, .bool true]) ∧ Hid (Below W.heap.size W w') := by
  refine (Write_c kindsB v b.flds W (by decide) hv fun p hp => ?_).mono ?_
  · have := hb.pre
    simp only [Bk.flds, List.mem_cons, List.not_mem_nil, or_false] at hp
    rcases hp with rfl | rfl | rfl | rfl | rfl <;> first | exact Nat.zero_le _ | (simp only; omega)
  · rintro e w' ⟨rfl, h⟩
    refine ⟨?_, h⟩
    rw [Bk.write hb]; rfl
end Go.Proofs.YtaibjcjphmhgmaaGreatDoor
namespace Go.Proofs.YtaibjcjphmhgmaaGreatDoor
set_option linter.unusedVariables false
set_option maxRecDepth 100000
set_option maxHeartbeats 2000000
open Go.RowKit
theorem keep_c (w1 w : World) (K : Nat → Prop) (rb n a : Nat) (B : List Bk) (b : Bk) (h : BSt w1 w K rb n a B) (ha : a ≤ 61) (hb : b.Ok) :
    Calls Tryz.prog 54 #[.pointer (some ⟨rb, 0, none⟩), b.val] w fun e w' => e = .returned (.int .i64 0) ∧ Hid (∃ B', (BSt w1 w' K rb n (a + 1) B' ∧ Kept K w w') ∧ PutB b B B') := by
  obtain ⟨nm, st, born, on, af, pre⟩ := b
  obtain ⟨tx, htx⟩ : ∃ x, Bk.text ⟨nm, st, born, on, af, pre⟩ = x := ⟨_, rfl⟩
  have HBO := Lib.hid hb
  have HH := Lib.hid h
  have HA := Lib.hid ha
  have h2 : st ≤ 2 := hb.st
  have kst : IntKind.u64.wrap (st : Int) = (st : Int) := by simp [IntKind.wrap, IntKind.bits, IntKind.signed]; omega
  obtain ⟨w0, hw0⟩ : ∃ w0, w.alloc (.cells #[.string nm, .int .i64 (st : Int), .int .u64 (born : Int), .bool on, .string pre, .int .u64 (af : Int)] 46) = w0 := ⟨_, rfl⟩
  have blk : w0.heap[w.heap.size]? = some (.cells #[.string nm, .int .i64 (st : Int), .int .u64 (born : Int), .bool on, .string pre, .int .u64 (af : Int)] 46 (0, 0)) := by
    subst hw0; exact heap_alloc_new _ _
  have HBW : Hid (Below w.heap.size w w0) := Lib.hid (by subst hw0; exact (Below.refl w.heap.size w).alloc (Nat.le_refl _) _)
  have HBS : Hid (BSt w1 w0 (fun k => K k ∨ k = w.heap.size) rb n a B) := Lib.hid (h.new HBW.out _ (Nat.le_refl _) (lt_of_heap blk))
  have HBK := Lib.hid blk
  have CP : Hid (∀ W, Below w0.heap.size w0 W → W.cell? ⟨w.heap.size, 0, none⟩ = some (.string nm) ∧ W.cell? ⟨w.heap.size, 1, none⟩ = some (.int .i64 (st : Int)) ∧ W.cell? ⟨w.heap.size, 2, none⟩ = some (.int .u64 (born : Int)) ∧ W.cell? ⟨w.heap.size, 3, none⟩ = some (.bool on) ∧ W.cell? ⟨w.heap.size, 4, none⟩ = some (.string pre) ∧ W.cell? ⟨w.heap.size, 5, none⟩ = some (.int .u64 (af : Int))) := Lib.hid fun W hW => by
    have := (hW.block _ (lt_of_heap blk)).trans blk
    exact ⟨cell_lit this rfl, cell_lit this rfl, cell_lit this rfl, cell_lit this rfl, cell_lit this rfl, cell_lit this rfl⟩
  have FL : Hid (∀ W, Below w0.heap.size w0 W → Calls Tryz.prog 98 #[.bool on] W fun e w' => e = .returned (.agg #[.int .u64 (flagN on : Int), .string ⟨#[]⟩]) ∧ (w'.cell? ⟨w.heap.size, 0, none⟩ = some (.string nm) ∧ w'.cell? ⟨w.heap.size, 1, none⟩ = some (.int .i64 (st : Int)) ∧ w'.cell? ⟨w.heap.size, 2, none⟩ = some (.int .u64 (born : Int)) ∧ w'.cell? ⟨w.heap.size, 3, none⟩ = some (.bool on) ∧ w'.cell? ⟨w.heap.size, 4, none⟩ = some (.string pre) ∧ w'.cell? ⟨w.heap.size, 5, none⟩ = some (.int .u64 (af : Int))) ∧ Hid (Below w0.heap.size w0 w')) := Lib.hid fun W hW => by
    refine (flag_c on W).mono ?_
    rintro e w' ⟨rfl, hb'⟩
    have := hW.trans (hb'.out.mono hW.size)
    exact ⟨rfl, CP.out w' this, this⟩
  have WR : Hid (∀ W g, Below w0.heap.size w0 W → W.heap[g]? = some (.cells #[.int .u64 (st : Int), .string ⟨#[]⟩, .int .u64 (born : Int), .string ⟨#[]⟩, .int .u64 (flagN on : Int), .string ⟨#[]⟩, .int .u64 (af : Int), .string ⟨#[]⟩, .int .u64 0, .string pre] 125 (0, 0)) → Calls Tryz.prog 97 #[.string ⟨#[98, 110, 98, 110, 116]⟩, .slice (some ⟨g, 0, none⟩) 5 5] W fun e w' => e = .returned (.tuple #[.string tx, .bool true]) ∧ (w'.cell? ⟨w.heap.size, 0, none⟩ = some (.string nm) ∧ w'.cell? ⟨w.heap.size, 1, none⟩ = some (.int .i64 (st : Int)) ∧ w'.cell? ⟨w.heap.size, 2, none⟩ = some (.int .u64 (born : Int)) ∧ w'.cell? ⟨w.heap.size, 3, none⟩ = some (.bool on) ∧ w'.cell? ⟨w.heap.size, 4, none⟩ = some (.string pre) ∧ w'.cell? ⟨w.heap.size, 5, none⟩ = some (.int .u64 (af : Int))) ∧ Hid (Below w0.heap.size w0 w')) := Lib.hid fun W g hW hg => by
    have hf : FldsAt W (.slice (some ⟨g, 0, none⟩) 5 5) (Bk.flds ⟨nm, st, born, on, af, pre⟩) := flds5 (a4 := 0) hg (by
      have h1 := HBO.out.born
      have h3 := HBO.out.af
      have h4 := flagN_le on
      have h5 := HBO.out.st
      simp only at h1 h3 h5
      intro p hp
      simp only [List.mem_cons, List.not_mem_nil, or_false] at hp
      rcases hp with rfl | rfl | rfl | rfl | rfl <;> simp only <;> omega)
    refine (write_b _ HBO.out W _ hf).mono ?_
    rintro e w' ⟨rfl, hb'⟩
    have := hW.trans (hb'.out.mono hW.size)
    exact ⟨by rw [htx], CP.out w' this, this⟩
  have MT : Hid (∀ W0 W, Below w0.heap.size w0 W0 → Below W0.heap.size W0 W → Calls Tryz.prog 58 #[.pointer (some ⟨rb, 0, none⟩)] W fun e w' => ∃ tb, e = .returned (.pointer (some ⟨tb, 0, none⟩)) ∧ w'.cell? ⟨w.heap.size, 0, none⟩ = some (.string nm) ∧ Hid (BMt w1 w' (fun k => K k ∨ k = w.heap.size) tb rb n a B ∧ Below w0.heap.size w0 w')) := Lib.hid fun W0 W h0 hW => by
    refine (meta_c rb W).mono ?_
    rintro e w' ⟨rfl, hb'⟩
    have h1 := hW.trans (hb'.out.2.mono hW.size)
    have h3 := h0.trans (h1.mono h0.size)
    exact ⟨_, rfl, (CP.out w' h3).1, HBS.out.meta_ h3 hb'.out.1 (by have := h0.size; have := hW.size; omega), h3⟩
  have BK : Hid (∀ W tb, Hid (BMt w1 W (fun k => K k ∨ k = w.heap.size) tb rb n a B ∧ Below w0.heap.size w0 W) → Calls Tryz.prog 59 #[.string nm] W fun e w' => e = .returned (.string (bkey nm)) ∧ w'.cell? ⟨w.heap.size, 0, none⟩ = some (.string nm) ∧ Hid (BMt w1 w' (fun k => K k ∨ k = w.heap.size) tb rb n a B ∧ Below w0.heap.size w0 w')) := Lib.hid fun W tb hW => by
    refine (BucketKey_c nm W (by have := bkt_short HBO.out.nm; simp only at this; omega)).mono ?_
    rintro e w' ⟨rfl, hb'⟩
    have h3 := hW.out.2.trans (hb'.mono hW.out.2.size)
    exact ⟨rfl, (CP.out w' h3).1, hW.out.1.below hb', h3⟩
  have PT : Hid (∀ W tb, Hid (BMt w1 W (fun k => K k ∨ k = w.heap.size) tb rb n a B ∧ Below w0.heap.size w0 W) → Calls Tryz.prog 31 #[.pointer (some ⟨tb, 0, none⟩), .string (bkey nm), .string tx] W fun e w' => e = .returned (.int .i64 0) ∧ w'.cell? ⟨w.heap.size, 0, none⟩ = some (.string nm) ∧ Hid (∃ B', (BSt w1 w' K rb n (a + 1) B' ∧ Kept K w w') ∧ PutB ⟨nm, st, born, on, af, pre⟩ B B')) := Lib.hid fun W tb hW => by
    rw [← htx]
    refine (put_b w1 W (fun k => K k ∨ k = w.heap.size) tb rb n a B ⟨nm, st, born, on, af, pre⟩ hW.out.1 HA.out HBO.out).mono ?_
    rintro e w' ⟨rfl, hb'⟩
    obtain ⟨B', ⟨h1, h2⟩, h3⟩ := hb'.out
    have hw := HBW.out.trans (hW.out.2.mono HBW.out.size)
    have hbx := (h2 _ (.inr rfl)).trans ((hW.out.2.block _ (lt_of_heap HBK.out)).trans HBK.out)
    exact ⟨rfl, cell_lit hbx rfl, B', ⟨h1.mono fun k hk => .inl hk, (HH.out.keep hw).trans (h2.mono fun k hk => .inl hk)⟩, h3⟩
  obtain ⟨c0, c1, c2, c3, c4, c5⟩ := CP.out w0 (Below.refl _ _)
  clear blk h hb ha h2 htx
  show Calls Tryz.prog 54 #[.pointer (some ⟨rb, 0, none⟩), .agg #[.string nm, .int .i64 (st : Int), .int .u64 (born : Int), .bool on, .string pre, .int .u64 (af : Int)]] w _
  generalize flagN on = fl at *
  go_enter Tryz.func54, Tryz.ntmps54
  go_wp2_with fail
  go_region_held3 (fun w' => w'.cell? ⟨w.heap.size, 0, none⟩ = some (.string nm) ∧ w'.cell? ⟨w.heap.size, 1, none⟩ = some (.int .i64 (st : Int)) ∧ w'.cell? ⟨w.heap.size, 2, none⟩ = some (.int .u64 (born : Int)) ∧ w'.cell? ⟨w.heap.size, 3, none⟩ = some (.bool on) ∧ w'.cell? ⟨w.heap.size, 4, none⟩ = some (.string pre) ∧ w'.cell? ⟨w.heap.size, 5, none⟩ = some (.int .u64 (af : Int))) (go_keep) ((first
    | (go_at_call 98
       refine Calls.at_args (FL.out _ (Below.refl _ _).drew) (by with_reducible rfl) ?_
       rintro e w3 ⟨rfl, hk3, HB3⟩)
    | (go_at_call 97
       refine Calls.at_args (WR.out _ _ (HB3.out.alloc HB3.out.size _) (heap_alloc_new _ _)) (by with_reducible rfl) ?_
       rintro e w4 ⟨rfl, hk4, HB4⟩)))
  all_goals (
    clear FL WR
    go_wp2_with fail
    go_region_held3 (fun w' => w'.cell? ⟨w.heap.size, 0, none⟩ = some (.string nm)) (go_keep) ((first
      | (go_at_call 58
         refine Calls.at_args (MT.out _ _ HB4.out (Below.refl _ _).drew) (by with_reducible rfl) ?_
         rintro e w5 ⟨tb, rfl, hk5, HB5⟩)
      | (go_at_call 59
         refine Calls.at_args (BK.out _ tb HB5) (by with_reducible rfl) ?_
         rintro e w6 ⟨rfl, hk6, HB6⟩)
      | (go_at_call 31
         refine Calls.at_args (PT.out _ tb HB6) (by with_reducible rfl) ?_
         rintro e w7 ⟨rfl, hk7, HB7⟩))))
  all_goals (
    go_wp2_with fail
    go_ret
    exact ⟨rfl, HB7.out⟩)
end Go.Proofs.YtaibjcjphmhgmaaGreatDoor
namespace Go.Proofs.YtaibjcjphmhgmaaGreatDoor
set_option linter.unusedVariables false
set_option maxRecDepth 100000
set_option maxHeartbeats 2000000
open Go.RowKit
section
variable {w1 w w0 W : World} {K : Nat → Prop} {tb rb n a a' : Nat} {B B' : List Bk}
theorem BSt.klt (h : BSt w1 w K rb n a B) {k : Nat} (hk : K k) : k < w.heap.size := by
  obtain ⟨S, o, ⟨G, h1, h2, h3, h4⟩, -⟩ := h
  exact (h3 k hk).1
/-- What goes on from a world on. -/
def BGo (w1 w0 W : World) (K : Nat → Prop) (rb n a : Nat) (B : List Bk) : Prop := BSt w1 W K rb n a B ∧ Kept K w0 W
theorem BGo.below {W' : World} (h : BGo w1 w0 W K rb n a B) (hb : Below W.heap.size W W') : BGo w1 w0 W' K rb n a B := ⟨h.1.below hb, h.2.trans (h.1.keep hb)⟩
def BTm (w1 w0 W : World) (K : Nat → Prop) (tb rb n a : Nat) (B : List Bk) : Prop := BMt w1 W K tb rb n a B ∧ Kept K w0 W
theorem BTm.below {W' : World} (h : BTm w1 w0 W K tb rb n a B) (hb : Below W.heap.size W W') : BTm w1 w0 W' K tb rb n a B := ⟨h.1.below hb, h.2.trans (h.1.keep hb)⟩
theorem up_g (h : Hid (BGo w1 w0 W K rb n a B)) (ha : a ≤ 66) : Calls Tryz.prog 56 #[.pointer (some ⟨rb, 0, none⟩)] W fun e w' => e = .returned (.int .i64 0) ∧ Hid (BGo w1 w0 w' K rb n a B) := by
  refine (up_c w1 W K rb n a B h.out.1 ha).mono ?_
  rintro e w' ⟨rfl, hb⟩
  exact ⟨rfl, h.out.below hb.out⟩
theorem name_g (s : ByteArray) (hs : s.size ≤ 1000) (h : Hid (BGo w1 w0 W K rb n a B)) : Calls Tryz.prog 57 #[.string s] W fun e w' => e = .returned (.bool (bktB s.data.toList)) ∧ Hid (BGo w1 w0 w' K rb n a B) := by
  refine (Bucket_c s W (by omega)).mono ?_
  rintro e w' ⟨rfl, hb⟩
  exact ⟨rfl, h.out.below hb⟩
theorem meta_g (h : Hid (BGo w1 w0 W K rb n a B)) : Calls Tryz.prog 58 #[.pointer (some ⟨rb, 0, none⟩)] W fun e w' => ∃ tb, e = .returned (.pointer (some ⟨tb, 0, none⟩)) ∧ Hid (BTm w1 w0 w' K tb rb n a B) := by
  refine (meta_c rb W).mono ?_
  rintro e w' ⟨rfl, hb⟩
  exact ⟨_, rfl, h.out.1.meta_ hb.out.2 hb.out.1 (Nat.le_refl _), h.out.2.trans (h.out.1.keep hb.out.2)⟩
theorem key_g (s : ByteArray) (hs : bktB s.data.toList = true) (h : Hid (BTm w1 w0 W K tb rb n a B)) : Calls Tryz.prog 59 #[.string s] W fun e w' => e = .returned (.string (bkey s)) ∧ Hid (BTm w1 w0 w' K tb rb n a B) := by
  refine (BucketKey_c s W (by have := bkt_short hs; omega)).mono ?_
  rintro e w' ⟨rfl, hb⟩
  exact ⟨rfl, h.out.below hb⟩
theorem get_no (s : ByteArray) (hs : bktB s.data.toList = true) (h : Hid (BTm w1 w0 W K tb rb n a B)) (ha : a ≤ 66) (hf : bAt B s = none) : Calls Tryz.prog 35 #[.pointer (some ⟨tb, 0, none⟩), .string (bkey s)] W fun e w' => ∃ v, e = .returned (.tuple #[.string v, .bool false, .int .i64 0]) ∧ Hid (BGo w1 w0 w' K rb n a B) := by
  refine (get_b w1 W K tb rb n a B s h.out.1 ha hs).mono ?_
  rintro e w' ⟨v, ok, rfl, g, hE⟩
  rcases g with ⟨b, hb, -⟩ | ⟨-, rfl⟩
  · rw [hf] at hb; cases hb
  · exact ⟨v, rfl, hE.out.1, h.out.2.trans hE.out.2⟩
theorem get_yes (s : ByteArray) (hs : bktB s.data.toList = true) (h : Hid (BTm w1 w0 W K tb rb n a B)) (ha : a ≤ 66) (b : Bk) (hf : bAt B s = some b) : Calls Tryz.prog 35 #[.pointer (some ⟨tb, 0, none⟩), .string (bkey s)] W fun e w' => e = .returned (.tuple #[.string b.text, .bool true, .int .i64 0]) ∧ Hid (BGo w1 w0 w' K rb n a B) := by
  refine (get_b w1 W K tb rb n a B s h.out.1 ha hs).mono ?_
  rintro e w' ⟨v, ok, rfl, g, hE⟩
  rcases g with ⟨b', hb, -, rfl, rfl⟩ | ⟨hb, -⟩
  · rw [hf] at hb; cases hb
    exact ⟨rfl, hE.out.1, h.out.2.trans hE.out.2⟩
  · rw [hf] at hb; cases hb
theorem read_g (b : Bk) (hb : b.Ok) (h : Hid (BGo w1 w0 W K rb n a B)) : Calls Tryz.prog 60 #[.string ⟨#[98, 110, 98, 110, 116]⟩, .string b.text] W fun e w' => ∃ g c, W.heap.size ≤ g ∧ e = .returned (.tuple #[.slice (some ⟨g, 0, none⟩) 5 c, .bool true]) ∧ (w'.cell? ⟨g, 0, none⟩ = some (.int .u64 (b.st : Int)) ∧ w'.cell? ⟨g, 2, none⟩ = some (.int .u64 (b.born : Int)) ∧ w'.cell? ⟨g, 4, none⟩ = some (.int .u64 (flagN b.on : Int)) ∧ w'.cell? ⟨g, 6, none⟩ = some (.int .u64 (b.af : Int)) ∧ w'.cell? ⟨g, 9, none⟩ = some (.string b.pre)) ∧ Hid (BGo w1 w0 w' K rb n a B) := by
  refine (Read_cK kindsB b.text W (by decide) (by have := Bk.text_size hb; omega)).mono ?_
  intro e w' hp
  rw [Bk.read hb] at hp
  obtain ⟨v, rfl, ho, hbl⟩ := hp
  rcases ho.2 with ⟨rfl, h0⟩ | ⟨g, cap, cur, rfl, hbg, -⟩
  · exact absurd h0 (by simp [Bk.flds])
  · refine ⟨g, cap, hbg, rfl, ?_, h.out.below hbl⟩
    have c := fun i (hi : i < 10) => ho.cellAt i (by simpa [Bk.flds] using hi)
    exact ⟨c 0 (by decide), c 2 (by decide), c 4 (by decide), c 6 (by decide), c 9 (by decide)⟩
/-- The result's cells are set, the call ends. -/
theorem BSt.fin (h : BSt w1 w K rb n a B) (H : BGo w1 w0 W (fun k => K k ∨ k = w.heap.size) rb n a' B') (hb : Below w.heap.size w w0) (v0 v1 v2 v3 v4 v5 : Value) :
    BSt w1 ((((((W.setCell ⟨w.heap.size, 0, none⟩ v0).setCell ⟨w.heap.size, 1, none⟩ v1).setCell ⟨w.heap.size, 2, none⟩ v2).setCell ⟨w.heap.size, 3, none⟩ v3).setCell ⟨w.heap.size, 4, none⟩ v4).setCell ⟨w.heap.size, 5, none⟩ v5) K rb n a' B' ∧ Kept K w ((((((W.setCell ⟨w.heap.size, 0, none⟩ v0).setCell ⟨w.heap.size, 1, none⟩ v1).setCell ⟨w.heap.size, 2, none⟩ v2).setCell ⟨w.heap.size, 3, none⟩ v3).setCell ⟨w.heap.size, 4, none⟩ v4).setCell ⟨w.heap.size, 5, none⟩ v5) := by
  have hl1 := h.bel.size
  refine ⟨((((((H.1.set (.inr rfl) hl1 0 v0).set (.inr rfl) hl1 1 v1).set (.inr rfl) hl1 2 v2).set (.inr rfl) hl1 3 v3).set (.inr rfl) hl1 4 v4).set (.inr rfl) hl1 5 v5).mono fun k hk => .inl hk, fun k hk => ?_⟩
  have hl := h.klt hk
  rw [heap_set_ne _ (by omega), heap_set_ne _ (by omega), heap_set_ne _ (by omega), heap_set_ne _ (by omega), heap_set_ne _ (by omega), heap_set_ne _ (by omega), H.2 k (.inl hk), hb.block k hl]
end
theorem cells6 {W : World} {g : Nat} {a b c d e f : Value} {t : TypeId} {fr : Nat × Nat} (h : W.heap[g]? = some (.cells #[a, b, c, d, e, f] t fr)) : W.cell? ⟨g, 0, none⟩ = some a ∧ W.cell? ⟨g, 1, none⟩ = some b ∧ W.cell? ⟨g, 2, none⟩ = some c ∧ W.cell? ⟨g, 3, none⟩ = some d ∧ W.cell? ⟨g, 4, none⟩ = some e ∧ W.cell? ⟨g, 5, none⟩ = some f :=
  ⟨cell_lit h rfl, cell_lit h rfl, cell_lit h rfl, cell_lit h rfl, cell_lit h rfl, cell_lit h rfl⟩
theorem fin_drew {w1 w W : World} {K : Nat → Prop} {rb n a : Nat} {B : List Bk} (h : BSt w1 W K rb n a B ∧ Kept K w W) : BSt w1 W.drew K rb n a B ∧ Kept K w W.drew := ⟨h.1.below (Below.refl _ _).drew, fun k hk => h.2 k hk⟩
theorem set6_cell {W : World} {x g i : Nat} (h : g ≠ x) (v0 v1 v2 v3 v4 v5 : Value) : (((((((W.setCell ⟨x, 0, none⟩ v0).setCell ⟨x, 1, none⟩ v1).setCell ⟨x, 2, none⟩ v2).setCell ⟨x, 3, none⟩ v3).setCell ⟨x, 4, none⟩ v4).setCell ⟨x, 5, none⟩ v5).drew).cell? ⟨g, i, none⟩ = W.cell? ⟨g, i, none⟩ := by
  refine World.cell?_of_block ?_
  rw [heap_drew, heap_set_ne _ h, heap_set_ne _ h, heap_set_ne _ h, heap_set_ne _ h, heap_set_ne _ h, heap_set_ne _ h]
theorem find_bad (w1 w : World) (K : Nat → Prop) (rb n a : Nat) (B : List Bk) (s : ByteArray) (h : BSt w1 w K rb n a B) (ha : a ≤ 66) (hs : s.size ≤ 1000) (hn : bktB s.data.toList = false) :
    Calls Tryz.prog 15 #[.pointer (some ⟨rb, 0, none⟩), .string s] w fun e w' => e = .returned (.tuple #[.agg #[.string ⟨#[]⟩, .int .i64 0, .int .u64 0, .bool false, .string ⟨#[]⟩, .int .u64 0], .int .i64 28]) ∧ Hid (BSt w1 w' K rb n a B ∧ Kept K w w') := by
  obtain ⟨w0, hw0⟩ : ∃ w0, w.alloc (.cells #[.string ⟨#[]⟩, .int .i64 0, .int .u64 0, .bool false, .string ⟨#[]⟩, .int .u64 0] 46) = w0 := ⟨_, rfl⟩
  have blk : Hid (w0.heap[w.heap.size]? = some (.cells #[.string ⟨#[]⟩, .int .i64 0, .int .u64 0, .bool false, .string ⟨#[]⟩, .int .u64 0] 46 (0, 0))) := Lib.hid (by
    subst hw0; exact heap_alloc_new _ _)
  have HB0 : Hid (Below w.heap.size w w0) := Lib.hid (by subst hw0; exact (Below.refl w.heap.size w).alloc (Nat.le_refl _) _)
  have G0 : Hid (BGo w1 w0 w0 (fun k => K k ∨ k = w.heap.size) rb n a B) := Lib.hid ⟨h.new HB0.out _ (Nat.le_refl _) (lt_of_heap blk.out), fun _ _ => rfl⟩
  have UP := up_g G0 ha
  have HH := Lib.hid h
  have HHS := Lib.hid hs
  have HN := Lib.hid hn
  clear h hn hs
  go_enter Tryz.func15, Tryz.ntmps15
  go_wp2_with fail
  refine UP.mono ?_
  rintro e w2 ⟨rfl, G2⟩
  have BC := name_g s HHS.out G2
  rw [HN.out] at BC
  clear UP G0
  go_wp2_with fail
  refine BC.mono ?_
  rintro e w3 ⟨rfl, G3⟩
  have hb3 : w3.heap[w.heap.size]? = some (.cells #[.string ⟨#[]⟩, .int .i64 0, .int .u64 0, .bool false, .string ⟨#[]⟩, .int .u64 0] 46 (0, 0)) := (G3.out.2 _ (.inr rfl)).trans blk.out
  obtain ⟨c0, c1, c2, c3, c4, c5⟩ := cells6 hb3
  have f0 : ∀ i, w3.frozen? ⟨w.heap.size, i, none⟩ = false := fun i => frozen_lit hb3 i
  clear hb3
  clear BC G2
  go_wp2_with fail
  refine bodyPost_ret (v := .tuple #[.agg #[.string ⟨#[]⟩, .int .i64 0, .int .u64 0, .bool false, .string ⟨#[]⟩, .int .u64 0], .int .i64 28]) (by simp [results, Tryz.results15, go_sem, c0, c1, c2, c3, c4, c5, f0]) rfl ⟨rfl, HH.out.fin G3.out HB0.out _ _ _ _ _ _⟩
theorem find_none (w1 w : World) (K : Nat → Prop) (rb n a : Nat) (B : List Bk) (s : ByteArray) (h : BSt w1 w K rb n a B) (ha : a ≤ 66) (hs : s.size ≤ 1000) (hn : bktB s.data.toList = true) (hf : bAt B s = none) :
    Calls Tryz.prog 15 #[.pointer (some ⟨rb, 0, none⟩), .string s] w fun e w' => e = .returned (.tuple #[.agg #[.string ⟨#[]⟩, .int .i64 0, .int .u64 0, .bool false, .string ⟨#[]⟩, .int .u64 0], .int .i64 20]) ∧ Hid (BSt w1 w' K rb n a B ∧ Kept K w w') := by
  obtain ⟨w0, hw0⟩ : ∃ w0, w.alloc (.cells #[.string ⟨#[]⟩, .int .i64 0, .int .u64 0, .bool false, .string ⟨#[]⟩, .int .u64 0] 46) = w0 := ⟨_, rfl⟩
  have blk : Hid (w0.heap[w.heap.size]? = some (.cells #[.string ⟨#[]⟩, .int .i64 0, .int .u64 0, .bool false, .string ⟨#[]⟩, .int .u64 0] 46 (0, 0))) := Lib.hid (by
    subst hw0; exact heap_alloc_new _ _)
  have HB0 : Hid (Below w.heap.size w w0) := Lib.hid (by subst hw0; exact (Below.refl w.heap.size w).alloc (Nat.le_refl _) _)
  have G0 : Hid (BGo w1 w0 w0 (fun k => K k ∨ k = w.heap.size) rb n a B) := Lib.hid ⟨h.new HB0.out _ (Nat.le_refl _) (lt_of_heap blk.out), fun _ _ => rfl⟩
  have UP := up_g G0 ha
  have HH := Lib.hid h
  have HHS := Lib.hid hs
  have HN := Lib.hid hn
  have HF := Lib.hid hf
  have HA := Lib.hid ha
  clear h hn hs hf
  go_enter Tryz.func15, Tryz.ntmps15
  go_wp2_with fail
  refine UP.mono ?_
  rintro e w2 ⟨rfl, G2⟩
  have BC := name_g s HHS.out G2
  rw [HN.out] at BC
  clear UP G0
  go_wp2_with fail
  refine BC.mono ?_
  rintro e w3 ⟨rfl, G3⟩
  have MT := meta_g G3
  clear BC G2
  go_wp2_with fail
  refine MT.mono ?_
  rintro e w4 ⟨tb, rfl, G4⟩
  have KY := key_g s HN.out G4
  clear MT G3
  go_wp2_with fail
  refine KY.mono ?_
  rintro e w5 ⟨rfl, G5⟩
  have GT := get_no s HN.out G5 HA.out HF.out
  clear KY G4
  go_wp2_with fail
  refine GT.mono ?_
  rintro e w6 ⟨v, rfl, G6⟩
  have hb6 : w6.heap[w.heap.size]? = some (.cells #[.string ⟨#[]⟩, .int .i64 0, .int .u64 0, .bool false, .string ⟨#[]⟩, .int .u64 0] 46 (0, 0)) := (G6.out.2 _ (.inr rfl)).trans blk.out
  obtain ⟨c0, c1, c2, c3, c4, c5⟩ := cells6 hb6
  have f0 : ∀ i, w6.frozen? ⟨w.heap.size, i, none⟩ = false := fun i => frozen_lit hb6 i
  clear hb6
  clear GT G5
  go_wp2_with fail
  refine bodyPost_ret (v := .tuple #[.agg #[.string ⟨#[]⟩, .int .i64 0, .int .u64 0, .bool false, .string ⟨#[]⟩, .int .u64 0], .int .i64 20]) (by simp [results, Tryz.results15, go_sem, c0, c1, c2, c3, c4, c5, f0]) rfl ⟨rfl, HH.out.fin G6.out HB0.out _ _ _ _ _ _⟩
theorem find_some (w1 w : World) (K : Nat → Prop) (rb n a : Nat) (B : List Bk) (s : ByteArray) (h : BSt w1 w K rb n a B) (ha : a ≤ 66) (hs : s.size ≤ 1000) (hn : bktB s.data.toList = true) (b : Bk) (hf : bAt B s = some b) (hb : b.Ok) (hnm : b.nm = s) :
    Calls Tryz.prog 15 #[.pointer (some ⟨rb, 0, none⟩), .string s] w fun e w' => e = .returned (.tuple #[b.val, .int .i64 0]) ∧ Hid (BSt w1 w' K rb n a B ∧ Kept K w w') := by
  obtain ⟨w0, hw0⟩ : ∃ w0, w.alloc (.cells #[.string ⟨#[]⟩, .int .i64 0, .int .u64 0, .bool false, .string ⟨#[]⟩, .int .u64 0] 46) = w0 := ⟨_, rfl⟩
  have blk : Hid (w0.heap[w.heap.size]? = some (.cells #[.string ⟨#[]⟩, .int .i64 0, .int .u64 0, .bool false, .string ⟨#[]⟩, .int .u64 0] 46 (0, 0))) := Lib.hid (by
    subst hw0; exact heap_alloc_new _ _)
  have HB0 : Hid (Below w.heap.size w w0) := Lib.hid (by subst hw0; exact (Below.refl w.heap.size w).alloc (Nat.le_refl _) _)
  have G0 : Hid (BGo w1 w0 w0 (fun k => K k ∨ k = w.heap.size) rb n a B) := Lib.hid ⟨h.new HB0.out _ (Nat.le_refl _) (lt_of_heap blk.out), fun _ _ => rfl⟩
  have UP := up_g G0 ha
  have HH := Lib.hid h
  have HHS := Lib.hid hs
  have HN := Lib.hid hn
  have HF := Lib.hid hf
  have HBO := Lib.hid hb
  have HNM := Lib.hid hnm
  have HA := Lib.hid ha
  clear h hn hs hf hb hnm
  go_enter Tryz.func15, Tryz.ntmps15
  go_wp2_with fail
  refine UP.mono ?_
  rintro e w2 ⟨rfl, G2⟩
  have BC := name_g s HHS.out G2
  rw [HN.out] at BC
  clear UP G0
  go_wp2_with fail
  refine BC.mono ?_
  rintro e w3 ⟨rfl, G3⟩
  have MT := meta_g G3
  clear BC G2
  go_wp2_with fail
  refine MT.mono ?_
  rintro e w4 ⟨tb, rfl, G4⟩
  have KY := key_g s HN.out G4
  clear MT G3
  go_wp2_with fail
  refine KY.mono ?_
  rintro e w5 ⟨rfl, G5⟩
  have GT := get_yes s HN.out G5 HA.out b HF.out
  clear KY G4
  go_wp2_with fail
  refine GT.mono ?_
  rintro e w6 ⟨rfl, G6⟩
  have RD := read_g b HBO.out G6
  clear GT G5
  go_wp2_with fail
  refine RD.mono ?_
  rintro e w7 ⟨g, c, hbg, rfl, ⟨d0, d1, d2, d3, d4⟩, G7⟩
  have hb7 : w7.heap[w.heap.size]? = some (.cells #[.string ⟨#[]⟩, .int .i64 0, .int .u64 0, .bool false, .string ⟨#[]⟩, .int .u64 0] 46 (0, 0)) := (G7.out.2 _ (.inr rfl)).trans blk.out
  obtain ⟨c0, c1, c2, c3, c4, c5⟩ := cells6 hb7
  have f0 : ∀ i, w7.frozen? ⟨w.heap.size, i, none⟩ = false := fun i => frozen_lit hb7 i
  have hgx : g ≠ w.heap.size := by
    have := (G6.out.1.klt (.inr rfl) : w.heap.size < w6.heap.size)
    omega
  have KP := Lib.hid (fun i v0 v1 v2 v3 v4 v5 => set6_cell (W := w7) (i := i) hgx v0 v1 v2 v3 v4 v5)
  have DD : Hid (w7.cell? ⟨g, 0, none⟩ = some (.int .u64 (b.st : Int)) ∧ w7.cell? ⟨g, 2, none⟩ = some (.int .u64 (b.born : Int)) ∧ w7.cell? ⟨g, 4, none⟩ = some (.int .u64 (flagN b.on : Int)) ∧ w7.cell? ⟨g, 6, none⟩ = some (.int .u64 (b.af : Int)) ∧ w7.cell? ⟨g, 9, none⟩ = some (.string b.pre)) := Lib.hid ⟨d0, d1, d2, d3, d4⟩
  clear RD G6 hb7 hbg hgx
  have hfl : ((flagN b.on : Int) == 1) = b.on := by cases b.on <;> rfl
  obtain ⟨nm, st, born, on, af, pre⟩ := b
  simp only at d0 d1 d2 d3 d4 hfl DD
  have h2 : st ≤ 2 := HBO.out.st
  have kst : IntKind.i64.wrap (st : Int) = (st : Int) := by simp [IntKind.wrap, IntKind.bits, IntKind.signed]; omega
  generalize flagN on = fl at *
  clear h2
  go_wp2_with fail
  go_region_held3 (fun w' => w'.cell? ⟨g, 0, none⟩ = some (.int .u64 (st : Int)) ∧ w'.cell? ⟨g, 2, none⟩ = some (.int .u64 (born : Int)) ∧ w'.cell? ⟨g, 4, none⟩ = some (.int .u64 (fl : Int)) ∧ w'.cell? ⟨g, 6, none⟩ = some (.int .u64 (af : Int)) ∧ w'.cell? ⟨g, 9, none⟩ = some (.string pre)) (first | (go_keep; done) | exact ⟨(KP.out 0 _ _ _ _ _ _).trans DD.out.1, (KP.out 2 _ _ _ _ _ _).trans DD.out.2.1, (KP.out 4 _ _ _ _ _ _).trans DD.out.2.2.1, (KP.out 6 _ _ _ _ _ _).trans DD.out.2.2.2.1, (KP.out 9 _ _ _ _ _ _).trans DD.out.2.2.2.2⟩) (fail)
  all_goals go_wp2_with fail
  all_goals (
    have hE := Lib.hid (fin_drew (HH.out.fin G7.out HB0.out (.string s) (.int .i64 (st : Int)) (.int .u64 (born : Int)) (.bool on) (.string pre) (.int .u64 (af : Int))))
    refine bodyPost_ret (v := .tuple #[.agg #[.string s, .int .i64 (st : Int), .int .u64 (born : Int), .bool on, .string pre, .int .u64 (af : Int)], .int .i64 0]) (by simp [results, Tryz.results15, go_sem, c0, c1, c2, c3, c4, c5, f0]) rfl ⟨?_, hE⟩
    rw [← HNM.out]; rfl)
end Go.Proofs.YtaibjcjphmhgmaaGreatDoor
namespace Go.Proofs.YtaibjcjphmhgmaaGreatDoor
set_option linter.unusedVariables false
set_option maxRecDepth 100000
set_option maxHeartbeats 2000000
open Go.RowKit
/-- What Find answers of a name. -/
def errB (B : List Bk) (s : ByteArray) : Nat := if bktB s.data.toList = true then (match bAt B s with | none => 20 | some _ => 0) else 28
theorem errB_cases (B : List Bk) (s : ByteArray) : (errB B s = 28 ∧ bktB s.data.toList = false) ∨ (errB B s = 20 ∧ bktB s.data.toList = true ∧ bAt B s = none) ∨ (errB B s = 0 ∧ bktB s.data.toList = true ∧ ∃ b, bAt B s = some b) := by
  unfold errB
  cases hn : bktB s.data.toList
  · exact .inl ⟨by simp, rfl⟩
  · cases hf : bAt B s with
    | none => exact .inr (.inl ⟨by simp, rfl, rfl⟩)
    | some b => exact .inr (.inr ⟨by simp, rfl, b, rfl⟩)
def PutO : Option Bk → List Bk → List Bk → Prop
  | none, B, B' => B' = B
  | some b, B, B' => PutB b B B'
theorem pair_below {w1 w w2 w3 : World} {K : Nat → Prop} {rb n a : Nat} {B : List Bk} (h : BSt w1 w2 K rb n a B ∧ Kept K w w2) (hb : Below w2.heap.size w2 w3) : BSt w1 w3 K rb n a B ∧ Kept K w w3 := ⟨h.1.below hb, h.2.trans (h.1.keep hb)⟩
/-- .. with a block of the call's own. -/
def BLoc (w1 w : World) (K : Nat → Prop) (rb n a : Nat) (B : List Bk) (q : Nat) (W : World) : Prop := BSt w1 W (fun k => K k ∨ k = q) rb n a B ∧ Kept K w W ∧ w1.heap.size ≤ q ∧ ∀ k, K k → k ≠ q
theorem BLoc.start {w1 w w2 w3 : World} {K : Nat → Prop} {rb n a : Nat} {B : List Bk} (h : BSt w1 w2 K rb n a B ∧ Kept K w w2) (hb : Below w2.heap.size w2 w3) (hl : w2.heap.size < w3.heap.size) : BLoc w1 w K rb n a B w2.heap.size w3 :=
  ⟨h.1.new hb _ (Nat.le_refl _) hl, (pair_below h hb).2, h.1.bel.size, fun k hk => by have := h.1.klt hk; omega⟩
theorem BLoc.set {w1 w W : World} {K : Nat → Prop} {rb n a q : Nat} {B : List Bk} (h : BLoc w1 w K rb n a B q W) (off : Nat) (v : Value) : BLoc w1 w K rb n a B q (W.setCell ⟨q, off, none⟩ v) :=
  ⟨h.1.set (.inr rfl) h.2.2.1 off v, fun k hk => (heap_set_ne _ (h.2.2.2 k hk)).trans (h.2.1 k hk), h.2.2⟩
theorem BLoc.below {w1 w W W' : World} {K : Nat → Prop} {rb n a q : Nat} {B : List Bk} (h : BLoc w1 w K rb n a B q W) (hb : Below W.heap.size W W') : BLoc w1 w K rb n a B q W' :=
  ⟨h.1.below hb, h.2.1.trans ((h.1.keep hb).mono fun k hk => .inl hk), h.2.2⟩
theorem BLoc.pair {w1 w W : World} {K : Nat → Prop} {rb n a q : Nat} {B : List Bk} (h : BLoc w1 w K rb n a B q W) : BSt w1 W K rb n a B ∧ Kept K w W := ⟨h.1.mono fun k hk => .inl hk, h.2.1⟩
theorem below_alloc (w : World) (o : Obj) : Below w.heap.size w (w.alloc o) := (Below.refl _ _).alloc (Nat.le_refl _) o
theorem lt_alloc (w : World) (o : Obj) : w.heap.size < (w.alloc o).heap.size := by simp
section
variable (w1 w : World) (K : Nat → Prop) (rb n a : Nat) (B : List Bk) (s : ByteArray)
/-- What a call on buckets leaves: one act more. -/
def BEnd (w' : World) (o : Option Bk) : Prop := ∃ B', (BSt w1 w' K rb n (a + 1) B' ∧ Kept K w w') ∧ PutO o B B'
theorem BEnd.same {w1 w w' : World} {K : Nat → Prop} {rb n a : Nat} {B : List Bk} (h : BSt w1 w' K rb n a B ∧ Kept K w w') : BEnd w1 w K rb n a B w' none := ⟨B, ⟨h.1.more (by omega), h.2⟩, rfl⟩
theorem find_err (h : BSt w1 w K rb n a B) (ha : a ≤ 66) (hs : s.size ≤ 1000) (hE : errB B s = 28 ∨ errB B s = 20) :
    Calls Tryz.prog 15 #[.pointer (some ⟨rb, 0, none⟩), .string s] w fun e w' => e = .returned (.tuple #[.agg #[.string ⟨#[]⟩, .int .i64 0, .int .u64 0, .bool false, .string ⟨#[]⟩, .int .u64 0], .int .i64 (errB B s : Int)]) ∧ Hid (BSt w1 w' K rb n a B ∧ Kept K w w') := by
  rcases errB_cases B s with ⟨h1, h2⟩ | ⟨h1, h2, h3⟩ | ⟨h1, -⟩
  · rw [h1]; exact find_bad w1 w K rb n a B s h ha hs h2
  · rw [h1]; exact find_none w1 w K rb n a B s h ha hs h2 h3
  · omega
theorem find_ok (h : BSt w1 w K rb n a B) (ha : a ≤ 66) (hs : s.size ≤ 1000) (b : Bk) (hn : bktB s.data.toList = true) (hf : bAt B s = some b) :
    Calls Tryz.prog 15 #[.pointer (some ⟨rb, 0, none⟩), .string s] w fun e w' => e = .returned (.tuple #[.agg #[.string b.nm, .int .i64 (b.st : Int), .int .u64 (b.born : Int), .bool b.on, .string b.pre, .int .u64 (b.af : Int)], .int .i64 0]) ∧ Hid (BSt w1 w' K rb n a B ∧ Kept K w w') :=
  find_some w1 w K rb n a B s h ha hs hn b hf (h.ok b (bAt_some hf).1) (bAt_some hf).2
/-- SetState. -/
def stR (st : Int) : Nat × Option Bk :=
  if errB B s ≠ 0 then (errB B s, none) else
  match bAt B s with
  | some b => if st = 1 ∨ st = 2 then (0, some { b with st := st.toNat }) else (30, none)
  | none => (0, none)
theorem keep_e {W : World} (b : Bk) (h : BSt w1 W K rb n a B ∧ Kept K w W) (ha : a ≤ 61) (hb : b.Ok) :
    Calls Tryz.prog 54 #[.pointer (some ⟨rb, 0, none⟩), b.val] W fun e w' => e = .returned (.int .i64 0) ∧ Hid (BEnd w1 w K rb n a B w' (some b)) := by
  refine (keep_c w1 W K rb n a B b h.1 ha hb).mono ?_
  rintro e w' ⟨rfl, hE⟩
  obtain ⟨B', ⟨g1, g2⟩, g3⟩ := hE.out
  exact ⟨rfl, B', ⟨g1, h.2.trans g2⟩, g3⟩
theorem SetState_c (st : Int) (h : BSt w1 w K rb n a B) (ha : a ≤ 61) (hs : s.size ≤ 1000) :
    Calls Tryz.prog 18 #[.pointer (some ⟨rb, 0, none⟩), .string s, .int .i64 st] w fun e w' => e = .returned (.int .i64 ((stR B s st).1 : Int)) ∧ Hid (BEnd w1 w K rb n a B w' (stR B s st).2) := by
  rcases errB_cases B s with ⟨h1, h2⟩ | ⟨h1, h2, h3⟩ | ⟨h1, h2, b, h3⟩
  · have FE := find_err w1 w K rb n a B s h (by omega) hs (.inl h1)
    have hR : stR B s st = (28, none) := by unfold stR; rw [h1, if_pos (by decide)]
    rw [h1] at FE
    rw [hR]
    clear h hR h1
    go_enter Tryz.func18, Tryz.ntmps18
    go_wp2_with fail
    refine FE.mono ?_
    rintro e w2 ⟨rfl, G2⟩
    clear FE
    go_wp2_with fail
    go_ret
    exact ⟨rfl, Lib.hid (BEnd.same (pair_below G2.out (below_alloc _ _)))⟩
  · have FE := find_err w1 w K rb n a B s h (by omega) hs (.inr h1)
    have hR : stR B s st = (20, none) := by unfold stR; rw [h1, if_pos (by decide)]
    rw [h1] at FE
    rw [hR]
    clear h hR h1
    go_enter Tryz.func18, Tryz.ntmps18
    go_wp2_with fail
    refine FE.mono ?_
    rintro e w2 ⟨rfl, G2⟩
    clear FE
    go_wp2_with fail
    go_ret
    exact ⟨rfl, Lib.hid (BEnd.same (pair_below G2.out (below_alloc _ _)))⟩
  · have FE := find_ok w1 w K rb n a B s h (by omega) hs b h2 h3
    have hb := h.ok b (bAt_some h3).1
    obtain ⟨nm, st0, born, on, af, pre⟩ := b
    by_cases e1 : st = 1
    · subst e1
      have hR : stR B s 1 = (0, some ⟨nm, 1, born, on, af, pre⟩) := by unfold stR; rw [h1, if_neg (by decide), h3]; rfl
      rw [hR]
      have KE : Hid (∀ W, BSt w1 W K rb n a B ∧ Kept K w W → Calls Tryz.prog 54 #[.pointer (some ⟨rb, 0, none⟩), .agg #[.string nm, .int .i64 1, .int .u64 (born : Int), .bool on, .string pre, .int .u64 (af : Int)]] W fun e w' => e = .returned (.int .i64 0) ∧ Hid (BEnd w1 w K rb n a B w' (some ⟨nm, 1, born, on, af, pre⟩))) := Lib.hid fun W hW => keep_e w1 w K rb n a B ⟨nm, 1, born, on, af, pre⟩ hW ha ⟨hb.nm, Nat.le_of_ble_eq_true rfl, hb.born, hb.af, hb.pre⟩
      clear hR h1 h2 h3 h hb
      simp only at FE
      go_enter Tryz.func18, Tryz.ntmps18
      go_wp2_with fail
      refine FE.mono ?_
      rintro e w2 ⟨rfl, G2⟩
      clear FE
      go_wp2_with fail
      refine (KE.out _ (pair_below G2.out (below_alloc _ _))).mono ?_
      rintro e w3 ⟨rfl, HE⟩
      clear KE
      go_wp2_with fail
      go_ret
      exact ⟨rfl, HE⟩
    by_cases e2 : st = 2
    · subst e2
      have hR : stR B s 2 = (0, some ⟨nm, 2, born, on, af, pre⟩) := by unfold stR; rw [h1, if_neg (by decide), h3]; rfl
      rw [hR]
      have KE : Hid (∀ W, BSt w1 W K rb n a B ∧ Kept K w W → Calls Tryz.prog 54 #[.pointer (some ⟨rb, 0, none⟩), .agg #[.string nm, .int .i64 2, .int .u64 (born : Int), .bool on, .string pre, .int .u64 (af : Int)]] W fun e w' => e = .returned (.int .i64 0) ∧ Hid (BEnd w1 w K rb n a B w' (some ⟨nm, 2, born, on, af, pre⟩))) := Lib.hid fun W hW => keep_e w1 w K rb n a B ⟨nm, 2, born, on, af, pre⟩ hW ha ⟨hb.nm, Nat.le_of_ble_eq_true rfl, hb.born, hb.af, hb.pre⟩
      clear hR h1 h2 h3 h hb
      simp only at FE
      go_enter Tryz.func18, Tryz.ntmps18
      go_wp2_with fail
      refine FE.mono ?_
      rintro e w2 ⟨rfl, G2⟩
      clear FE
      go_wp2_with fail
      refine (KE.out _ (pair_below G2.out (below_alloc _ _))).mono ?_
      rintro e w3 ⟨rfl, HE⟩
      clear KE
      go_wp2_with fail
      go_ret
      exact ⟨rfl, HE⟩
    have hR : stR B s st = (30, none) := by
      unfold stR
      rw [h1, if_neg (by decide), h3]
      exact if_neg (by omega)
    rw [hR]
    have q1 : (st != 1) = true := by simp [e1]
    have q2 : (st != 2) = true := by simp [e2]
    clear hR h1 h2 h3 h hb
    simp only at FE
    go_enter Tryz.func18, Tryz.ntmps18
    go_wp2_with fail
    refine FE.mono ?_
    rintro e w2 ⟨rfl, G2⟩
    clear FE
    go_wp2_with fail
    go_ret
    exact ⟨rfl, Lib.hid (BEnd.same (pair_below G2.out (below_alloc _ _)))⟩
/-- Make. -/
def mkR (now : Nat) : Nat × Option Bk :=
  if errB B s = 20 then (0, some ⟨s, 0, now, false, 0, ⟨#[]⟩⟩) else if errB B s = 0 then (21, none) else (errB B s, none)
theorem Make_c (now : Nat) (h : BSt w1 w K rb n a B) (ha : a ≤ 61) (hs : s.size ≤ 1000) (hnow : now < 18446744073709551616) :
    Calls Tryz.prog 13 #[.pointer (some ⟨rb, 0, none⟩), .string s, .int .u64 (now : Int)] w fun e w' => e = .returned (.int .i64 ((mkR B s now).1 : Int)) ∧ Hid (BEnd w1 w K rb n a B w' (mkR B s now).2) := by
  rcases errB_cases B s with ⟨h1, h2⟩ | ⟨h1, h2, h3⟩ | ⟨h1, h2, b, h3⟩
  · have FE := find_err w1 w K rb n a B s h (by omega) hs (.inl h1)
    have hR : mkR B s now = (28, none) := by unfold mkR; rw [h1, if_neg (by decide), if_neg (by decide)]
    rw [h1] at FE
    rw [hR]
    clear h hR h1
    go_enter Tryz.func13, Tryz.ntmps13
    go_wp2_with fail
    refine FE.mono ?_
    rintro e w2 ⟨rfl, G2⟩
    clear FE
    go_wp2_with fail
    go_ret
    exact ⟨rfl, Lib.hid (BEnd.same (pair_below G2.out (below_alloc _ _)))⟩
  · have FE := find_err w1 w K rb n a B s h (by omega) hs (.inr h1)
    have hR : mkR B s now = (0, some ⟨s, 0, now, false, 0, ⟨#[]⟩⟩) := by unfold mkR; rw [h1, if_pos rfl]
    rw [h1] at FE
    rw [hR]
    have KE : Hid (∀ W, BSt w1 W K rb n a B ∧ Kept K w W → Calls Tryz.prog 54 #[.pointer (some ⟨rb, 0, none⟩), .agg #[.string s, .int .i64 0, .int .u64 (now : Int), .bool false, .string ⟨#[]⟩, .int .u64 0]] W fun e w' => e = .returned (.int .i64 0) ∧ Hid (BEnd w1 w K rb n a B w' (some ⟨s, 0, now, false, 0, ⟨#[]⟩⟩))) := Lib.hid fun W hW => keep_e w1 w K rb n a B ⟨s, 0, now, false, 0, ⟨#[]⟩⟩ hW ha ⟨h2, Nat.zero_le _, hnow, (by show (0 : Nat) < 18446744073709551616; omega), Nat.zero_le _⟩
    clear hR h1 h2 h3 h hnow
    go_enter Tryz.func13, Tryz.ntmps13
    go_wp2_with fail
    refine FE.mono ?_
    rintro e w2 ⟨rfl, G2⟩
    clear FE
    go_wp2_with fail
    refine (KE.out _ (pair_below G2.out (below_alloc _ _))).mono ?_
    rintro e w3 ⟨rfl, HE⟩
    clear KE
    go_wp2_with fail
    go_ret
    exact ⟨rfl, HE⟩
  · have FE := find_ok w1 w K rb n a B s h (by omega) hs b h2 h3
    have hR : mkR B s now = (21, none) := by unfold mkR; rw [h1, if_neg (by decide), if_pos rfl]
    rw [hR]
    clear hR h1 h2 h3 h
    go_enter Tryz.func13, Tryz.ntmps13
    go_wp2_with fail
    refine FE.mono ?_
    rintro e w2 ⟨rfl, G2⟩
    clear FE
    go_wp2_with fail
    go_ret
    exact ⟨rfl, Lib.hid (BEnd.same (pair_below G2.out (below_alloc _ _)))⟩
end
end Go.Proofs.YtaibjcjphmhgmaaGreatDoor
namespace Go.Proofs.YtaibjcjphmhgmaaGreatDoor
set_option linter.unusedVariables false
set_option maxRecDepth 100000
set_option maxHeartbeats 2000000
open Go.RowKit
theorem BLoc.out {w1 w w0 W : World} {K : Nat → Prop} {rb n a a' q : Nat} {B B' : List Bk} (h : BLoc w1 w K rb n a B q w0) (g : BSt w1 W (fun k => K k ∨ k = q) rb n a' B' ∧ Kept (fun k => K k ∨ k = q) w0 W) : BSt w1 W K rb n a' B' ∧ Kept K w W :=
  ⟨g.1.mono fun k hk => .inl hk, h.2.1.trans (g.2.mono fun k hk => .inl hk)⟩
section
variable (w1 w : World) (K : Nat → Prop) (rb n a : Nat) (B : List Bk) (s : ByteArray)
/-- SetRule. -/
def srR (on : Bool) (pre : ByteArray) (af : Nat) : Nat × Option Bk :=
  if errB B s ≠ 0 then (errB B s, none) else
  match bAt B s with
  | some b => if rightB on pre af = true then (0, some { b with on := on, pre := pre, af := af }) else (30, none)
  | none => (0, none)
theorem rightB_pre {on : Bool} {pre : ByteArray} {af : Nat} (h : rightB on pre af = true) : pre.size ≤ 20 := by
  unfold rightB at h
  simp only [Bool.and_eq_true, decide_eq_true_eq] at h
  exact h.1
theorem SetRule_c (on : Bool) (pre : ByteArray) (af : Nat) (h : BSt w1 w K rb n a B) (ha : a ≤ 61) (hs : s.size ≤ 1000) (haf : af < 18446744073709551616) :
    Calls Tryz.prog 20 #[.pointer (some ⟨rb, 0, none⟩), .string s, .agg #[.bool on, .string pre, .int .u64 (af : Int)]] w fun e w' => e = .returned (.int .i64 ((srR B s on pre af).1 : Int)) ∧ Hid (BEnd w1 w K rb n a B w' (srR B s on pre af).2) := by
  obtain ⟨w0, hw0⟩ : ∃ w0, w.alloc (.cells #[.bool on, .string pre, .int .u64 (af : Int)] 38) = w0 := ⟨_, rfl⟩
  have blk : Hid (w0.heap[w.heap.size]? = some (.cells #[.bool on, .string pre, .int .u64 (af : Int)] 38 (0, 0))) := Lib.hid (by
    subst hw0; exact heap_alloc_new _ _)
  have L0 : Hid (BLoc w1 w K rb n a B w.heap.size w0) := Lib.hid (by
    subst hw0; exact BLoc.start ⟨h, fun _ _ => rfl⟩ (below_alloc _ _) (lt_alloc _ _))
  clear h
  rcases errB_cases B s with ⟨h1, h2⟩ | ⟨h1, h2, h3⟩ | ⟨h1, h2, b, h3⟩
  · have FE := find_err w1 w0 _ rb n a B s L0.out.1 (by omega) hs (.inl h1)
    have hR : srR B s on pre af = (28, none) := by unfold srR; rw [h1, if_pos (by decide)]
    rw [h1] at FE
    rw [hR]
    clear hR h1
    go_enter Tryz.func20, Tryz.ntmps20
    go_wp2_with fail
    refine FE.mono ?_
    rintro e w2 ⟨rfl, G2⟩
    clear FE
    go_wp2_with fail
    go_ret
    exact ⟨rfl, Lib.hid (BEnd.same (L0.out.out (pair_below G2.out (below_alloc _ _))))⟩
  · have FE := find_err w1 w0 _ rb n a B s L0.out.1 (by omega) hs (.inr h1)
    have hR : srR B s on pre af = (20, none) := by unfold srR; rw [h1, if_pos (by decide)]
    rw [h1] at FE
    rw [hR]
    clear hR h1
    go_enter Tryz.func20, Tryz.ntmps20
    go_wp2_with fail
    refine FE.mono ?_
    rintro e w2 ⟨rfl, G2⟩
    clear FE
    go_wp2_with fail
    go_ret
    exact ⟨rfl, Lib.hid (BEnd.same (L0.out.out (pair_below G2.out (below_alloc _ _))))⟩
  · have FE := find_ok w1 w0 _ rb n a B s L0.out.1 (by omega) hs b h2 h3
    have hb := L0.out.1.ok b (bAt_some h3).1
    have RT := fun W => right_c on pre af W
    obtain ⟨nm, st, born, on0, af0, pre0⟩ := b
    have hR : srR B s on pre af = if rightB on pre af = true then (0, some ⟨nm, st, born, on, af, pre⟩) else (30, none) := by unfold srR; rw [h1, if_neg (by decide), h3]
    rw [hR]
    have KE : Hid (rightB on pre af = true → ∀ W, BSt w1 W K rb n a B ∧ Kept K w W → Calls Tryz.prog 54 #[.pointer (some ⟨rb, 0, none⟩), .agg #[.string nm, .int .i64 (st : Int), .int .u64 (born : Int), .bool on, .string pre, .int .u64 (af : Int)]] W fun e w' => e = .returned (.int .i64 0) ∧ Hid (BEnd w1 w K rb n a B w' (some ⟨nm, st, born, on, af, pre⟩))) := Lib.hid fun hr W hW => keep_e w1 w K rb n a B ⟨nm, st, born, on, af, pre⟩ hW ha ⟨hb.nm, hb.st, hb.born, haf, rightB_pre hr⟩
    generalize hrb : rightB on pre af = r at *
    clear hR h1 h2 h3 hb haf hrb
    simp only at FE
    have hlt : w.heap.size < w0.heap.size := lt_of_heap blk.out
    have hbk := blk.out
    have a0 : w0.cell? ⟨w.heap.size, 0, none⟩ = some (.bool on) := cell_lit hbk rfl
    cases r
    all_goals (
      go_enter Tryz.func20, Tryz.ntmps20
      go_wp2_with fail
      refine FE.mono ?_
      rintro e w2 ⟨rfl, G2⟩
      have e2 := (G2.out.2 _ (.inr rfl)).trans blk.out
      have l2 := lt_of_heap e2
      have x0 : w2.cell? ⟨w.heap.size, 0, none⟩ = some (.bool on) := cell_lit e2 rfl
      have x1 : w2.cell? ⟨w.heap.size, 1, none⟩ = some (.string pre) := cell_lit e2 rfl
      have x2 : w2.cell? ⟨w.heap.size, 2, none⟩ = some (.int .u64 (af : Int)) := cell_lit e2 rfl
      have E2 := Lib.hid e2
      clear FE e2 hbk
      go_wp2_with fail
      refine (RT _).mono ?_
      rintro e w3 ⟨rfl, hb3⟩
      have L3 := Lib.hid ((BLoc.start G2.out (below_alloc _ _) (lt_alloc _ _)).below hb3.out)
      have y := (hb3.out.block w2.heap.size (by simp)).trans (heap_alloc_new w2 _)
      have e3 := (hb3.out.block w.heap.size (by simp; omega)).trans ((heap_alloc_lt _ l2).trans E2.out)
      have z0 : w3.cell? ⟨w.heap.size, 0, none⟩ = some (.bool on) := cell_lit e3 rfl
      have z1 : w3.cell? ⟨w.heap.size, 1, none⟩ = some (.string pre) := cell_lit e3 rfl
      have z2 : w3.cell? ⟨w.heap.size, 2, none⟩ = some (.int .u64 (af : Int)) := cell_lit e3 rfl
      obtain ⟨d0, d1, d2, d3, d4, d5⟩ := cells6 y
      have fz : ∀ i, w3.frozen? ⟨w2.heap.size, i, none⟩ = false := fun i => frozen_lit y i
      clear x0 x1 x2 E2 y e3 hb3 RT
      go_wp2_with fail)
    · go_ret
      exact ⟨rfl, Lib.hid (BEnd.same (L0.out.out L3.out.pair))⟩
    · refine (KE.out (by first | rfl | trivial) _ (L0.out.out (((L3.out.set 3 _).set 4 _).set 5 _).pair)).mono ?_
      rintro e w4 ⟨rfl, HE⟩
      clear KE L3
      go_wp2_with fail
      go_ret
      exact ⟨rfl, HE⟩
/-- Restore. -/
def rsR (st : Int) (born : Nat) (on : Bool) (pre : ByteArray) (af : Nat) : Nat × Option Bk :=
  if errB B s = 28 then (28, none) else if 0 ≤ st ∧ st ≤ 2 ∧ rightB on pre af = true then (0, some ⟨s, st.toNat, born, on, af, pre⟩) else (30, none)
theorem Restore_c (st : Int) (born : Nat) (on : Bool) (pre : ByteArray) (af : Nat) (h : BSt w1 w K rb n a B) (ha : a ≤ 61) (hs : s.size ≤ 1000) (hbo : born < 18446744073709551616) (haf : af < 18446744073709551616) :
    Calls Tryz.prog 24 #[.pointer (some ⟨rb, 0, none⟩), .agg #[.string s, .int .i64 st, .int .u64 (born : Int), .bool on, .string pre, .int .u64 (af : Int)]] w fun e w' => e = .returned (.int .i64 ((rsR B s st born on pre af).1 : Int)) ∧ Hid (BEnd w1 w K rb n a B w' (rsR B s st born on pre af).2) := by
  obtain ⟨w0, hw0⟩ : ∃ w0, w.alloc (.cells #[.string s, .int .i64 st, .int .u64 (born : Int), .bool on, .string pre, .int .u64 (af : Int)] 46) = w0 := ⟨_, rfl⟩
  have blk : Hid (w0.heap[w.heap.size]? = some (.cells #[.string s, .int .i64 st, .int .u64 (born : Int), .bool on, .string pre, .int .u64 (af : Int)] 46 (0, 0))) := Lib.hid (by
    subst hw0; exact heap_alloc_new _ _)
  have L0 : Hid (BLoc w1 w K rb n a B w.heap.size w0) := Lib.hid (by
    subst hw0; exact BLoc.start ⟨h, fun _ _ => rfl⟩ (below_alloc _ _) (lt_alloc _ _))
  clear h
  have hlt : w.heap.size < w0.heap.size := lt_of_heap blk.out
  have a0 : w0.cell? ⟨w.heap.size, 0, none⟩ = some (.string s) := cell_lit blk.out rfl
  have RT := fun W => right_c on pre af W
  by_cases h28 : errB B s = 28
  · have FE := find_err w1 w0 _ rb n a B s L0.out.1 (by omega) hs (.inl h28)
    have hR : rsR B s st born on pre af = (28, none) := by unfold rsR; rw [if_pos h28]
    rw [h28] at FE
    rw [hR]
    clear hR h28 RT
    go_enter Tryz.func24, Tryz.ntmps24
    go_wp2_with fail
    refine FE.mono ?_
    rintro e w2 ⟨rfl, G2⟩
    clear FE
    go_wp2_with fail
    go_ret
    exact ⟨rfl, Lib.hid (BEnd.same (L0.out.out (pair_below G2.out (below_alloc _ _))))⟩
  have hnm : bktB s.data.toList = true := by
    rcases errB_cases B s with ⟨h1, h2⟩ | ⟨h1, h2, h3⟩ | ⟨h1, h2, b, h3⟩
    · exact absurd h1 h28
    · exact h2
    · exact h2
  have FE : ∃ (x0 : ByteArray) (x1 x2 x5 : Int) (x3 : Bool) (x4 : ByteArray) (E : Int), (E = 0 ∨ E = 20) ∧ Calls Tryz.prog 15 #[.pointer (some ⟨rb, 0, none⟩), .string s] w0 fun e w' => e = .returned (.tuple #[.agg #[.string x0, .int .i64 x1, .int .u64 x2, .bool x3, .string x4, .int .u64 x5], .int .i64 E]) ∧ Hid (BSt w1 w' (fun k => K k ∨ k = w.heap.size) rb n a B ∧ Kept (fun k => K k ∨ k = w.heap.size) w0 w') := by
    rcases errB_cases B s with ⟨h1, h2⟩ | ⟨h1, h2, h3⟩ | ⟨h1, h2, b, h3⟩
    · exact absurd h1 h28
    · refine ⟨⟨#[]⟩, 0, 0, 0, false, ⟨#[]⟩, 20, .inr rfl, ?_⟩
      have := find_err w1 w0 _ rb n a B s L0.out.1 (by omega) hs (.inr h1)
      rw [h1] at this
      exact this
    · exact ⟨b.nm, (b.st : Int), (b.born : Int), (b.af : Int), b.on, b.pre, 0, .inl rfl, find_ok w1 w0 _ rb n a B s L0.out.1 (by omega) hs b h2 h3⟩
  obtain ⟨x0, x1, x2, x5, x3, x4, E, hE, FE⟩ := FE
  have hE1 : ((E != 0) = true ∧ (E != 20) = false) ∨ ((E != 0) = false) := by
    rcases hE with rfl | rfl
    · exact .inr rfl
    · exact .inl ⟨rfl, rfl⟩
  by_cases hr : 0 ≤ st ∧ st ≤ 2 ∧ rightB on pre af = true
  · have hR : rsR B s st born on pre af = (0, some ⟨s, st.toNat, born, on, af, pre⟩) := by unfold rsR; rw [if_neg h28, if_pos hr]
    rw [hR]
    obtain ⟨r1, r2, r3⟩ := hr
    have q1 : ¬ st < 0 := by omega
    have q2 : ¬ 2 < st := by omega
    have KE : Hid (∀ W, BSt w1 W K rb n a B ∧ Kept K w W → Calls Tryz.prog 54 #[.pointer (some ⟨rb, 0, none⟩), .agg #[.string s, .int .i64 st, .int .u64 (born : Int), .bool on, .string pre, .int .u64 (af : Int)]] W fun e w' => e = .returned (.int .i64 0) ∧ Hid (BEnd w1 w K rb n a B w' (some ⟨s, st.toNat, born, on, af, pre⟩))) := Lib.hid fun W hW => by
      have := keep_e w1 w K rb n a B ⟨s, st.toNat, born, on, af, pre⟩ hW ha ⟨hnm, by show st.toNat ≤ 2; omega, hbo, haf, rightB_pre r3⟩
      unfold Bk.val at this
      rw [show ((st.toNat : Nat) : Int) = st by omega] at this
      exact this
    rw [r3] at RT
    clear hR r1 r2 r3 hbo haf h28 hE
    rcases hE1 with ⟨hE1, hE2⟩ | hE1
    all_goals (
      go_enter Tryz.func24, Tryz.ntmps24
      go_wp2_with fail
      refine FE.mono ?_
      rintro e w2 ⟨rfl, G2⟩
      have e2 := (G2.out.2 _ (.inr rfl)).trans blk.out
      have l2 := lt_of_heap e2
      obtain ⟨y0, y1, y2, y3, y4, y5⟩ := cells6 e2
      have E2 := Lib.hid e2
      clear FE e2
      go_wp2_with fail
      refine (RT _).mono ?_
      rintro e w3 ⟨rfl, hb3⟩
      have L3 := Lib.hid ((BLoc.start G2.out (below_alloc _ _) (lt_alloc _ _)).below hb3.out)
      have e3 := (hb3.out.block w.heap.size (by simp; omega)).trans ((heap_alloc_lt _ l2).trans E2.out)
      obtain ⟨d0, d1, d2, d3, d4, d5⟩ := cells6 e3
      clear y0 y1 y2 y3 y4 y5 E2 e3 hb3 RT
      go_wp2_with fail
      refine (KE.out _ (L0.out.out L3.out.pair)).mono ?_
      rintro e w4 ⟨rfl, HE⟩
      clear KE L3
      go_wp2_with fail
      go_ret
      exact ⟨rfl, HE⟩)
  · have hR : rsR B s st born on pre af = (30, none) := by unfold rsR; rw [if_neg h28, if_neg hr]
    rw [hR]
    clear hR hbo haf h28 hE hnm
    by_cases q1 : st < 0
    · clear hr RT
      rcases hE1 with ⟨hE1, hE2⟩ | hE1
      all_goals (
        go_enter Tryz.func24, Tryz.ntmps24
        go_wp2_with fail
        refine FE.mono ?_
        rintro e w2 ⟨rfl, G2⟩
        have e2 := (G2.out.2 _ (.inr rfl)).trans blk.out
        have l2 := lt_of_heap e2
        obtain ⟨y0, y1, y2, y3, y4, y5⟩ := cells6 e2
        have E2 := Lib.hid e2
        clear FE e2
        go_wp2_with fail
        go_ret
        exact ⟨rfl, Lib.hid (BEnd.same (L0.out.out (pair_below G2.out (below_alloc _ _))))⟩)
    by_cases q2 : 2 < st
    · clear hr RT
      rcases hE1 with ⟨hE1, hE2⟩ | hE1
      all_goals (
        go_enter Tryz.func24, Tryz.ntmps24
        go_wp2_with fail
        refine FE.mono ?_
        rintro e w2 ⟨rfl, G2⟩
        have e2 := (G2.out.2 _ (.inr rfl)).trans blk.out
        have l2 := lt_of_heap e2
        obtain ⟨y0, y1, y2, y3, y4, y5⟩ := cells6 e2
        have E2 := Lib.hid e2
        clear FE e2
        go_wp2_with fail
        go_ret
        exact ⟨rfl, Lib.hid (BEnd.same (L0.out.out (pair_below G2.out (below_alloc _ _))))⟩)
    have r3 : rightB on pre af = false := by
      cases hq : rightB on pre af with
      | false => rfl
      | true => exact absurd ⟨by omega, by omega, hq⟩ hr
    rw [r3] at RT
    clear hr r3
    rcases hE1 with ⟨hE1, hE2⟩ | hE1
    all_goals (
      go_enter Tryz.func24, Tryz.ntmps24
      go_wp2_with fail
      refine FE.mono ?_
      rintro e w2 ⟨rfl, G2⟩
      have e2 := (G2.out.2 _ (.inr rfl)).trans blk.out
      have l2 := lt_of_heap e2
      obtain ⟨y0, y1, y2, y3, y4, y5⟩ := cells6 e2
      have E2 := Lib.hid e2
      clear FE e2
      go_wp2_with fail
      refine (RT _).mono ?_
      rintro e w3 ⟨rfl, hb3⟩
      have L3 := Lib.hid ((BLoc.start G2.out (below_alloc _ _) (lt_alloc _ _)).below hb3.out)
      clear y0 y1 y2 y3 y4 y5 E2 hb3 RT
      go_wp2_with fail
      go_ret
      exact ⟨rfl, Lib.hid (BEnd.same (L0.out.out L3.out.pair))⟩)
end
end Go.Proofs.YtaibjcjphmhgmaaGreatDoor
namespace Go.Proofs.YtaibjcjphmhgmaaGreatDoor
set_option linter.unusedVariables false
set_option maxRecDepth 100000
set_option maxHeartbeats 2000000
open Go.RowKit
section
variable (w1 w : World) (K : Nat → Prop) (rb n a : Nat) (B : List Bk) (s : ByteArray)
theorem under_head {s : ByteArray} (h : bktB s.data.toList = true) (k : UInt8) : (⟨(underL k (dat [s])).toArray⟩ : ByteArray).data.toList = k :: partsL (dat [s]) ∧ (⟨(underL k (dat [s])).toArray⟩ : ByteArray).size ≤ 1000 := by
  have h1 : noZero (dat [s]) = true := by unfold noZero; simp [dat, bkt_noZero h]
  have e : underL k (dat [s]) = k :: partsL (dat [s]) := by unfold underL; rw [if_pos h1]
  refine ⟨by rw [e], ?_⟩
  have h3 := bkt_short h
  rw [Lib.size_eq] at h3
  rw [Lib.size_eq, e]
  simp only [dat, partsL, List.map_cons, List.map_nil, List.flatMap_cons, List.flatMap_nil, List.append_nil, List.length_cons, List.length_append, List.length_nil]
  omega
/-- One kind of things under a bucket. -/
theorem behind_e {W : World} (k : UInt8) (hk : 98 < k) (hs : bktB s.data.toList = true) {tb : Nat} (h : Hid (BTm w1 w W K tb rb n a B)) (ha : a ≤ 66) (tt : ByteArray) :
    Calls Tryz.prog 44 #[.pointer (some ⟨tb, 0, none⟩), .string ⟨(underL k (dat [s])).toArray⟩, .string tt, .int .i64 1] W fun e w' => ∃ v k, e = .returned (.tuple #[.slice v 0 k, .int .i64 0]) ∧ Hid (BGo w1 w w' K rb n a B) := by
  refine (scan_behind w1 W K tb rb n a B _ tt k (partsL (dat [s])) (under_head hs k).1 hk h.out.1 ha).mono ?_
  rintro e w' ⟨v, c, rfl, g⟩
  exact ⟨v, c, rfl, g.out.1, h.out.2.trans g.out.2⟩
theorem Empty_c (h : BSt w1 w K rb n a B) (ha : a ≤ 66) (hs : s.size ≤ 1000) :
    Calls Tryz.prog 26 #[.pointer (some ⟨rb, 0, none⟩), .string s] w fun e w' => e = .returned (.tuple #[.bool (decide (errB B s = 0)), .int .i64 (errB B s : Int)]) ∧ Hid (BSt w1 w' K rb n a B ∧ Kept K w w') := by
  rcases errB_cases B s with ⟨h1, h2⟩ | ⟨h1, h2, h3⟩ | ⟨h1, h2, b, h3⟩
  · have FE := find_err w1 w K rb n a B s h (by omega) hs (.inl h1)
    rw [h1] at FE ⊢
    clear h h1
    go_enter Tryz.func26, Tryz.ntmps26
    go_wp2_with fail
    refine FE.mono ?_
    rintro e w2 ⟨rfl, G2⟩
    clear FE
    go_wp2_with fail
    go_ret2
    exact ⟨rfl, Lib.hid (pair_below G2.out (below_alloc _ _))⟩
  · have FE := find_err w1 w K rb n a B s h (by omega) hs (.inr h1)
    rw [h1] at FE ⊢
    clear h h1
    go_enter Tryz.func26, Tryz.ntmps26
    go_wp2_with fail
    refine FE.mono ?_
    rintro e w2 ⟨rfl, G2⟩
    clear FE
    go_wp2_with fail
    go_ret2
    exact ⟨rfl, Lib.hid (pair_below G2.out (below_alloc _ _))⟩
  · have FE := find_ok w1 w K rb n a B s h (by omega) hs b h2 h3
    rw [h1]
    have HN := Lib.hid h2
    have HA := Lib.hid ha
    clear h h1 h2 h3 hs ha
    go_enter Tryz.func26, Tryz.ntmps26
    go_wp2_with fail
    refine FE.mono ?_
    rintro e w2 ⟨rfl, G2⟩
    clear FE
    have HW : Hid (∃ W, (w2.alloc (.cells #[.string b.nm, .int .i64 (b.st : Int), .int .u64 (b.born : Int), .bool b.on, .string b.pre, .int .u64 (b.af : Int)] 46)).alloc (.cells #[.int .u8 118, .int .u8 117] 5 (2, 3)) = W ∧ W.heap[w2.heap.size + 1]? = some (.cells #[.int .u8 118, .int .u8 117] 5 (2, 3)) ∧ BLoc w1 w K rb n a B (w2.heap.size + 1) W) := Lib.hid ⟨_, rfl, (by
      have := heap_alloc_new (w2.alloc (.cells #[.string b.nm, .int .i64 (b.st : Int), .int .u64 (b.born : Int), .bool b.on, .string b.pre, .int .u64 (b.af : Int)] 46)) (.cells #[.int .u8 118, .int .u8 117] 5 (2, 3))
      rwa [show (w2.alloc (.cells #[.string b.nm, .int .i64 (b.st : Int), .int .u64 (b.born : Int), .bool b.on, .string b.pre, .int .u64 (b.af : Int)] 46)).heap.size = w2.heap.size + 1 by simp] at this), (by
      have := BLoc.start (pair_below G2.out (below_alloc w2 (.cells #[.string b.nm, .int .i64 (b.st : Int), .int .u64 (b.born : Int), .bool b.on, .string b.pre, .int .u64 (b.af : Int)] 46))) (below_alloc _ (.cells #[.int .u8 118, .int .u8 117] 5 (2, 3))) (lt_alloc _ _)
      rwa [show (w2.alloc (.cells #[.string b.nm, .int .i64 (b.st : Int), .int .u64 (b.born : Int), .bool b.on, .string b.pre, .int .u64 (b.af : Int)] 46)).heap.size = w2.heap.size + 1 by simp] at this)⟩
    obtain ⟨W, hW, hB0, hL0⟩ := HW.out
    have HB := Lib.hid hB0
    have HL := Lib.hid hL0
    clear hB0 hL0
    have S0 : Hid (BGo w1 W W (fun k => K k ∨ k = w2.heap.size + 1) rb n a B) := Lib.hid ⟨HL.out.1, fun _ _ => rfl⟩
    have kc : (convert 72 72 (.slice (some ⟨w2.heap.size + 1, 0, none⟩) 2 2)).run Tryz.prog ((w2.alloc (.cells #[.string b.nm, .int .i64 (b.st : Int), .int .u64 (b.born : Int), .bool b.on, .string b.pre, .int .u64 (b.af : Int)] 46)).alloc (.cells #[.int .u8 118, .int .u8 117] 5)) = .ok (.slice (some ⟨w2.heap.size + 1, 0, none⟩) 2 2) W := by
      rw [← hW]
      exact Joins.run_convert_bytes_const_at (P := Tryz.prog) (w2.alloc (.cells #[.string b.nm, .int .i64 (b.st : Int), .int .u64 (b.born : Int), .bool b.on, .string b.pre, .int .u64 (b.af : Int)] 46)) 72 5 #[.int .u8 118, .int .u8 117] 2 2 (w2.heap.size + 1) (by simp) Tryz.underlying72 Tryz.underlying5
    clear hW HW
    go_wp2_with fail
    go_loopg [9, 10, 11, 12, 25] 2 (fun g s9 s10 s11 s12 s25 wr => ∃ i : Nat, g = 2 - i ∧ i ≤ 2 ∧ s25 = .int .i64 (i : Int) ∧ Hid (BGo w1 W wr (fun k => K k ∨ k = w2.heap.size + 1) rb n a B))
    case atStart => exact ⟨0, rfl, by omega, rfl, S0⟩
    case round =>
      obtain ⟨i, rfl, hi, rfl, HG⟩ := hrel
      have hi3 : i = 0 ∨ i = 1 ∨ i = 2 := by omega
      clear S0 hi
      rcases hi3 with rfl | rfl | rfl
      · have x0 : wr.cell? ⟨w2.heap.size + 1, 0, none⟩ = some (.int .u8 118) := cell_lit ((HG.out.2 _ (.inr rfl)).trans HB.out) rfl
        have U : Calls Tryz.prog 63 #[.int .u8 118, .slice (some ⟨wr.heap.size, 0, none⟩) 1 1] (wr.alloc (.cells #[.string s] 9)) _ := Under_c 118 (.slice (some ⟨wr.heap.size, 0, none⟩) 1 1) [s] _ (strs_one (heap_alloc_new wr _)) (by simp) (by have := bkt_short HN.out; intro p hp; simp at hp; subst hp; omega)
        have SC := Lib.hid (fun (W' : World) (tb : Nat) (tt : ByteArray) (g : Hid (BTm w1 W W' (fun k => K k ∨ k = w2.heap.size + 1) tb rb n a B)) => behind_e w1 W (fun k => K k ∨ k = w2.heap.size + 1) rb n a B s 118 (by decide) HN.out g HA.out tt)
        have HUS := Lib.hid (under_head HN.out 118).2
        generalize (⟨(underL 118 (dat [s])).toArray⟩ : ByteArray) = us at *
        clear kc
        go_wp2_with fail
        refine U.mono ?_
        rintro e w3 ⟨rfl, hb⟩
        have G3 : Hid (BGo w1 W w3 (fun k => K k ∨ k = w2.heap.size + 1) rb n a B) := Lib.hid (HG.out.below ((below_alloc wr _).trans (hb.mono (by simp))))
        have MT := meta_g G3
        clear U hb x0
        go_wp2_with fail
        refine MT.mono ?_
        rintro e w4 ⟨tb, rfl, G4⟩
        have BH := Behind_c us w4 (by have := HUS.out; omega)
        generalize (⟨(behindL us.data.toList).toArray⟩ : ByteArray) = tt at *
        clear MT
        go_wp2_with fail
        refine BH.mono ?_
        rintro e w5 ⟨rfl, hb5⟩
        have SC5 := SC.out w5 tb tt (G4.out.below hb5)
        clear BH hb5 SC
        go_wp2_with fail
        refine SC5.mono ?_
        rintro e w6 ⟨v, cc, rfl, G6⟩
        clear SC5
        go_wp2_with fail
        go_roundg (2 - (0 + 1))
        case measure => omega
        case rel => exact ⟨0 + 1, rfl, by omega, rfl, G6⟩
      · have x0 : wr.cell? ⟨w2.heap.size + 1, 1, none⟩ = some (.int .u8 117) := cell_lit ((HG.out.2 _ (.inr rfl)).trans HB.out) rfl
        have U : Calls Tryz.prog 63 #[.int .u8 117, .slice (some ⟨wr.heap.size, 0, none⟩) 1 1] (wr.alloc (.cells #[.string s] 9)) _ := Under_c 117 (.slice (some ⟨wr.heap.size, 0, none⟩) 1 1) [s] _ (strs_one (heap_alloc_new wr _)) (by simp) (by have := bkt_short HN.out; intro p hp; simp at hp; subst hp; omega)
        have SC := Lib.hid (fun (W' : World) (tb : Nat) (tt : ByteArray) (g : Hid (BTm w1 W W' (fun k => K k ∨ k = w2.heap.size + 1) tb rb n a B)) => behind_e w1 W (fun k => K k ∨ k = w2.heap.size + 1) rb n a B s 117 (by decide) HN.out g HA.out tt)
        have HUS := Lib.hid (under_head HN.out 117).2
        generalize (⟨(underL 117 (dat [s])).toArray⟩ : ByteArray) = us at *
        clear kc
        go_wp2_with fail
        refine U.mono ?_
        rintro e w3 ⟨rfl, hb⟩
        have G3 : Hid (BGo w1 W w3 (fun k => K k ∨ k = w2.heap.size + 1) rb n a B) := Lib.hid (HG.out.below ((below_alloc wr _).trans (hb.mono (by simp))))
        have MT := meta_g G3
        clear U hb x0
        go_wp2_with fail
        refine MT.mono ?_
        rintro e w4 ⟨tb, rfl, G4⟩
        have BH := Behind_c us w4 (by have := HUS.out; omega)
        generalize (⟨(behindL us.data.toList).toArray⟩ : ByteArray) = tt at *
        clear MT
        go_wp2_with fail
        refine BH.mono ?_
        rintro e w5 ⟨rfl, hb5⟩
        have SC5 := SC.out w5 tb tt (G4.out.below hb5)
        clear BH hb5 SC
        go_wp2_with fail
        refine SC5.mono ?_
        rintro e w6 ⟨v, cc, rfl, G6⟩
        clear SC5
        go_wp2_with fail
        go_roundg (2 - (1 + 1))
        case measure => omega
        case rel => exact ⟨1 + 1, rfl, by omega, rfl, G6⟩
      · go_wp2_with fail
        go_ret2
        exact ⟨rfl, Lib.hid (HL.out.out HG.out)⟩
/-- What Drop leaves. -/
def DropEnd (w' : World) : Prop := ∃ B', (BSt w1 w' K rb n (a + 1) B' ∧ Kept K w w') ∧ ((errB B s = 0 ∧ DelB s B B') ∨ (errB B s ≠ 0 ∧ B' = B))
theorem Drop_c (h : BSt w1 w K rb n a B) (ha : a ≤ 61) (hs : s.size ≤ 1000) :
    Calls Tryz.prog 22 #[.pointer (some ⟨rb, 0, none⟩), .string s] w fun e w' => e = .returned (.int .i64 (errB B s : Int)) ∧ Hid (DropEnd w1 w K rb n a B s w') := by
  have EM := Empty_c w1 w K rb n a B s h (by omega) hs
  rcases errB_cases B s with ⟨h1, h2⟩ | ⟨h1, h2, h3⟩ | ⟨h1, h2, b, h3⟩
  · have HE : Hid (∀ w', (BSt w1 w' K rb n a B ∧ Kept K w w') → DropEnd w1 w K rb n a B s w') := Lib.hid fun w' g => ⟨B, ⟨g.1.more (by omega), g.2⟩, .inr ⟨by rw [h1]; decide, rfl⟩⟩
    rw [h1] at EM ⊢
    rw [show decide ((28 : Nat) = 0) = false from rfl] at EM
    clear h h1
    go_enter Tryz.func22, Tryz.ntmps22
    go_wp2_with fail
    refine EM.mono ?_
    rintro e w2 ⟨rfl, G2⟩
    clear EM
    go_wp2_with fail
    go_ret
    exact ⟨rfl, Lib.hid (HE.out _ G2.out)⟩
  · have HE : Hid (∀ w', (BSt w1 w' K rb n a B ∧ Kept K w w') → DropEnd w1 w K rb n a B s w') := Lib.hid fun w' g => ⟨B, ⟨g.1.more (by omega), g.2⟩, .inr ⟨by rw [h1]; decide, rfl⟩⟩
    rw [h1] at EM ⊢
    rw [show decide ((20 : Nat) = 0) = false from rfl] at EM
    clear h h1
    go_enter Tryz.func22, Tryz.ntmps22
    go_wp2_with fail
    refine EM.mono ?_
    rintro e w2 ⟨rfl, G2⟩
    clear EM
    go_wp2_with fail
    go_ret
    exact ⟨rfl, Lib.hid (HE.out _ G2.out)⟩
  · have HE : Hid (∀ w' B', (BSt w1 w' K rb n (a + 1) B' ∧ Kept K w w') → DelB s B B' → DropEnd w1 w K rb n a B s w') := Lib.hid fun w' B' g d => ⟨B', g, .inl ⟨h1, d⟩⟩
    rw [h1] at EM ⊢
    rw [show decide ((0 : Nat) = 0) = true from rfl] at EM
    have HN := Lib.hid h2
    have HF := Lib.hid h3
    have HA := Lib.hid ha
    clear h h1 h2 h3 ha
    go_enter Tryz.func22, Tryz.ntmps22
    go_wp2_with fail
    refine EM.mono ?_
    rintro e w2 ⟨rfl, G2⟩
    have MT := meta_g (w0 := w) G2
    clear EM
    go_wp2_with fail
    refine MT.mono ?_
    rintro e w3 ⟨tb, rfl, G3⟩
    have KY := key_g s HN.out G3
    clear MT
    go_wp2_with fail
    refine KY.mono ?_
    rintro e w4 ⟨rfl, G4⟩
    have DE := del_b w1 w4 K tb rb n a B s G4.out.1 HA.out HN.out b HF.out
    clear KY G3
    go_wp2_with fail
    refine DE.mono ?_
    rintro e w5 ⟨rfl, G5⟩
    have HEND : Hid (DropEnd w1 w K rb n a B s w5) := Lib.hid (by
      obtain ⟨B', ⟨g1, g2⟩, g3⟩ := G5.out
      exact HE.out _ B' ⟨g1, G4.out.2.trans g2⟩ g3)
    clear DE
    go_wp2_with fail
    go_ret
    exact ⟨rfl, HEND⟩
end
end Go.Proofs.YtaibjcjphmhgmaaGreatDoor
namespace Go.Proofs.YtaibjcjphmhgmaaGreatDoor
set_option linter.unusedVariables false
set_option maxRecDepth 100000
set_option maxHeartbeats 2000000
open Go.RowKit
theorem pairC_get (L : List (ByteArray × ByteArray)) (i : Nat) (h : i < L.length) : (pairC L)[i * 2]? = some (.string L[i].1) ∧ (pairC L)[i * 2 + 1]? = some (.string L[i].2) := by
  induction L generalizing i with
  | nil => simp at h
  | cons e L ih =>
    have e1 : pairC (e :: L) = .string e.1 :: .string e.2 :: pairC L := by simp [pairC]
    rw [e1]
    cases i with
    | zero => exact ⟨rfl, rfl⟩
    | succ i =>
      have := ih i (by simpa using h)
      rw [show (i + 1) * 2 = i * 2 + 1 + 1 by omega]
      simpa using this
theorem cut_key {s : ByteArray} (h : bktB s.data.toList = true) : 1 ≤ (bkey s).size ∧ (bkey s).size ≤ 96 ∧ cutVal ((bkey s).extract 1 (bkey s).size).data.toList = .tuple #[.string s, .string ⟨#[]⟩, .bool true] := by
  have hd := bkey_data h
  refine ⟨?_, bkey_size h, ?_⟩
  · rw [Lib.size_eq, hd]; simp
  · rw [extract_drop, hd]
    show cutVal (s.data.toList ++ 0 :: []) = _
    rw [cutVal_some (cutL_part (bkt_noZero h) [])]
/-- Where Names is. -/
def NmRel (W0 : World) (B : List Bk) (i : Nat) (v : Value) (wr : World) : Prop := wr.ownsRow W0.heap.size 9 1 v i ((B.take i).map fun b => .string b.nm) ∧ Below W0.heap.size W0 wr
section
variable (w1 w : World) (K : Nat → Prop) (rb n a : Nat) (B : List Bk)
def NamesEnd (v : Value) (w' : World) : Prop := w'.ownsRow 0 9 1 v B.length (B.map fun b => .string b.nm) ∧ BSt w1 w' (fun k => K k ∨ v.ownBlock = some k) rb n a B ∧ Kept K w w'
theorem Names_c (h : BSt w1 w K rb n a B) (ha : a ≤ 66) :
    Calls Tryz.prog 27 #[.pointer (some ⟨rb, 0, none⟩)] w fun e w' => ∃ v, e = .returned (.tuple #[v, .int .i64 0]) ∧ Hid (NamesEnd w1 w K rb n a B v w') := by
  have G0 : Hid (BGo w1 w w K rb n a B) := Lib.hid ⟨h, fun _ _ => rfl⟩
  have HLEN : Hid (B.length ≤ 66) := Lib.hid (by have := h.len; omega)
  have HOK := Lib.hid h.ok
  have MT := meta_g G0
  have HA := Lib.hid ha
  clear h ha
  go_enter Tryz.func27, Tryz.ntmps27
  go_wp2_with fail
  refine MT.mono ?_
  rintro e w2 ⟨tb, rfl, G2⟩
  have BH := Behind_c ⟨#[98]⟩ w2 (by decide)
  rw [show (⟨(behindL (⟨#[98]⟩ : ByteArray).data.toList).toArray⟩ : ByteArray) = ⟨#[99]⟩ by decide +kernel] at BH
  clear MT G0
  go_wp2_with fail
  refine BH.mono ?_
  rintro e w3 ⟨rfl, hb⟩
  have G3 := Lib.hid (G2.out.below hb)
  have SC := scan_names w1 w3 K tb rb n a B G3.out.1 HA.out
  clear BH hb
  go_wp2_with fail
  refine SC.mono ?_
  rintro e w4 ⟨v, rfl, HS⟩
  clear SC
  obtain ⟨va, vc, hv⟩ : ∃ va vc, v = .slice va B.length vc := by
    rcases HS.out.1.2 with ⟨rfl, h0⟩ | ⟨g, cap, cur, rfl, -⟩
    · exact ⟨_, _, by rw [h0]⟩
    · exact ⟨_, _, rfl⟩
  subst hv
  have CE : Hid (∀ i (hi : i < B.length), ∃ g, va = some ⟨g, 0, none⟩ ∧ g < w4.heap.size ∧ w4.cell? ⟨g, i * 2, none⟩ = some (.string (bkey B[i].nm)) ∧ w4.cell? ⟨g, i * 2 + 1, none⟩ = some (.string B[i].text)) := Lib.hid fun i hi => by
    have hr := HS.out.1
    rcases hr.2 with ⟨e, h0⟩ | ⟨g, cap, cur, e, h1, h2, -⟩
    · omega
    · cases e
      have hl : i < (B.map encB).length := by simpa using hi
      obtain ⟨x, y⟩ := pairC_get (B.map encB) i hl
      refine ⟨g, rfl, lt_of_heap h2, ?_, ?_⟩
      · rw [hr.cellAt (i * 2) (by omega), x]; simp [encB]
      · rw [hr.cellAt (i * 2 + 1) (by omega), y]; simp [encB]
  have R0 : Hid (NmRel w4 B 0 (.slice none 0 0) w4) := Lib.hid ⟨World.ownsRow_nil _ _ _ _, Below.refl _ _⟩
  have HEND : Hid (∀ v w', NmRel w4 B B.length v w' → NamesEnd w1 w K rb n a B v w') := Lib.hid fun v w' hr => by
    obtain ⟨h1, h2⟩ := hr
    rw [List.take_length] at h1
    obtain ⟨g1, g2⟩ := HS.out.2
    have hk := g1.belowK h2
    have hkk : Kept K w w' := (G3.out.2.trans (g2.mono fun k hk => hk)).trans (hk.2.mono fun k hk => .inl hk)
    refine ⟨Joins.ownsRow_le h1 (Nat.zero_le _), hk.1.mono fun k hk => ?_, hkk⟩
    rcases hk with hk | hk
    · exact .inl (.inl hk)
    · exact .inr (h1.lt k hk)
  obtain ⟨jS, hjS, hS0, hS1, hS2⟩ := info_parts infoS
  have CU := fun (s : ByteArray) (W : World) (hs : s.size ≤ 96) => Cut_c s W (by omega)
  go_wp2_with fail
  go_loopg [6, 9, 10, 11, 24] B.length (fun g s6 s9 s10 s11 s24 wr => ∃ i : Nat, g = B.length - i ∧ i ≤ B.length ∧ s24 = .int .i64 (i : Int) ∧ Hid (NmRel w4 B i s6 wr))
  case atStart => exact ⟨0, rfl, Nat.zero_le _, rfl, R0⟩
  case round =>
    obtain ⟨i, rfl, hi, rfl, HR⟩ := hrel
    clear R0
    by_cases hlt : i < B.length
    · obtain ⟨g, rfl, hg, c0, c1⟩ := CE.out i hlt
      have hbl := HR.out.2
      have d0 : wr.cell? ⟨g, i * 2, none⟩ = some (.string (bkey B[i].nm)) := (hbl.cell (p := ⟨g, i * 2, none⟩) hg).trans c0
      have d1 : wr.cell? ⟨g, i * 2 + 1, none⟩ = some (.string B[i].text) := (hbl.cell (p := ⟨g, i * 2 + 1, none⟩) hg).trans c1
      have hok := HOK.out B[i] (List.getElem_mem hlt)
      obtain ⟨k1, k2, k3⟩ := cut_key hok.nm
      have hks : (1 ≤ (bkey B[i].nm).size) = True := eq_true k1
      obtain ⟨tk, htk⟩ : ∃ tk, (bkey B[i].nm).extract 1 (bkey B[i].nm).size = tk := ⟨_, rfl⟩
      obtain ⟨nm, hnm⟩ : ∃ nm, B[i].nm = nm := ⟨_, rfl⟩
      have CU2 : ∀ W, Calls Tryz.prog 65 #[.string tk] W fun e w' => e = .returned (.tuple #[.string nm, .string ⟨#[]⟩, .bool true]) ∧ Below W.heap.size W w' := fun W => by
        have := Cut_c tk W (by rw [← htk]; rw [ByteArray.size_extract]; omega)
        rw [← htk, k3] at this
        rw [← htk, ← hnm]; exact this
      have HSTEP : Hid (∀ v' W5, W5.ownsRow w4.heap.size 9 1 v' (i + 1) (((B.take i).map fun b => .string b.nm) ++ [.string nm]) → Below w4.heap.size w4 W5 → NmRel w4 B (i + 1) v' W5) := Lib.hid fun v' W5 ho hb => by
        refine ⟨?_, hb⟩
        rw [List.take_succ_eq_append_getElem hlt, List.map_append]
        simpa [hnm] using ho
      have HLT := Lib.hid hlt
      have hl64 : i ≤ 66 := by have := HLEN.out; omega
      clear c0 c1 hbl hok k3 hi CU
      generalize B[i].text = tx at *
      generalize bkey B[i].nm = bk at *
      have HL : Hid (i + 1 ≤ maxLen ∧ (i + 1) * 16 ≤ 140737488355328) := Lib.hid (by unfold maxLen; omega)
      clear hnm hlt
      go_wp2_with fail
      refine (CU2 _).mono ?_
      rintro e w6 ⟨rfl, hb6⟩
      have hb7 := (below_alloc wr _).trans (hb6.mono (by simp))
      have HB6 : Hid (Below w4.heap.size w4 w6) := Lib.hid (HR.out.2.trans (hb7.mono HR.out.2.size))
      have HO6 := Lib.hid ((ownsRow_upd HR.out.1 (hb7.upd' (Nat.le_refl _)) (fun _ _ e => e)).alloc (.cells #[.string nm] 9))
      have HS6 : Hid (w4.heap.size ≤ (w6.alloc (.cells #[.string nm] 9)).heap.size) := Lib.hid (by have := HB6.out.size; simp; omega)
      clear CU2 hb6 hb7 d0 d1
      go_wp2_with (
        (refine chkA 64 64 ⟨_, _, by with_reducible rfl⟩ ?_
         refine wpList_append_y (by rfl) _ _ _ rfl w4.heap.size 9 jS _ 1 16 Tryz.underlying64 hjS hS0 hS1 hS2 rfl (by decide) _ _ _ (by rfl) HO6.out _ 1 _ (by rfl) (yields_boxL _ #[.string nm] _ 1 1) rfl (one1 _ rfl) HL.out.1 HL.out.2 HS6.out ?_
         intro v5 W5 ho5 hg5 ha5
         have HN5 := Lib.hid (HSTEP.out v5 W5 ho5 ((HB6.out.alloc HB6.out.size _).grown hg5 HS6.out (fun k e => (HO6.out.lt k e).1)))
         clear ho5 hg5 ha5))
      go_roundg (B.length - (i + 1))
      case measure => have := HLT.out; omega
      case rel => exact ⟨i + 1, rfl, HLT.out, by congr 1, HN5⟩
    · obtain rfl : i = B.length := by omega
      have HE := Lib.hid (HEND.out _ _ HR.out)
      clear hlt hi
      go_wp2_with fail
      go_ret2
      exact ⟨_, rfl, HE⟩
end
end Go.Proofs.YtaibjcjphmhgmaaGreatDoor
namespace Go.Proofs.YtaibjcjphmhgmaaGreatDoor
set_option linter.unusedVariables false
set_option maxRecDepth 100000
set_option maxHeartbeats 4000000
open Go.RowKit
theorem putB_nil {b : Bk} {B' : List Bk} (h : PutB b [] B') : B' = [b] := by
  obtain ⟨A, C, rfl, h', -, -⟩ := h
  rcases h' with h' | ⟨b0, -, h'⟩
  · obtain ⟨rfl, rfl⟩ := List.append_eq_nil_iff.1 h'.symm; rfl
  · exact absurd h' (by simp)
theorem putB_one {b b0 : Bk} {B' : List Bk} (h : PutB b [b0] B') (hn : b0.nm = b.nm) : B' = [b] := by
  obtain ⟨A, C, rfl, h', hA, hC⟩ := h
  rcases h' with h' | ⟨b1, -, h'⟩
  · exfalso
    have hm : b0 ∈ A ++ C := by rw [← h']; simp
    rcases List.mem_append.1 hm with hm | hm
    · have := hA b0 hm; rw [hn, kless_irrefl] at this; cases this
    · have := hC b0 hm; rw [hn, kless_irrefl] at this; cases this
  · have hl := congrArg List.length h'
    simp at hl
    obtain ⟨rfl, rfl⟩ : A = [] ∧ C = [] := ⟨List.eq_nil_of_length_eq_zero (by omega), List.eq_nil_of_length_eq_zero (by omega)⟩
    rfl
theorem BSt.start {w1 w : World} {G : Nat → Prop} {rb n : Nat} (h : NewRoom w1 w G rb n) (h4 : 4 ≤ n) (hc : 18 * 66 ≤ pagesN n) : BSt w1 w (fun _ => False) rb n 0 [] :=
  ⟨_, none, RSt.start h h4, rfl, pigeon_spare n _ hc, Nat.le_refl 6, ⟨rfl, fun b hb => (by cases hb)⟩, Nat.le_refl _⟩
def abc : ByteArray := ⟨#[97, 98, 99]⟩
theorem abc_ok : bktB abc.data.toList = true := by decide +kernel
theorem bAt_self (b : Bk) : bAt [b] b.nm = some b := by unfold bAt; simp
theorem awake14_c (w : World) : Calls Tryz.prog 8 #[] w fun e w' => e = .returned (.bool true) ∧ Hid (Below w.heap.size w w') := by
  have WD := Wide_c 3000 w (by decide) (by decide)
  rw [show ((3000 : Nat) : Int) = 3000 from rfl] at WD
  go_enter Tryz.func8, Tryz.ntmps8
  go_wp2_with fail
  refine WD.mono ?_
  rintro e wb ⟨db, lb, FL, rfl, H1⟩
  clear WD
  go_wp2_with fail
  refine (Begin_c lb wb).mono ?_
  rintro e wc ⟨rfl, H2⟩
  have OF := Of_c _ lb 3000 FL _ [] wc (chg_new H1.out H2.out) (by decide)
  go_wp2_with fail
  refine OF.mono ?_
  rintro e wd ⟨rb, G, rfl, H3⟩
  have B0 := Lib.hid (BSt.start (NewRoom.of (w1 := w) (Below.refl _ _) H1.out H2.out H3.out) (by decide) (by decide))
  clear OF H1 H2 H3
  have M1 : Hid (Calls Tryz.prog 13 #[.pointer (some ⟨rb, 0, none⟩), .string ⟨#[97, 98, 99]⟩, .int .u64 7] wd fun e w' => e = .returned (.int .i64 0) ∧ Hid (BSt w w' (fun _ => False) rb 3000 1 [⟨abc, 0, 7, false, 0, ⟨#[]⟩⟩])) := Lib.hid (by
    have he : errB [] abc = 20 := by unfold errB; rw [if_pos abc_ok]; rfl
    have hm : mkR [] abc 7 = (0, some ⟨abc, 0, 7, false, 0, ⟨#[]⟩⟩) := by unfold mkR; rw [if_pos he]
    have := Make_c w wd (fun _ => False) rb 3000 0 [] abc 7 B0.out (by decide) (by decide) (by decide)
    rw [hm] at this
    refine this.mono ?_
    rintro e w' ⟨rfl, hE⟩
    obtain ⟨B', ⟨g1, g2⟩, g3⟩ := hE.out
    exact ⟨rfl, (putB_nil g3) ▸ g1⟩)
  clear B0
  go_wp2_with fail
  refine M1.out.mono ?_
  rintro e w2 ⟨rfl, HB2⟩
  clear M1
  have M2 : Hid (Calls Tryz.prog 18 #[.pointer (some ⟨rb, 0, none⟩), .string ⟨#[97, 98, 99]⟩, .int .i64 1] w2 fun e w' => e = .returned (.int .i64 0) ∧ Hid (BSt w w' (fun _ => False) rb 3000 2 [⟨abc, 1, 7, false, 0, ⟨#[]⟩⟩])) := Lib.hid (by
    have hf : bAt [⟨abc, 0, 7, false, 0, ⟨#[]⟩⟩] abc = some ⟨abc, 0, 7, false, 0, ⟨#[]⟩⟩ := bAt_self _
    have he : errB [⟨abc, 0, 7, false, 0, ⟨#[]⟩⟩] abc = 0 := by unfold errB; rw [if_pos abc_ok, hf]
    have hm : stR [⟨abc, 0, 7, false, 0, ⟨#[]⟩⟩] abc 1 = (0, some ⟨abc, 1, 7, false, 0, ⟨#[]⟩⟩) := by unfold stR; rw [he, if_neg (by decide), hf]; rfl
    have := SetState_c w w2 (fun _ => False) rb 3000 1 _ abc 1 HB2.out (by decide) (by decide)
    rw [hm] at this
    refine this.mono ?_
    rintro e w' ⟨rfl, hE⟩
    obtain ⟨B', ⟨g1, g2⟩, g3⟩ := hE.out
    exact ⟨rfl, (putB_one g3 rfl) ▸ g1⟩)
  clear HB2
  go_wp2_with fail
  refine M2.out.mono ?_
  rintro e w3 ⟨rfl, HB3⟩
  clear M2
  have FI := Lib.hid (find_ok w w3 (fun _ => False) rb 3000 2 _ abc HB3.out (by decide) (by decide) _ abc_ok (bAt_self _))
  clear HB3
  go_wp2_with fail
  refine FI.out.mono ?_
  rintro e w4 ⟨rfl, HB4⟩
  clear FI
  go_wp2_with fail
  generalize hW : w4.alloc (.cells #[.string abc, .int .i64 1, .int .u64 7, .bool false, .string ⟨#[]⟩, .int .u64 0] 46) = W
  have hblk : Hid (W.heap[w4.heap.size]? = some (.cells #[.string abc, .int .i64 1, .int .u64 7, .bool false, .string ⟨#[]⟩, .int .u64 0] 46 (0, 0))) := Lib.hid (by rw [← hW]; exact heap_alloc_new _ _)
  have L0 : Hid (BLoc w w3 (fun _ => False) rb 3000 2 [⟨abc, 1, 7, false, 0, ⟨#[]⟩⟩] w4.heap.size W) := Lib.hid (by rw [← hW]; exact BLoc.start HB4.out (below_alloc _ _) (lt_alloc _ _))
  have NM := Lib.hid (Names_c w W _ rb 3000 2 _ L0.out.1 (by decide))
  clear hW HB4
  refine NM.out.mono ?_
  rintro e w5 ⟨v, rfl, HN⟩
  obtain ⟨va, vc, rfl⟩ : ∃ va vc, v = .slice va 1 vc := by
    rcases HN.out.1.2 with ⟨rfl, h0⟩ | ⟨g, cap, cur, rfl, -⟩
    · cases h0
    · exact ⟨_, _, rfl⟩
  clear NM
  have M3 : Hid (Calls Tryz.prog 13 #[.pointer (some ⟨rb, 0, none⟩), .string ⟨#[97, 98, 99]⟩, .int .u64 8] w5 fun e w' => e = .returned (.int .i64 21) ∧ (w'.cell? ⟨w4.heap.size, 0, none⟩ = some (.string abc) ∧ w'.cell? ⟨w4.heap.size, 1, none⟩ = some (.int .i64 1) ∧ w'.cell? ⟨w4.heap.size, 2, none⟩ = some (.int .u64 7) ∧ w'.cell? ⟨w4.heap.size, 3, none⟩ = some (.bool false) ∧ w'.cell? ⟨w4.heap.size, 4, none⟩ = some (.string ⟨#[]⟩) ∧ w'.cell? ⟨w4.heap.size, 5, none⟩ = some (.int .u64 0)) ∧ Hid (Below w.heap.size w w')) := Lib.hid (by
    have hf : bAt [⟨abc, 1, 7, false, 0, ⟨#[]⟩⟩] abc = some ⟨abc, 1, 7, false, 0, ⟨#[]⟩⟩ := bAt_self _
    have he : errB [⟨abc, 1, 7, false, 0, ⟨#[]⟩⟩] abc = 0 := by unfold errB; rw [if_pos abc_ok, hf]
    have hm : mkR [⟨abc, 1, 7, false, 0, ⟨#[]⟩⟩] abc 8 = (21, none) := by unfold mkR; rw [he, if_neg (by decide), if_pos rfl]
    have := Make_c w w5 _ rb 3000 2 _ abc 8 HN.out.2.1 (by decide) (by decide) (by decide)
    rw [hm] at this
    refine this.mono ?_
    rintro e w' ⟨rfl, hE⟩
    obtain ⟨B', ⟨g1, g2⟩, g3⟩ := hE.out
    have hb := (g2 w4.heap.size (.inl (.inr rfl))).trans ((HN.out.2.2 w4.heap.size (.inr rfl)).trans hblk.out)
    exact ⟨rfl, cells6 hb, Lib.hid g1.bel⟩)
  clear HN hblk L0
  go_wp2_with fail
  refine M3.out.mono ?_
  rintro e w6 ⟨rfl, ⟨c0, c1, c2, c3, c4, c5⟩, HB⟩
  clear M3
  have hab : abc.toList = [97, 98, 99] := by decide +kernel
  go_wp2_with fail
  go_ret
  exact ⟨rfl, HB⟩
end Go.Proofs.YtaibjcjphmhgmaaGreatDoor
