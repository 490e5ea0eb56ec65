/- Parts of the proof of ChunksSums, joined: PackWk, PackVk, PackRk, PackQk, PackZk, PackPk, PackP2k, PackP3k, Read, ReadC, ReadFk, PackFallsk, TreeT, TreeU. No condition. -/
import Derived.Test.YtdcjhpafipbpkaaGreatDoorCk5
import Derived.Deep.AppendLies
import Derived.Test.YtdcjhpafipbpkaaGreatDoorRows
import Derived.ProofKit
import Derived.OpenShut
import Derived.ChangeOld
import Derived.Below
import Derived.Deep.Slices
set_option linter.unusedSimpArgs false
set_option linter.unusedVariables false
set_option linter.unusedSectionVars false
namespace Go.Proofs.YtdcjhpafipbpkaaGreatDoor
set_option linter.unusedVariables false
open Go.RowKit

/-- One field's bytes. -/
def wr1 (k : UInt8) (f : Fld) : Option (List UInt8) :=
  if kindB k = true ∧ k ≠ 116 then (if f.2.size ≠ 0 ∨ 256 ^ (widthB k.toNat).toNat ≤ f.1 then none else some (be f.1 (widthB k.toNat).toNat))
  else if f.1 ≠ 0 then none
  else if k = 116 then (if 65535 < f.2.size then none else some (be f.2.size 2 ++ f.2.data.toList))
  else some f.2.data.toList
/-- A record's bytes. -/
def wrL : List UInt8 → List Fld → Option (List UInt8)
  | k :: ks, f :: fs => match wr1 k f with
    | none => none
    | some a => (wrL ks fs).map (a ++ ·)
  | _, _ => some []
theorem wrL_step {ks : List UInt8} {fs : List Fld} {k : Nat} {acc : List UInt8} (h1 : k < ks.length) (h2 : k < fs.length) (h : wrL ks fs = (wrL (ks.drop k) (fs.drop k)).map (acc ++ ·)) :
    (wr1 ks[k] fs[k] = none → wrL ks fs = none) ∧ (∀ a, wr1 ks[k] fs[k] = some a → wrL ks fs = (wrL (ks.drop (k + 1)) (fs.drop (k + 1))).map ((acc ++ a) ++ ·)) := by
  have e : wrL (ks[k] :: ks.drop (k + 1)) (fs[k] :: fs.drop (k + 1)) = (match wr1 ks[k] fs[k] with | none => none | some a => (wrL (ks.drop (k + 1)) (fs.drop (k + 1))).map (a ++ ·)) := rfl
  rw [List.drop_eq_getElem_cons h1, List.drop_eq_getElem_cons h2, e] at h
  constructor
  · intro hn; rw [hn] at h; exact h
  · intro a ha
    rw [ha] at h
    rw [h]
    cases wrL (ks.drop (k + 1)) (fs.drop (k + 1)) <;> simp
theorem Bld.kept {B b : Nat} {l : List UInt8} {w w' : World} (h : Bld B b l w) (hk : ∀ j, j < w.heap.size → w'.heap[j]? = w.heap[j]?) : Bld B b l w' := by
  have one : ∀ p, Lib.BuilderAtF 156 5 B b p (Lib.byteCells l) w → Lib.BuilderAtF 156 5 B b p (Lib.byteCells l) w' := by
    rintro p ⟨hB, v, hb, ⟨h1, h2⟩, hne⟩
    refine ⟨hB, v, (hk b (lt_of_heap hb)).trans hb, ⟨h1, ?_⟩, hne⟩
    rcases h2 with h2 | ⟨g, cap, cur, fz, rfl, hg, hh, r⟩
    · exact .inl h2
    · exact .inr ⟨g, cap, cur, fz, rfl, hg, (hk g (lt_of_heap hh)).trans hh, r⟩
  exact h.elim (fun x => .inl (one _ x)) (fun x => .inr (one _ x))
theorem Bld.alloc {B b : Nat} {l : List UInt8} {w : World} (h : Bld B b l w) (o : Obj) : Bld B b l (w.alloc o) := h.kept (fun j hj => heap_alloc_lt o hj)
theorem wstr_c (B b : Nat) (l : List UInt8) (S : ByteArray) (w : World) (h : Bld B b l w) (hB : B ≤ w.heap.size) (hl : l.length + S.size ≤ 100000000000) :
    Calls Tryz.prog 82 #[.pointer (some ⟨b, 0, none⟩), .string S] w fun e w' => e = .returned (.tuple #[.int .i64 S.size, .nilIface]) ∧ (Bld B b (l ++ S.data.toList) w' ∧ Below B w w') := by
  refine (Tryz.Builder_WriteString_k B b (Lib.byteCells l) S w h (by rw [byteCells_length]; omega) hB).mono ?_
  rintro e w' ⟨rfl, h1, h2, h3⟩
  refine ⟨rfl, ?_, h2⟩
  have e : Lib.byteCells l ++ Lib.strCells S = Lib.byteCells (l ++ S.data.toList) := by rw [Lib.strCells_eq]; simp [Lib.byteCells]
  rw [e] at h1
  exact Bld.of h1
theorem kept_lit {e : TypeId} {b k : Nat} {w w' : World} (h : Lib.OthersKept e (some b) w w') {i : Nat} {v : Value} {c : Array Value} {ty : TypeId} {fz : Nat × Nat} (ho : w.heap[k]? = some (.cells c ty fz)) (hb : k ≠ b) (hty : ty ≠ e) (hv : c[i]? = some v) : w'.cell? ⟨k, i, none⟩ = some v :=
  cell_lit (h _ _ ho (by simpa using hb) (by rintro c fz h; cases h; exact hty rfl)) hv
theorem Bld.lt {B b : Nat} {l : List UInt8} {w : World} (h : Bld B b l w) : b < w.heap.size :=
  h.elim (fun x => lt_of_heap x.2.choose_spec.1) (fun x => lt_of_heap x.2.choose_spec.1)
def WrRel (w : World) (ks : List UInt8) (fs : List Fld) (g : Nat) (s22 : Value) (wr : World) : Prop :=
  ∃ k acc, g = fs.length - k ∧ k ≤ fs.length ∧ s22 = .int .i64 k ∧ Bld w.heap.size w.heap.size acc wr ∧ acc.length ≤ k * 1000010 ∧ Below w.heap.size w wr ∧ wrL ks fs = (wrL (ks.drop k) (fs.drop k)).map (acc ++ ·)
def WrOut (l : Option (List UInt8)) : Value := match l with
  | none => .tuple #[.string ⟨#[]⟩, .bool false]
  | some s => .tuple #[.string ⟨s.toArray⟩, .bool true]
theorem toList_nil (S : ByteArray) : S.toList = [] ↔ S.size = 0 := by
  rw [Lib.toList_data, Lib.size_eq]
  exact List.length_eq_zero_iff.symm
theorem wr1_num (c : UInt8) (wd : Nat) (n : Nat) (S : ByteArray) (h : (kindB c && c != 116) = true) (hw : (widthB c.toNat).toNat = wd) :
    wr1 c (n, S) = if S.size ≠ 0 ∨ 256 ^ wd ≤ n then none else some (be n wd) := by
  have h1 : kindB c = true ∧ c ≠ 116 := by simpa using h
  unfold wr1
  rw [if_pos h1, hw]
theorem width_other (c : UInt8) (h1 : c ≠ 110) (h2 : c ≠ 104) (h3 : c ≠ 98) : widthB c.toNat = 0 := by
  have f : ∀ n : Nat, n < 256 → c ≠ UInt8.ofNat n → ¬ ((c.toNat : Int) = n) := by
    intro n hn h e
    exact h (by rw [← Int.ofNat_inj.1 e, UInt8.ofNat_toNat])
  unfold widthB
  exact (if_neg (f 110 (by decide) h1)).trans ((if_neg (f 104 (by decide) h2)).trans (if_neg (f 98 (by decide) h3)))
theorem kind_other (c : UInt8) (h1 : c ≠ 110) (h2 : c ≠ 104) (h3 : c ≠ 98) : (kindB c && c != 116) = false := by
  unfold kindB
  by_cases h : c = 116 <;> simp [h1, h2, h3, h]
theorem wr1_txt (c : UInt8) (n : Nat) (S : ByteArray) (h : (kindB c && c != 116) = false) : wr1 c (n, S) = if n ≠ 0 then none else if c = 116 then (if 65535 < S.size then none else some (be S.size 2 ++ S.data.toList)) else some S.data.toList := by
  have h1 : ¬ (kindB c = true ∧ c ≠ 116) := by intro ⟨a, b⟩; simp [a, b] at h
  unfold wr1
  rw [if_neg h1]
theorem wr1_txt_no (c : UInt8) (n : Nat) (S : ByteArray) (h : (kindB c && c != 116) = false) (hn : ¬ n = 0) : wr1 c (n, S) = none := by
  rw [wr1_txt c n S h, if_pos hn]
theorem wr1_t_no (n : Nat) (S : ByteArray) (hn : n = 0) (hz : 65535 < S.size) : wr1 116 (n, S) = none := by
  rw [wr1_txt _ n S rfl, if_neg (by simp [hn]), if_pos rfl, if_pos hz]
theorem wr1_t (n : Nat) (S : ByteArray) (hn : n = 0) (hz : ¬ 65535 < S.size) : wr1 116 (n, S) = some (be S.size 2 ++ S.data.toList) := by
  rw [wr1_txt _ n S rfl, if_neg (by simp [hn]), if_pos rfl, if_neg hz]
theorem wr1_r (c : UInt8) (n : Nat) (S : ByteArray) (h : (kindB c && c != 116) = false) (h2 : ¬ c = 116) (hn : n = 0) : wr1 c (n, S) = some S.data.toList := by
  rw [wr1_txt _ n S h, if_neg (by simp [hn]), if_neg h2]
theorem wr_no {a b c : Nat} (h : a = 0) (h2 : c < b) : ¬ (a ≠ 0 ∨ b ≤ c) := by omega
theorem wrOut_none {l : Option (List UInt8)} (h : l = none) : WrOut l = .tuple #[.string ⟨#[]⟩, .bool false] := by rw [h]; rfl
theorem wr_next {w wr : World} {ks : List UInt8} {fs : List Fld} {k : Nat} {acc' : List UInt8} (hlt : k < fs.length) (h1 : Bld w.heap.size w.heap.size acc' wr) (h2 : acc'.length ≤ (k + 1) * 1000010) (h3 : Below w.heap.size w wr)
    (h4 : wrL ks fs = (wrL (ks.drop (k + 1)) (fs.drop (k + 1))).map (acc' ++ ·)) : WrRel w ks fs (fs.length - (k + 1)) (.int .i64 (k + 1)) wr :=
  ⟨k + 1, acc', rfl, by omega, by simp, h1, h2, h3, h4⟩
set_option maxRecDepth 100000 in
set_option maxHeartbeats 4000000 in
theorem Write_in (s : ByteArray) (v : Value) (fs : List Fld) (w : World) (hs : s.size ≤ 1000) (hv : FldsAt w v fs) (hr : rightL s.data.toList = true) (hl : s.size = fs.length) (hz : ∀ p ∈ fs, p.2.size ≤ 1000000) :
    Calls Tryz.prog 70 #[.string s, v] w fun e w' => e = .returned (WrOut (wrL s.data.toList fs)) ∧ Below w.heap.size w w' := by
  have HV := Lib.hid hv
  obtain ⟨a, cap, rfl⟩ := hv.form
  have rc := Right_c s w (by omega)
  rw [hr] at rc
  have HZ := Lib.hid hz
  have HL := Lib.hid hl
  have q1 : ((s.size : Int) == (fs.length : Int)) = true := by simp; omega
  have q2 : ((s.size : Int) != (fs.length : Int)) = false := by simp; omega
  clear hv hr hz hl
  go_enter Tryz.func70, Tryz.ntmps70
  go_wp2_with fail
  refine rc.mono ?_
  rintro e w0 ⟨rfl, hb0⟩
  have HV0 := Lib.hid ((HV.out).below hb0)
  have HB0 := Lib.hid hb0
  clear rc hb0
  have R0 := Lib.hid (show WrRel w0 s.data.toList fs fs.length (.int .i64 0) (w0.alloc (.cells #[.pointer none, .slice none 0 0] 156)) from
    ⟨0, [], by omega, Nat.zero_le _, rfl, bld_new w0, by simp, (Below.refl _ _).alloc (Nat.le_refl _) _, by simp⟩)
  go_wp2_with fail
  go_loopg [22] fs.length (fun g s22 wr => WrRel w0 s.data.toList fs g s22 wr)
  case atStart => exact R0.out
  case round =>
    obtain ⟨k, acc, rfl, hk, rfl, hbl, hacc, hb, hw⟩ := hrel
    clear R0
    by_cases hlt : k < fs.length
    · have hks : k < s.size := by rw [HL.out]; exact hlt
      have hks' : k < s.data.toList.length := by simpa using hks
      obtain ⟨fb, fo, rfl, c1, c2, hbl2⟩ := (HV0.out).get k hlt
      have c1 := (hb.cell (p := ⟨fb, fo + k * 2, none⟩) hbl2).trans c1
      have c2 := (hb.cell (p := ⟨fb, fo + k * 2 + 1, none⟩) hbl2).trans c2
      have hN := (HV0.out).2 fs[k] (List.getElem_mem hlt)
      have hS := (HZ.out) fs[k] (List.getElem_mem hlt)
      have HST := Lib.hid (wrL_step hks' hlt hw)
      have hge : s.data.toList[k] = s[k] := by simp; rfl
      rw [hge] at HST
      have HB := Lib.hid hb
      have HBL := Lib.hid hbl
      have HC := Lib.hid (u8_eq_toNat s[k])
      clear hw hb hbl hge
      generalize fs[k] = f at *
      obtain ⟨n, S⟩ := f
      simp only at c1 c2 hN hS
      by_cases k110 : s[k] = 110
      · have W : ∀ w, Calls Tryz.prog 121 #[.int .u8 110] w (fun e w' => e = .returned (.int .i64 8) ∧ w = w') := fun w => width_c 110 w
        rw [k110] at HST
        have HW := Lib.hid (wr1_num 110 8 n S rfl rfl)
        by_cases hS0 : S.toList = []
        · have hn : n < 18446744073709551616 := hN
          have HE := Lib.hid (HST.out.2 (be n 8) (by rw [HW.out, if_neg (wr_no ((toList_nil _).1 hS0) (by simpa using hn))]))
          go_wp2_with (go_at_call 121; refine (W _).mono ?_; rintro e w1 ⟨rfl, rfl⟩)
          refine (number_c w0.heap.size w0.heap.size n 8 acc _ (HBL.out.alloc _) (by have := HB.out.size; simp; omega) hN (by omega) (by omega)).mono ?_
          rintro e w2 ⟨rfl, g1, g2, g3⟩
          have R1 := Lib.hid (wr_next hlt g1 (by rw [List.length_append, be_length]; omega) (((HB.out).alloc (HB.out).size _).trans g2) HE.out)
          clear g1 g2 g3
          go_wp2_with fail
          go_roundg (fs.length - (k + 1))
          case measure => omega
          case rel => exact R1.out
        · have HE := Lib.hid (wrOut_none (HST.out.1 (by rw [HW.out, if_pos (Or.inl (fun h => hS0 ((toList_nil _).2 h)))])))
          go_wp2_with (go_at_call 121; refine (W _).mono ?_; rintro e w1 ⟨rfl, rfl⟩)
          go_ret2
          exact ⟨by rw [HE.out]; rfl, (HB0.out).trans (((HB.out).alloc (HB.out).size _).mono (HB0.out).size)⟩
      · by_cases k104 : s[k] = 104
        · have W : ∀ w, Calls Tryz.prog 121 #[.int .u8 104] w (fun e w' => e = .returned (.int .i64 4) ∧ w = w') := fun w => width_c 104 w
          rw [k104] at HST
          have HW := Lib.hid (wr1_num 104 4 n S rfl rfl)
          by_cases hS0 : S.toList = []
          · by_cases hn : n < 4294967296
            · have HE := Lib.hid (HST.out.2 (be n 4) (by rw [HW.out, if_neg (wr_no ((toList_nil _).1 hS0) (by simpa using hn))]))
              go_wp2_with (go_at_call 121; refine (W _).mono ?_; rintro e w1 ⟨rfl, rfl⟩)
              refine (number_c w0.heap.size w0.heap.size n 4 acc _ (HBL.out.alloc _) (by have := HB.out.size; simp; omega) hN (by omega) (by omega)).mono ?_
              rintro e w2 ⟨rfl, g1, g2, g3⟩
              have R1 := Lib.hid (wr_next hlt g1 (by rw [List.length_append, be_length]; omega) (((HB.out).alloc (HB.out).size _).trans g2) HE.out)
              clear g1 g2 g3
              go_wp2_with fail
              go_roundg (fs.length - (k + 1))
              case measure => omega
              case rel => exact R1.out
            · have HE := Lib.hid (wrOut_none (HST.out.1 (by rw [HW.out, if_pos (Or.inr (by simpa using hn))])))
              go_wp2_with (go_at_call 121; refine (W _).mono ?_; rintro e w1 ⟨rfl, rfl⟩)
              go_ret2
              exact ⟨by rw [HE.out]; rfl, (HB0.out).trans (((HB.out).alloc (HB.out).size _).mono (HB0.out).size)⟩
          · have HE := Lib.hid (wrOut_none (HST.out.1 (by rw [HW.out, if_pos (Or.inl (fun h => hS0 ((toList_nil _).2 h)))])))
            go_wp2_with (go_at_call 121; refine (W _).mono ?_; rintro e w1 ⟨rfl, rfl⟩)
            go_ret2
            exact ⟨by rw [HE.out]; rfl, (HB0.out).trans (((HB.out).alloc (HB.out).size _).mono (HB0.out).size)⟩
        · by_cases k98 : s[k] = 98
          · have W : ∀ w, Calls Tryz.prog 121 #[.int .u8 98] w (fun e w' => e = .returned (.int .i64 1) ∧ w = w') := fun w => width_c 98 w
            rw [k98] at HST
            have HW := Lib.hid (wr1_num 98 1 n S rfl rfl)
            by_cases hS0 : S.toList = []
            · by_cases hn : n < 256
              · have HE := Lib.hid (HST.out.2 (be n 1) (by rw [HW.out, if_neg (wr_no ((toList_nil _).1 hS0) (by simpa using hn))]))
                go_wp2_with (go_at_call 121; refine (W _).mono ?_; rintro e w1 ⟨rfl, rfl⟩)
                refine (number_c w0.heap.size w0.heap.size n 1 acc _ (HBL.out.alloc _) (by have := HB.out.size; simp; omega) hN (by omega) (by omega)).mono ?_
                rintro e w2 ⟨rfl, g1, g2, g3⟩
                have R1 := Lib.hid (wr_next hlt g1 (by rw [List.length_append, be_length]; omega) (((HB.out).alloc (HB.out).size _).trans g2) HE.out)
                clear g1 g2 g3
                go_wp2_with fail
                go_roundg (fs.length - (k + 1))
                case measure => omega
                case rel => exact R1.out
              · have HE := Lib.hid (wrOut_none (HST.out.1 (by rw [HW.out, if_pos (Or.inr (by simpa using hn))])))
                go_wp2_with (go_at_call 121; refine (W _).mono ?_; rintro e w1 ⟨rfl, rfl⟩)
                go_ret2
                exact ⟨by rw [HE.out]; rfl, (HB0.out).trans (((HB.out).alloc (HB.out).size _).mono (HB0.out).size)⟩
            · have HE := Lib.hid (wrOut_none (HST.out.1 (by rw [HW.out, if_pos (Or.inl (fun h => hS0 ((toList_nil _).2 h)))])))
              go_wp2_with (go_at_call 121; refine (W _).mono ?_; rintro e w1 ⟨rfl, rfl⟩)
              go_ret2
              exact ⟨by rw [HE.out]; rfl, (HB0.out).trans (((HB.out).alloc (HB.out).size _).mono (HB0.out).size)⟩
          · by_cases k116 : s[k] = 116
            · have W : ∀ w, Calls Tryz.prog 121 #[.int .u8 116] w (fun e w' => e = .returned (.int .i64 0) ∧ w = w') := fun w => width_c 116 w
              rw [k116] at HST
              by_cases hn : n = 0
              · by_cases hz : 65535 < S.size
                · have HE := Lib.hid (wrOut_none (HST.out.1 (wr1_t_no n S hn hz)))
                  go_wp2_with (go_at_call 121; refine (W _).mono ?_; rintro e w1 ⟨rfl, rfl⟩)
                  go_ret2
                  exact ⟨by rw [HE.out]; rfl, (HB0.out).trans (((HB.out).alloc (HB.out).size _).mono (HB0.out).size)⟩
                · have HE := Lib.hid (HST.out.2 _ (wr1_t n S hn hz))
                  go_wp2_with (go_at_call 121; refine (W _).mono ?_; rintro e w1 ⟨rfl, rfl⟩)
                  refine (number_c w0.heap.size w0.heap.size S.size 2 acc _ (HBL.out.alloc _) (by have := HB.out.size; simp; omega) (by omega) (by omega) (by omega)).mono ?_
                  rintro e w2 ⟨rfl, g1, g2, g3⟩
                  have HB2 := Lib.hid ((((HB.out).alloc (HB.out).size _).trans g2))
                  have q3 : w2.cell? ⟨wr.heap.size, 1, none⟩ = some (.string S) := kept_lit g3 (heap_alloc_new _ _) (by have := (HBL.out).lt; omega) (by decide) rfl
                  go_wp2_with fail
                  refine (wstr_c _ _ _ S w2 g1 (HB2.out.size) (by rw [List.length_append, be_length]; omega)).mono ?_
                  rintro e w3 ⟨rfl, g4, g5⟩
                  have R1 := Lib.hid (wr_next hlt (by rw [List.append_assoc] at g4; exact g4) (by simp only [List.length_append, be_length]; have := Lib.size_eq S; omega) ((HB2.out).trans g5) HE.out)
                  clear g1 g2 g3 g4 g5
                  go_wp2_with fail
                  go_roundg (fs.length - (k + 1))
                  case measure => omega
                  case rel => exact R1.out
              · have HE := Lib.hid (wrOut_none (HST.out.1 (wr1_txt_no 116 n S rfl hn)))
                go_wp2_with (go_at_call 121; refine (W _).mono ?_; rintro e w1 ⟨rfl, rfl⟩)
                go_ret2
                exact ⟨by rw [HE.out]; rfl, (HB0.out).trans (((HB.out).alloc (HB.out).size _).mono (HB0.out).size)⟩
            · have W : ∀ w, Calls Tryz.prog 121 #[.int .u8 s[k].toNat] w (fun e w' => e = .returned (.int .i64 0) ∧ w = w') := fun w => by
                have := width_c s[k].toNat w
                rwa [width_other _ k110 k104 k98] at this
              have KO := Lib.hid (kind_other _ k110 k104 k98)
              have KT := Lib.hid (HC.out 116 (by decide))
              have KT1 : ((s[k].toNat : Int) == 116) = false := KT.out.trans (by simpa using k116)
              have KT2 : ((s[k].toNat : Int) != 116) = true := by simp [bne, KT1]
              by_cases hn : n = 0
              · have HE := Lib.hid (HST.out.2 _ (wr1_r _ n S KO.out k116 hn))
                go_wp2_with (go_at_call 121; refine (W _).mono ?_; rintro e w1 ⟨rfl, rfl⟩)
                refine (wstr_c w0.heap.size w0.heap.size acc S _ (HBL.out.alloc _) (by have := HB.out.size; simp; omega) (by omega)).mono ?_
                rintro e w2 ⟨rfl, g1, g2⟩
                have R1 := Lib.hid (wr_next hlt g1 (by simp only [List.length_append]; have := Lib.size_eq S; omega) (((HB.out).alloc (HB.out).size _).trans g2) HE.out)
                clear g1 g2
                go_wp2_with fail
                go_roundg (fs.length - (k + 1))
                case measure => omega
                case rel => exact R1.out
              · have HE := Lib.hid (wrOut_none (HST.out.1 (wr1_txt_no _ n S KO.out hn)))
                go_wp2_with (go_at_call 121; refine (W _).mono ?_; rintro e w1 ⟨rfl, rfl⟩)
                go_ret2
                exact ⟨by rw [HE.out]; rfl, (HB0.out).trans (((HB.out).alloc (HB.out).size _).mono (HB0.out).size)⟩
    · obtain rfl : k = fs.length := by omega
      have HE := Lib.hid (show WrOut (wrL s.data.toList fs) = .tuple #[.string ⟨acc.toArray⟩, .bool true] by rw [hw, List.drop_length]; cases s.data.toList.drop fs.length <;> simp [wrL, WrOut])
      have HB := Lib.hid hb
      have hbs := hb.size
      go_wp2_with fail
      refine (Tryz.Builder_String_any_k w0.heap.size w0.heap.size _ wr hbl hbs).mono ?_
      rintro e w2 ⟨rfl, h4, h5, h6⟩
      have H5 := Lib.hid h5
      clear h4 h5 h6 hbl hb hw
      go_wp2_with fail
      go_ret2
      exact ⟨by rw [HE.out]; rfl, (HB0.out).trans (((HB.out).trans H5.out).mono (HB0.out).size)⟩
end Go.Proofs.YtdcjhpafipbpkaaGreatDoor
namespace Go.Proofs.YtdcjhpafipbpkaaGreatDoor
set_option linter.unusedVariables false
open Go.RowKit
/-- A record's bytes, or none. -/
def writeL (ks : List UInt8) (fs : List Fld) : Option (List UInt8) := if rightL ks = true ∧ ks.length = fs.length then wrL ks fs else none
theorem writeL_no {ks : List UInt8} {fs : List Fld} (h : rightL ks = false ∨ ks.length ≠ fs.length) : writeL ks fs = none := by
  unfold writeL
  rw [if_neg]
  rintro ⟨a, b⟩
  rcases h with h | h
  · rw [a] at h; exact absurd h (by decide)
  · exact h b
theorem writeL_yes {ks : List UInt8} {fs : List Fld} (h : rightL ks = true) (h2 : ks.length = fs.length) : writeL ks fs = wrL ks fs := by
  unfold writeL
  rw [if_pos ⟨h, h2⟩]
theorem Write_c (s : ByteArray) (v : Value) (fs : List Fld) (w : World) (hs : s.size ≤ 1000) (hv : FldsAt w v fs) (hz : ∀ p ∈ fs, p.2.size ≤ 1000000) :
    Calls Tryz.prog 70 #[.string s, v] w fun e w' => e = .returned (WrOut (writeL s.data.toList fs)) ∧ Below w.heap.size w w' := by
  have hlen : s.data.toList.length = s.size := (Lib.size_eq s).symm
  cases hr : rightL s.data.toList
  · have HE := Lib.hid (wrOut_none (writeL_no (fs := fs) (.inl hr)))
    have rc := Right_c s w (by omega)
    rw [hr] at rc
    clear hr hv hz
    go_enter Tryz.func70, Tryz.ntmps70
    go_wp2_with fail
    refine rc.mono ?_
    rintro e w0 ⟨rfl, hb0⟩
    have HB0 := Lib.hid hb0
    clear rc hb0
    go_wp2_with fail
    go_ret2
    exact ⟨by rw [HE.out]; rfl, HB0.out⟩
  · by_cases hl : s.size = fs.length
    · rw [writeL_yes hr (hlen.trans hl)]
      exact Write_in s v fs w hs hv hr hl hz
    · have HE := Lib.hid (wrOut_none (writeL_no (ks := s.data.toList) (fs := fs) (.inr (by omega))))
      have rc := Right_c s w (by omega)
      rw [hr] at rc
      obtain ⟨a, cap, rfl⟩ := hv.form
      have q1 : ((s.size : Int) == (fs.length : Int)) = false := by simp; omega
      have q2 : ((s.size : Int) != (fs.length : Int)) = true := by simp; omega
      clear hr hv hz hlen hl
      go_enter Tryz.func70, Tryz.ntmps70
      go_wp2_with fail
      refine rc.mono ?_
      rintro e w0 ⟨rfl, hb0⟩
      have HB0 := Lib.hid hb0
      clear rc hb0
      go_wp2_with fail
      go_ret2
      exact ⟨by rw [HE.out]; rfl, HB0.out⟩
/-! The reference's Write. -/
theorem kind_right {l : List UInt8} {k : Nat} (h : k < l.length) (hr : rightL l = true) : kindB l[k] = true ∨ l[k] = 114 := by
  induction l generalizing k with
  | nil => simp at h
  | cons c r ih =>
    by_cases hn : r = []
    · subst hn
      have : k = 0 := by simpa using h
      subst this
      simpa [rightL] using hr
    · rw [rightL_cons hn] at hr
      simp only [Bool.and_eq_true] at hr
      cases k with
      | zero => exact .inl hr.1
      | succ k => simpa using ih (k := k) (by simpa using h) hr.2
end Go.Proofs.YtdcjhpafipbpkaaGreatDoor
namespace Go.Proofs.YtdcjhpafipbpkaaGreatDoor
set_option linter.unusedVariables false
open Go.RowKit
theorem infoF : (Tryz.prog.info? 139).map (fun i => (i.zero, i.size, i.bytes)) = some (some (.agg #[.int .u64 0, .string ByteArray.empty]), 2, 24) := by kernel_rfl
theorem grown_drew {w w' : World} {r : Option Nat} (h : w.drew.grownBy w' r) : w.grownBy w' r := ⟨h.os, h.tape, h.output, h.size, h.block⟩
theorem ownsRow_heap {w w' : World} {base : Nat} {e : TypeId} {size : Nat} {v : Value} {n : Nat} {xs : List Value} (h : w.ownsRow base e size v n xs) (hk : ∀ j, j < w.heap.size → v.ownBlock = some j → w'.heap[j]? = w.heap[j]?) : w'.ownsRow base e size v n xs := by
  refine ⟨h.1, ?_⟩
  rcases h.2 with h2 | ⟨g, cap, cur, rfl, hg, hh, r⟩
  · exact Or.inl h2
  · exact Or.inr ⟨g, cap, cur, rfl, hg, (hk g (lt_of_heap hh) rfl).trans hh, r⟩
/-- The first field of bytes, and the rest. -/
def rd1 (k : UInt8) (r : ByteArray) : Option (Fld × ByteArray) :=
  if k = 116 then (if r.size < 2 then none else if (r.extract 2 r.size).size < toldN 0 (r.extract 0 2).data.toList then none else
    some ((0, (r.extract 2 r.size).extract 0 (toldN 0 (r.extract 0 2).data.toList)), (r.extract 2 r.size).extract (toldN 0 (r.extract 0 2).data.toList) (r.extract 2 r.size).size))
  else if kindB k = true then (if r.size < (widthB k.toNat).toNat then none else some ((toldN 0 (r.extract 0 (widthB k.toNat).toNat).data.toList, ⟨#[]⟩), r.extract (widthB k.toNat).toNat r.size))
  else some ((0, r), ⟨#[]⟩)
def readL : List UInt8 → ByteArray → Option (List Fld)
  | [], r => if r.toList = [] then some [] else none
  | k :: ks, r => match rd1 k r with
    | none => none
    | some p => (readL ks p.2).map (p.1 :: ·)
theorem readL_step {ks : List UInt8} {S r : ByteArray} {k : Nat} {acc : List Fld} (h1 : k < ks.length) (h : readL ks S = (readL (ks.drop k) r).map (acc ++ ·)) :
    (rd1 ks[k] r = none → readL ks S = none) ∧ (∀ f r', rd1 ks[k] r = some (f, r') → readL ks S = (readL (ks.drop (k + 1)) r').map ((acc ++ [f]) ++ ·)) := by
  have e : readL (ks[k] :: ks.drop (k + 1)) r = (match rd1 ks[k] r with | none => none | some p => (readL (ks.drop (k + 1)) p.2).map (p.1 :: ·)) := rfl
  rw [List.drop_eq_getElem_cons h1, e] at h
  constructor
  · intro hn; rw [hn] at h; exact h
  · intro f r' ha
    rw [ha] at h
    dsimp only at h
    rw [h]
    cases readL (ks.drop (k + 1)) r' <;> simp
def RdPost (w : World) (o : Option (List Fld)) (e : Ending) (w' : World) : Prop := match o with
  | none => e = .returned (.tuple #[.slice none 0 0, .bool false]) ∧ Below w.heap.size w w'
  | some fs => ∃ v, e = .returned (.tuple #[v, .bool true]) ∧ w'.ownsRow w.heap.size 139 2 v fs.length (fcells fs) ∧ Below w.heap.size w w'
theorem rdPost_none {w : World} {o : Option (List Fld)} {e : Ending} {w' : World} (h : o = none) (h1 : e = .returned (.tuple #[.slice none 0 0, .bool false])) (h2 : Below w.heap.size w w') : RdPost w o e w' := by
  subst h; exact ⟨h1, h2⟩
def RdRel (w : World) (ks : List UInt8) (S : ByteArray) (g : Nat) (s1 s6 s16 : Value) (wr : World) : Prop :=
  ∃ k acc r, g = ks.length - k ∧ k ≤ ks.length ∧ s16 = .int .i64 k ∧ s1 = .string r ∧ wr.ownsRow w.heap.size 139 2 s6 k (fcells acc) ∧ Below w.heap.size w wr ∧ r.size ≤ S.size ∧ acc.length = k ∧ readL ks S = (readL (ks.drop k) r).map (acc ++ ·)
theorem rd1_num (c : UInt8) (wd : Nat) (r : ByteArray) (h : (kindB c && c != 116) = true) (hw : (widthB c.toNat).toNat = wd) :
    rd1 c r = if r.size < wd then none else some ((toldN 0 (r.extract 0 wd).data.toList, ⟨#[]⟩), r.extract wd r.size) := by
  have h1 : kindB c = true ∧ c ≠ 116 := by simpa using h
  unfold rd1
  rw [if_neg h1.2, if_pos h1.1, hw]
theorem ex_le (r : ByteArray) (a b : Nat) {n : Nat} (h : r.size ≤ n) : (r.extract a b).size ≤ n := by
  simp; omega
theorem own_le {w : World} {base base' size n : Nat} {e : TypeId} {v : Value} {xs : List Value} (h : w.ownsRow base e size v n xs) (hb : base' ≤ base) : w.ownsRow base' e size v n xs :=
  ⟨h.1, h.2.imp id (fun ⟨g, cap, cur, a, b, c⟩ => ⟨g, cap, cur, a, Nat.le_trans hb b, c⟩)⟩
theorem rdPost_some {w w0 wr : World} {o : Option (List Fld)} {acc : List Fld} {r : ByteArray} {v : Value} {k : Nat} (h : o = (readL [] r).map (acc ++ ·)) (hr : r.toList = []) (ha : acc.length = k) (ho : wr.ownsRow w0.heap.size 139 2 v k (fcells acc)) (hb : Below w0.heap.size w0 wr) (h0 : Below w.heap.size w w0) :
    RdPost w o (.returned (.tuple #[v, .bool true])) wr := by
  have e : o = some acc := by rw [h]; simp [readL, hr]
  subst e ha
  exact ⟨v, rfl, own_le ho h0.size, h0.trans (hb.mono h0.size)⟩
theorem rd1_t_no (r : ByteArray) (h : r.size < 2) : rd1 116 r = none := by
  unfold rd1
  rw [if_pos rfl, if_pos h]
theorem rd1_t (r : ByteArray) (h : ¬ r.size < 2) : rd1 116 r = if (r.extract 2 r.size).size < toldN 0 (r.extract 0 2).data.toList then none else
    some ((0, (r.extract 2 r.size).extract 0 (toldN 0 (r.extract 0 2).data.toList)), (r.extract 2 r.size).extract (toldN 0 (r.extract 0 2).data.toList) (r.extract 2 r.size).size) := by
  unfold rd1
  rw [if_pos rfl, if_neg h]
theorem toldN_two (l : List UInt8) (h : l.length ≤ 2) : toldN 0 l < 65536 := by
  match l, h with
  | [], _ => decide
  | [a], _ => have := a.toNat_lt; simp [toldN]; omega
  | [a, b], _ => have := a.toNat_lt; have := b.toNat_lt; simp [toldN]; omega
theorem rd_alloc {w0 wr : World} {v : Value} {k : Nat} {xs : List Value} (o : Obj) (ho : wr.ownsRow w0.heap.size 139 2 v k xs) (hb : Below w0.heap.size w0 wr) :
    (wr.alloc o).ownsRow w0.heap.size 139 2 v k xs ∧ Below w0.heap.size w0 (wr.alloc o) := ⟨ho.alloc _, hb.alloc hb.size _⟩
theorem rd_below {w0 wr w2 : World} {v : Value} {k : Nat} {xs : List Value} (ho : wr.ownsRow w0.heap.size 139 2 v k xs) (hb : Below w0.heap.size w0 wr) (g : Below wr.heap.size wr w2) :
    w2.ownsRow w0.heap.size 139 2 v k xs ∧ Below w0.heap.size w0 w2 := ⟨ownsRow_heap ho (fun j hj _ => g.block j hj), hb.trans (g.mono hb.size)⟩
theorem rd_set {w0 w2 : World} {v : Value} {k p : Nat} {xs : List Value} {a : Value} {i : Nat} (ho : w2.ownsRow w0.heap.size 139 2 v k xs) (hb : Below w0.heap.size w0 w2) (hp : w0.heap.size ≤ p) (hn : v.ownBlock ≠ some p) :
    (w2.setCell ⟨p, i, none⟩ a).ownsRow w0.heap.size 139 2 v k xs ∧ Below w0.heap.size w0 (w2.setCell ⟨p, i, none⟩ a) :=
  ⟨ownsRow_setCell_other ho hn _, hb.setCell hp _⟩
theorem rd_next {w0 W w4 : World} {ks : List UInt8} {S r' : ByteArray} {v v' : Value} {k n : Nat} {T : ByteArray} {acc : List Fld} {o : Obj} (hlt : k < ks.length) (ho : W.ownsRow w0.heap.size 139 2 v k (fcells acc)) (hb : Below w0.heap.size w0 W) (hg : (W.alloc o).drew.grownBy w4 v.ownBlock)
    (h4 : w4.ownsRow w0.heap.size 139 2 v' (k + 1) (fcells acc ++ [.int .u64 n, .string T])) (hr : r'.size ≤ S.size) (ha : acc.length = k)
    (hw : readL ks S = (readL (ks.drop (k + 1)) r').map ((acc ++ [(n, T)]) ++ ·)) : RdRel w0 ks S (ks.length - (k + 1)) (.string r') v' (.int .i64 (k + 1)) w4 := by
  refine ⟨k + 1, acc ++ [(n, T)], r', rfl, by omega, by simp, rfl, ?_, ?_, hr, by simp [ha], hw⟩
  · have e : fcells (acc ++ [(n, T)]) = fcells acc ++ [.int .u64 n, .string T] := by simp [fcells]
    rw [e]; exact h4
  · exact hb.grown ((World.grownBy_alloc W _ _).trans (grown_drew hg)) hb.size (fun j hj => (ho.lt j hj).1)
set_option maxRecDepth 100000 in
set_option maxHeartbeats 4000000 in
theorem Read_in (s S : ByteArray) (w : World) (hs : s.size ≤ 1000) (hr : rightL s.data.toList = true) (hS : S.size ≤ 1000000) :
    Calls Tryz.prog 88 #[.string s, .string S] w (RdPost w (readL s.data.toList S)) := by
  have rc := Right_c s w (by omega)
  rw [hr] at rc
  have HR := Lib.hid hr
  obtain ⟨j0, hj, hz0, hz1, hz2⟩ := info_parts infoF
  clear hr
  go_enter Tryz.func88, Tryz.ntmps88
  go_wp2_with fail
  refine rc.mono ?_
  rintro e w0 ⟨rfl, hb0⟩
  have HB0 := Lib.hid hb0
  clear rc hb0
  have R0 := Lib.hid (show RdRel w0 s.data.toList S s.size (.string S) (.slice none 0 0) (.int .i64 0) w0 from
    ⟨0, [], S, (Lib.size_eq s), Nat.zero_le _, rfl, rfl, World.ownsRow_nil _ _ _ _, Below.refl _ _, Nat.le_refl _, rfl, by simp⟩)
  go_wp2_with fail
  go_loopg [1, 6, 16] s.size (fun g s1 s6 s16 wr => RdRel w0 s.data.toList S g s1 s6 s16 wr)
  case atStart => exact R0.out
  case round =>
    obtain ⟨k, acc, r, rfl, hk, rfl, rfl, ho, hb, hrs, hacc, hw⟩ := hrel
    clear R0
    have hsl : s.data.toList.length = s.size := (Lib.size_eq s).symm
    by_cases hks : k < s.size
    · have hks' : k < s.data.toList.length := by omega
      have HST := Lib.hid (readL_step hks' hw)
      have hge : s.data.toList[k] = s[k] := by simp; rfl
      rw [hge] at HST
      have HB := Lib.hid hb
      have HO := Lib.hid ho
      clear hw hb hge ho
      by_cases k110 : s[k] = 110
      · have W : ∀ w, Calls Tryz.prog 121 #[.int .u8 110] w (fun e w' => e = .returned (.int .i64 8) ∧ w = w') := fun w => width_c 110 w
        rw [k110] at HST
        have HW := Lib.hid (rd1_num 110 8 r rfl rfl)
        by_cases hn : r.size < 8
        · have HE := Lib.hid (HST.out.1 (by rw [HW.out, if_pos hn]))
          go_wp2_with (first | (go_at_call 121; refine (W _).mono ?_; rintro e w1 ⟨rfl, rfl⟩))
          go_ret2
          exact rdPost_none HE.out rfl ((HB0.out).trans ((HB.out).mono (HB0.out).size))
        · have HE := Lib.hid (HST.out.2 _ _ (by rw [HW.out, if_neg hn]))
          have hn' : (8 : Int) ≤ (r.size : Int) := by omega
          obtain ⟨N, hN⟩ : ∃ N, N = toldN 0 (r.extract 0 8).data.toList := ⟨_, rfl⟩
          rw [← hN] at HE
          have TC : ∀ w, Calls Tryz.prog 143 #[.string (r.extract 0 8)] w fun e w' => e = .returned (.int .u64 N) ∧ Below w.heap.size w w' := fun w => by rw [hN]; exact told_c _ w (by simp; omega)
          clear hN
          go_wp2_with (first | (go_at_call 121; refine (W _).mono ?_; rintro e w1 ⟨rfl, rfl⟩))
          refine (TC _).mono ?_
          rintro e w2 ⟨rfl, g2⟩
          have h2 : w2.heap[wr.heap.size]? = some (.cells #[.int .u64 0, .string (r.extract 0 8)] 139 (0, 0)) := (g2.block _ (by simp)).trans (heap_alloc_new _ _)
          have q1 := cell_lit (i := 0) h2 rfl
          have q2 := cell_lit (i := 1) h2 rfl
          have q3 := frozen_lit h2 0
          have q4 := frozen_lit h2 1
          have hne : u6.ownBlock ≠ some wr.heap.size := fun e => absurd ((HO.out).lt _ e).2 (Nat.lt_irrefl _)
          have X1 := rd_alloc (.cells #[.int .u64 0, .string (r.extract 0 8)] 139) HO.out HB.out
          have X2 := rd_below X1.1 X1.2 g2
          have X3 := rd_set (i := 0) (a := .int .u64 N) X2.1 X2.2 (HB.out).size hne
          have X4 := rd_set (i := 1) (a := .string ⟨#[]⟩) X3.1 X3.2 (HB.out).size hne
          have h3 : ((w2.setCell ⟨wr.heap.size, 0, none⟩ (.int .u64 N)).setCell ⟨wr.heap.size, 1, none⟩ (.string ⟨#[]⟩)).heap[wr.heap.size]? = some (.cells #[.int .u64 N, .string ⟨#[]⟩] 139 (0, 0)) := heap_set_lit (heap_set_lit h2 _) _
          have X5 := Lib.hid X4
          have H3 := Lib.hid h3
          clear X1 X2 X3 X4 h3 g2 h2 hne
          go_wp2_with fail
          generalize ((w2.setCell ⟨wr.heap.size, 0, none⟩ (.int .u64 N)).setCell ⟨wr.heap.size, 1, none⟩ (.string ⟨#[]⟩)) = V at *
          have q5 := cell_lit (i := 0) H3.out rfl
          have q6 := cell_lit (i := 1) H3.out rfl
          clear q1 q2 q3 q4
          go_region_law (
            refine step_append_lies _ (by rfl) _ _ _ (by rfl) w0.heap.size 139 j0 _ 2 24 Tryz.underlying171 hj hz0 hz1 hz2 rfl (by omega) u6 _ _ (by rfl) (((X5.out).1.alloc _).drew)
              ⟨V.heap.size, 0, none⟩ 1 1 [.int .u64 N, .string ⟨#[]⟩] (by rfl) (by rfl) (World.news_of_block (cs := #[.int .u64 N, .string ⟨#[]⟩]) (t := 139) (fr := (0, 0)) (heap_alloc_new V _)) (one2 _ _ rfl rfl)
              (by decide) (by unfold maxLen; omega) (by omega) (by have := (X5.out).2.size; simp; omega) (V.heap.size + 1) (World.size_alloc _ _) ?_; intro gg cap w4 hown4 hgrow hat hlt
            have R1 := Lib.hid (rd_next (r' := r.extract 8 r.size) hks' (X5.out).1 (X5.out).2 hgrow hown4 (by simp; omega) hacc HE.out)
            clear hown4 hgrow hat hlt)
          go_wp2_with fail
          go_roundg (s.data.toList.length - (k + 1))
          case measure => omega
          case rel => exact R1.out
      · by_cases k104 : s[k] = 104
        · have W : ∀ w, Calls Tryz.prog 121 #[.int .u8 104] w (fun e w' => e = .returned (.int .i64 4) ∧ w = w') := fun w => width_c 104 w
          rw [k104] at HST
          have HW := Lib.hid (rd1_num 104 4 r rfl rfl)
          by_cases hn : r.size < 4
          · have HE := Lib.hid (HST.out.1 (by rw [HW.out, if_pos hn]))
            go_wp2_with (first | (go_at_call 121; refine (W _).mono ?_; rintro e w1 ⟨rfl, rfl⟩))
            go_ret2
            exact rdPost_none HE.out rfl ((HB0.out).trans ((HB.out).mono (HB0.out).size))
          · have HE := Lib.hid (HST.out.2 _ _ (by rw [HW.out, if_neg hn]))
            have hn' : (4 : Int) ≤ (r.size : Int) := by omega
            obtain ⟨N, hN⟩ : ∃ N, N = toldN 0 (r.extract 0 4).data.toList := ⟨_, rfl⟩
            rw [← hN] at HE
            have TC : ∀ w, Calls Tryz.prog 143 #[.string (r.extract 0 4)] w fun e w' => e = .returned (.int .u64 N) ∧ Below w.heap.size w w' := fun w => by rw [hN]; exact told_c _ w (by simp; omega)
            clear hN
            go_wp2_with (first | (go_at_call 121; refine (W _).mono ?_; rintro e w1 ⟨rfl, rfl⟩))
            refine (TC _).mono ?_
            rintro e w2 ⟨rfl, g2⟩
            have h2 : w2.heap[wr.heap.size]? = some (.cells #[.int .u64 0, .string (r.extract 0 4)] 139 (0, 0)) := (g2.block _ (by simp)).trans (heap_alloc_new _ _)
            have q1 := cell_lit (i := 0) h2 rfl
            have q2 := cell_lit (i := 1) h2 rfl
            have q3 := frozen_lit h2 0
            have q4 := frozen_lit h2 1
            have hne : u6.ownBlock ≠ some wr.heap.size := fun e => absurd ((HO.out).lt _ e).2 (Nat.lt_irrefl _)
            have X1 := rd_alloc (.cells #[.int .u64 0, .string (r.extract 0 4)] 139) HO.out HB.out
            have X2 := rd_below X1.1 X1.2 g2
            have X3 := rd_set (i := 0) (a := .int .u64 N) X2.1 X2.2 (HB.out).size hne
            have X4 := rd_set (i := 1) (a := .string ⟨#[]⟩) X3.1 X3.2 (HB.out).size hne
            have h3 : ((w2.setCell ⟨wr.heap.size, 0, none⟩ (.int .u64 N)).setCell ⟨wr.heap.size, 1, none⟩ (.string ⟨#[]⟩)).heap[wr.heap.size]? = some (.cells #[.int .u64 N, .string ⟨#[]⟩] 139 (0, 0)) := heap_set_lit (heap_set_lit h2 _) _
            have X5 := Lib.hid X4
            have H3 := Lib.hid h3
            clear X1 X2 X3 X4 h3 g2 h2 hne
            go_wp2_with fail
            generalize ((w2.setCell ⟨wr.heap.size, 0, none⟩ (.int .u64 N)).setCell ⟨wr.heap.size, 1, none⟩ (.string ⟨#[]⟩)) = V at *
            have q5 := cell_lit (i := 0) H3.out rfl
            have q6 := cell_lit (i := 1) H3.out rfl
            clear q1 q2 q3 q4
            go_region_law (
              refine step_append_lies _ (by rfl) _ _ _ (by rfl) w0.heap.size 139 j0 _ 2 24 Tryz.underlying171 hj hz0 hz1 hz2 rfl (by omega) u6 _ _ (by rfl) (((X5.out).1.alloc _).drew)
                ⟨V.heap.size, 0, none⟩ 1 1 [.int .u64 N, .string ⟨#[]⟩] (by rfl) (by rfl) (World.news_of_block (cs := #[.int .u64 N, .string ⟨#[]⟩]) (t := 139) (fr := (0, 0)) (heap_alloc_new V _)) (one2 _ _ rfl rfl)
                (by decide) (by unfold maxLen; omega) (by omega) (by have := (X5.out).2.size; simp; omega) (V.heap.size + 1) (World.size_alloc _ _) ?_; intro gg cap w4 hown4 hgrow hat hlt
              have R1 := Lib.hid (rd_next (r' := r.extract 4 r.size) hks' (X5.out).1 (X5.out).2 hgrow hown4 (by simp; omega) hacc HE.out)
              clear hown4 hgrow hat hlt)
            go_wp2_with fail
            go_roundg (s.data.toList.length - (k + 1))
            case measure => omega
            case rel => exact R1.out
        · by_cases k98 : s[k] = 98
          · have W : ∀ w, Calls Tryz.prog 121 #[.int .u8 98] w (fun e w' => e = .returned (.int .i64 1) ∧ w = w') := fun w => width_c 98 w
            rw [k98] at HST
            have HW := Lib.hid (rd1_num 98 1 r rfl rfl)
            by_cases hn : r.size < 1
            · have HE := Lib.hid (HST.out.1 (by rw [HW.out, if_pos hn]))
              go_wp2_with (first | (go_at_call 121; refine (W _).mono ?_; rintro e w1 ⟨rfl, rfl⟩))
              go_ret2
              exact rdPost_none HE.out rfl ((HB0.out).trans ((HB.out).mono (HB0.out).size))
            · have HE := Lib.hid (HST.out.2 _ _ (by rw [HW.out, if_neg hn]))
              have hn' : (1 : Int) ≤ (r.size : Int) := by omega
              obtain ⟨N, hN⟩ : ∃ N, N = toldN 0 (r.extract 0 1).data.toList := ⟨_, rfl⟩
              rw [← hN] at HE
              have TC : ∀ w, Calls Tryz.prog 143 #[.string (r.extract 0 1)] w fun e w' => e = .returned (.int .u64 N) ∧ Below w.heap.size w w' := fun w => by rw [hN]; exact told_c _ w (by simp; omega)
              clear hN
              go_wp2_with (first | (go_at_call 121; refine (W _).mono ?_; rintro e w1 ⟨rfl, rfl⟩))
              refine (TC _).mono ?_
              rintro e w2 ⟨rfl, g2⟩
              have h2 : w2.heap[wr.heap.size]? = some (.cells #[.int .u64 0, .string (r.extract 0 1)] 139 (0, 0)) := (g2.block _ (by simp)).trans (heap_alloc_new _ _)
              have q1 := cell_lit (i := 0) h2 rfl
              have q2 := cell_lit (i := 1) h2 rfl
              have q3 := frozen_lit h2 0
              have q4 := frozen_lit h2 1
              have hne : u6.ownBlock ≠ some wr.heap.size := fun e => absurd ((HO.out).lt _ e).2 (Nat.lt_irrefl _)
              have X1 := rd_alloc (.cells #[.int .u64 0, .string (r.extract 0 1)] 139) HO.out HB.out
              have X2 := rd_below X1.1 X1.2 g2
              have X3 := rd_set (i := 0) (a := .int .u64 N) X2.1 X2.2 (HB.out).size hne
              have X4 := rd_set (i := 1) (a := .string ⟨#[]⟩) X3.1 X3.2 (HB.out).size hne
              have h3 : ((w2.setCell ⟨wr.heap.size, 0, none⟩ (.int .u64 N)).setCell ⟨wr.heap.size, 1, none⟩ (.string ⟨#[]⟩)).heap[wr.heap.size]? = some (.cells #[.int .u64 N, .string ⟨#[]⟩] 139 (0, 0)) := heap_set_lit (heap_set_lit h2 _) _
              have X5 := Lib.hid X4
              have H3 := Lib.hid h3
              clear X1 X2 X3 X4 h3 g2 h2 hne
              go_wp2_with fail
              generalize ((w2.setCell ⟨wr.heap.size, 0, none⟩ (.int .u64 N)).setCell ⟨wr.heap.size, 1, none⟩ (.string ⟨#[]⟩)) = V at *
              have q5 := cell_lit (i := 0) H3.out rfl
              have q6 := cell_lit (i := 1) H3.out rfl
              clear q1 q2 q3 q4
              go_region_law (
                refine step_append_lies _ (by rfl) _ _ _ (by rfl) w0.heap.size 139 j0 _ 2 24 Tryz.underlying171 hj hz0 hz1 hz2 rfl (by omega) u6 _ _ (by rfl) (((X5.out).1.alloc _).drew)
                  ⟨V.heap.size, 0, none⟩ 1 1 [.int .u64 N, .string ⟨#[]⟩] (by rfl) (by rfl) (World.news_of_block (cs := #[.int .u64 N, .string ⟨#[]⟩]) (t := 139) (fr := (0, 0)) (heap_alloc_new V _)) (one2 _ _ rfl rfl)
                  (by decide) (by unfold maxLen; omega) (by omega) (by have := (X5.out).2.size; simp; omega) (V.heap.size + 1) (World.size_alloc _ _) ?_; intro gg cap w4 hown4 hgrow hat hlt
                have R1 := Lib.hid (rd_next (r' := r.extract 1 r.size) hks' (X5.out).1 (X5.out).2 hgrow hown4 (by simp; omega) hacc HE.out)
                clear hown4 hgrow hat hlt)
              go_wp2_with fail
              go_roundg (s.data.toList.length - (k + 1))
              case measure => omega
              case rel => exact R1.out
          · by_cases k116 : s[k] = 116
            · have W : ∀ w, Calls Tryz.prog 121 #[.int .u8 116] w (fun e w' => e = .returned (.int .i64 0) ∧ w = w') := fun w => width_c 116 w
              rw [k116] at HST
              by_cases h2 : r.size < 2
              · have HE := Lib.hid (HST.out.1 (rd1_t_no r h2))
                go_wp2_with (first | (go_at_call 121; refine (W _).mono ?_; rintro e w1 ⟨rfl, rfl⟩))
                go_ret2
                exact rdPost_none HE.out rfl ((HB0.out).trans ((HB.out).mono (HB0.out).size))
              · have hn' : (2 : Int) ≤ (r.size : Int) := by omega
                have HT := Lib.hid (rd1_t r h2)
                obtain ⟨N, hN⟩ : ∃ N, N = toldN 0 (r.extract 0 2).data.toList := ⟨_, rfl⟩
                have hNb : N < 65536 := by rw [hN]; exact toldN_two _ (by rw [← Lib.size_eq]; simp; omega)
                have TC : ∀ w, Calls Tryz.prog 143 #[.string (r.extract 0 2)] w fun e w' => e = .returned (.int .u64 N) ∧ Below w.heap.size w w' := fun w => by rw [hN]; exact told_c _ w (by simp; omega)
                have hwr : IntKind.i64.wrap (N : Int) = N := by simp [IntKind.wrap, IntKind.bits, IntKind.signed]; omega
                obtain ⟨r2, hr2⟩ : ∃ r2, r2 = r.extract 2 r.size := ⟨_, rfl⟩
                have hr2s : r2.size = r.size - 2 := by rw [hr2]; simp
                rw [← hN, ← hr2] at HT
                clear hN
                go_wp2_with (first | (go_at_call 121; refine (W _).mono ?_; rintro e w1 ⟨rfl, rfl⟩))
                go_region_held3 (fun _ => True) (trivial) ((go_at_call 143; refine (TC _).mono ?_; rintro e w2 ⟨rfl, g2⟩))
                have X1 := rd_below (HO.out).drew (HB.out).drew g2
                rw [← hr2]
                clear hr2
                by_cases hn : r.size - 2 < N
                · have HE := Lib.hid (HST.out.1 (by rw [HT.out, if_pos (by omega)]))
                  have X5 := Lib.hid X1
                  clear X1 g2
                  go_wp2_with fail
                  go_ret2
                  exact rdPost_none HE.out rfl ((HB0.out).trans ((X5.out.2).mono (HB0.out).size))
                · have HE := Lib.hid (HST.out.2 _ _ (by rw [HT.out, if_neg (by omega)]))
                  have X5 := Lib.hid (rd_alloc (.cells #[.int .u64 0, .string (r2.extract 0 N)] 139) X1.1 X1.2)
                  rw [hr2s] at HE
                  have hn3 : N ≤ r.size - 2 := by omega
                  have H3 := Lib.hid (heap_alloc_new w2 (.cells #[.int .u64 0, .string (r2.extract 0 N)] 139))
                  clear X1 g2
                  go_wp2_with fail
                  generalize (w2.alloc (.cells #[.int .u64 0, .string (r2.extract 0 N)] 139)) = V at *
                  have q5 := cell_lit (i := 0) H3.out rfl
                  have q6 := cell_lit (i := 1) H3.out rfl
                  go_region_law (
                    refine step_append_lies _ (by rfl) _ _ _ (by rfl) w0.heap.size 139 j0 _ 2 24 Tryz.underlying171 hj hz0 hz1 hz2 rfl (by omega) u6 _ _ (by rfl) (((X5.out).1.alloc _).drew)
                      ⟨V.heap.size, 0, none⟩ 1 1 [.int .u64 0, .string (r2.extract 0 N)] (by rfl) (by rfl) (World.news_of_block (cs := #[.int .u64 0, .string (r2.extract 0 N)]) (t := 139) (fr := (0, 0)) (heap_alloc_new V _)) (one2 _ _ rfl rfl)
                      (by decide) (by unfold maxLen; omega) (by omega) (by have := (X5.out).2.size; simp; omega) (V.heap.size + 1) (World.size_alloc _ _) ?_; intro gg cap w4 hown4 hgrow hat hlt
                    have R1 := Lib.hid (rd_next (r' := r2.extract N (r.size - 2)) hks' (X5.out).1 (X5.out).2 hgrow hown4 (ex_le _ _ _ (by omega)) hacc HE.out)
                    clear hown4 hgrow hat hlt)
                  go_wp2_with fail
                  go_roundg (s.data.toList.length - (k + 1))
                  case measure => omega
                  case rel => exact R1.out
            · have k114 : s[k] = 114 := by
                have := kind_right hks' HR.out
                have hge : s.data.toList[k] = s[k] := by simp; rfl
                rw [hge] at this
                exact this.resolve_left (by simp [kindB, k110, k104, k98, k116])
              have W : ∀ w, Calls Tryz.prog 121 #[.int .u8 114] w (fun e w' => e = .returned (.int .i64 0) ∧ w = w') := fun w => width_c 114 w
              rw [k114] at HST
              clear k110 k104 k98 k116
              have HE := Lib.hid (HST.out.2 _ _ (show rd1 114 r = some ((0, r), ⟨#[]⟩) from rfl))
              have X5 := Lib.hid (rd_alloc (.cells #[.int .u64 0, .string r] 139) HO.out HB.out)
              have H3 := Lib.hid (heap_alloc_new wr (.cells #[.int .u64 0, .string r] 139))
              go_wp2_with (first | (go_at_call 121; refine (W _).mono ?_; rintro e w1 ⟨rfl, rfl⟩))
              generalize (wr.alloc (.cells #[.int .u64 0, .string r] 139)) = V at *
              have q5 := cell_lit (i := 0) H3.out rfl
              have q6 := cell_lit (i := 1) H3.out rfl
              go_region_law (
                refine step_append_lies _ (by rfl) _ _ _ (by rfl) w0.heap.size 139 j0 _ 2 24 Tryz.underlying171 hj hz0 hz1 hz2 rfl (by omega) u6 _ _ (by rfl) (((X5.out).1.alloc _).drew)
                  ⟨V.heap.size, 0, none⟩ 1 1 [.int .u64 0, .string r] (by rfl) (by rfl) (World.news_of_block (cs := #[.int .u64 0, .string r]) (t := 139) (fr := (0, 0)) (heap_alloc_new V _)) (one2 _ _ rfl rfl)
                  (by decide) (by unfold maxLen; omega) (by omega) (by have := (X5.out).2.size; simp; omega) (V.heap.size + 1) (World.size_alloc _ _) ?_; intro gg cap w4 hown4 hgrow hat hlt
                have R1 := Lib.hid (rd_next (r' := ⟨#[]⟩) hks' (X5.out).1 (X5.out).2 hgrow hown4 (Nat.zero_le _) hacc HE.out)
                clear hown4 hgrow hat hlt)
              go_wp2_with fail
              go_roundg (s.data.toList.length - (k + 1))
              case measure => omega
              case rel => exact R1.out
    · obtain rfl : k = s.size := by omega
      have HB := Lib.hid hb
      have HO := Lib.hid ho
      have hdr : s.data.toList.drop s.size = [] := by rw [List.drop_eq_nil_iff]; omega
      rw [hdr] at hw
      by_cases hrn : r.toList = []
      · have HP := Lib.hid (show RdPost w (readL s.data.toList S) (.returned (.tuple #[u6, .bool true])) wr from rdPost_some hw hrn hacc ho hb HB0.out)
        clear ho hb hw
        go_wp2_with fail
        go_ret2
        exact HP.out
      · have HE := Lib.hid (show readL s.data.toList S = none by rw [hw]; simp [readL, hrn])
        have q1 : (r.toList == []) = false := by simpa using hrn
        have q2 : (r.toList != []) = true := by simpa using hrn
        have q3 : ¬ r.size = 0 := fun h => hrn ((toList_nil r).2 h)
        clear ho hb hw
        go_wp2_with fail
        go_ret2
        exact rdPost_none HE.out rfl ((HB0.out).trans ((HB.out).mono (HB0.out).size))
end Go.Proofs.YtdcjhpafipbpkaaGreatDoor
namespace Go.Proofs.YtdcjhpafipbpkaaGreatDoor
set_option linter.unusedVariables false
open Go.RowKit
def readF (ks : List UInt8) (S : ByteArray) : Option (List Fld) := if rightL ks = true then readL ks S else none
theorem Read_cK (s S : ByteArray) (w : World) (hs : s.size ≤ 1000) (hS : S.size ≤ 1000000) :
    Calls Tryz.prog 88 #[.string s, .string S] w (RdPost w (readF s.data.toList S)) := by
  cases hr : rightL s.data.toList
  · have HE := Lib.hid (show readF s.data.toList S = none by unfold readF; rw [hr]; rfl)
    have rc := Right_c s w (by omega)
    rw [hr] at rc
    clear hr
    go_enter Tryz.func88, Tryz.ntmps88
    go_wp2_with fail
    refine rc.mono ?_
    rintro e w0 ⟨rfl, hb0⟩
    have HB0 := Lib.hid hb0
    clear rc hb0
    go_wp2_with fail
    go_ret2
    exact rdPost_none HE.out rfl HB0.out
  · rw [show readF s.data.toList S = readL s.data.toList S by unfold readF; rw [if_pos hr]]
    exact Read_in s S w hs hr hS
end Go.Proofs.YtdcjhpafipbpkaaGreatDoor
namespace Go.Proofs.YtdcjhpafipbpkaaGreatDoor
set_option linter.unusedVariables false
open Go.RowKit
end Go.Proofs.YtdcjhpafipbpkaaGreatDoor
namespace Go.Proofs.YtdcjhpafipbpkaaGreatDoor
set_option linter.unusedVariables false
theorem be_snoc (n w : Nat) : be n (w + 1) = be (n / 256) w ++ [UInt8.ofNat (n % 256)] := by
  induction w with
  | zero => simp [be]
  | succ w ih =>
    have e1 : be n (w + 1 + 1) = UInt8.ofNat (n / 256 ^ (w + 1) % 256) :: be n (w + 1) := rfl
    have e2 : be (n / 256) (w + 1) = UInt8.ofNat (n / 256 / 256 ^ w % 256) :: be (n / 256) w := rfl
    rw [e1, ih, e2, Nat.div_div_eq_div_mul, Nat.pow_succ, Nat.mul_comm 256]
    rfl
end Go.Proofs.YtdcjhpafipbpkaaGreatDoor
namespace Go.Proofs.YtdcjhpafipbpkaaGreatDoor
set_option linter.unusedVariables false
theorem told_of_be : ∀ (w n : Nat), w ≤ 8 → n < 256 ^ w → toldN 0 (be n w) = n := by
  intro w
  induction w with
  | zero => intro n _ h; simp at h; subst h; rfl
  | succ w ih =>
    intro n hw h
    have hp : 256 ^ (w + 1) ≤ 256 ^ 8 := Nat.pow_le_pow_right (by decide) hw
    have h8 : (256 : Nat) ^ 8 = 18446744073709551616 := by decide
    rw [be_snoc, toldN_append, ih (n / 256) (by omega) (by rw [Nat.pow_succ] at h; omega)]
    show (n / 256) * 256 % 18446744073709551616 + (UInt8.ofNat (n % 256)).toNat = n
    rw [UInt8.toNat_ofNat', Nat.mod_eq_of_lt (by omega), Nat.mod_eq_of_lt (by omega)]
    omega
theorem cat_take (a r : List UInt8) : (⟨(a ++ r).toArray⟩ : ByteArray).extract 0 a.length = ⟨a.toArray⟩ := by
  rw [extract_take]; simp
theorem cat_drop (a r : List UInt8) : (⟨(a ++ r).toArray⟩ : ByteArray).extract a.length (⟨(a ++ r).toArray⟩ : ByteArray).size = ⟨r.toArray⟩ := by
  rw [extract_drop]; simp
theorem size_mk (a : List UInt8) : (⟨a.toArray⟩ : ByteArray).size = a.length := by rw [Lib.size_eq]
theorem empty_of_size {S : ByteArray} (h : S.size = 0) : S = ⟨#[]⟩ := by
  apply ByteArray.ext
  exact Array.eq_empty_of_size_eq_zero h
theorem mk_data (S : ByteArray) : (⟨S.data.toList.toArray⟩ : ByteArray) = S := by apply ByteArray.ext; simp
theorem rd_wr1 {k : UInt8} {f : Fld} {a : List UInt8} (h : wr1 k f = some a) (hn : f.1 < 18446744073709551616) (r : List UInt8) (hr : kindB k = true ∨ r = []) : rd1 k ⟨(a ++ r).toArray⟩ = some (f, ⟨r.toArray⟩) := by
  obtain ⟨n, S⟩ := f
  by_cases h116 : k = 116
  · subst h116
    by_cases hz : n = 0
    · by_cases hs : 65535 < S.size
      · rw [wr1_t_no n S hz hs] at h; cases h
      · rw [wr1_t n S hz hs] at h
        simp only [Option.some.injEq] at h
        subst h hz
        rw [List.append_assoc]
        generalize hq : S.data.toList ++ r = q
        have e1 := cat_take (be S.size 2) q
        have e2 := cat_drop (be S.size 2) q
        rw [be_length] at e1 e2
        have hsz : (⟨(be S.size 2 ++ q).toArray⟩ : ByteArray).size = 2 + q.length := by rw [size_mk]; simp [be_length]
        rw [rd1_t _ (by omega), e1, e2]
        have e3 : toldN 0 (⟨(be S.size 2).toArray⟩ : ByteArray).data.toList = S.size := told_of_be 2 S.size (by decide) (Nat.lt_of_le_of_lt (Nat.le_of_not_lt hs) (by decide))
        rw [e3]
        subst hq
        have e4 := cat_take S.data.toList r
        have e5 := cat_drop S.data.toList r
        rw [← Lib.size_eq] at e4 e5
        rw [e4, e5, if_neg (by rw [size_mk, List.length_append, ← Lib.size_eq]; omega), mk_data]
    · rw [wr1_txt_no 116 n S rfl hz] at h; cases h
  · by_cases hk : kindB k = true
    · have hk' : (kindB k && k != 116) = true := by simp [hk, h116]
      rw [wr1_num k _ n S hk' rfl] at h
      rw [rd1_num k _ _ hk' rfl]
      have hw8 : (widthB k.toNat).toNat ≤ 8 := by unfold widthB; split <;> (try split) <;> (try split) <;> decide
      generalize (widthB k.toNat).toNat = wd at *
      by_cases hc : S.size ≠ 0 ∨ 256 ^ wd ≤ n
      · rw [if_pos hc] at h; cases h
      · rw [if_neg hc] at h
        simp only [Option.some.injEq] at h
        subst h
        have e1 := cat_take (be n wd) r
        have e2 := cat_drop (be n wd) r
        rw [be_length] at e1 e2
        rw [e1, e2, if_neg (by rw [size_mk, List.length_append, be_length]; omega)]
        have e3 : toldN 0 (⟨(be n wd).toArray⟩ : ByteArray).data.toList = n := told_of_be wd n hw8 (by omega)
        rw [e3, empty_of_size (S := S) (by omega)]
    · have e : rd1 k ⟨(a ++ r).toArray⟩ = some ((0, ⟨(a ++ r).toArray⟩), ⟨#[]⟩) := by unfold rd1; rw [if_neg h116, if_neg hk]
      obtain rfl : r = [] := hr.resolve_left hk
      by_cases hz : n = 0
      · rw [wr1_r k n S (by simp [hk]) h116 hz] at h
        simp only [Option.some.injEq] at h
        subst h hz
        rw [e, List.append_nil, mk_data]
      · rw [wr1_txt_no k n S (by simp [hk]) hz] at h; cases h
theorem rd_wr : ∀ (ks : List UInt8) (fs : List Fld) (a : List UInt8), rightL ks = true → ks.length = fs.length → (∀ p ∈ fs, p.1 < 18446744073709551616) → wrL ks fs = some a → readL ks ⟨a.toArray⟩ = some fs := by
  intro ks
  induction ks with
  | nil =>
    intro fs a _ hl _ h
    obtain rfl := List.eq_nil_of_length_eq_zero hl.symm
    simp only [wrL, Option.some.injEq] at h
    subst h
    show (if (⟨#[]⟩ : ByteArray).toList = [] then some [] else none) = _
    rw [if_pos (by rw [Lib.toList_data])]
  | cons k ks ih =>
    intro fs a hr hl hn h
    cases fs with
    | nil => simp at hl
    | cons f fs =>
      have e : wrL (k :: ks) (f :: fs) = (match wr1 k f with | none => none | some a => (wrL ks fs).map (a ++ ·)) := rfl
      rw [e] at h
      cases h1 : wr1 k f with
      | none => rw [h1] at h; cases h
      | some b =>
        rw [h1] at h
        dsimp only at h
        cases h2 : wrL ks fs with
        | none => rw [h2] at h; cases h
        | some c =>
          rw [h2] at h
          simp only [Option.map_some, Option.some.injEq] at h
          subst h
          have hc : kindB k = true ∨ c = [] := by
            cases ks with
            | nil => right; cases fs with
              | nil => simp only [wrL, Option.some.injEq] at h2; exact h2.symm
              | cons _ _ => simp at hl
            | cons d r => left; rw [rightL_cons (by simp)] at hr; simp only [Bool.and_eq_true] at hr; exact hr.1
          have hr' : rightL ks = true := by
            cases ks with
            | nil => rfl
            | cons d r => rw [rightL_cons (by simp)] at hr; simp only [Bool.and_eq_true] at hr; exact hr.2
          have e2 : readL (k :: ks) ⟨(b ++ c).toArray⟩ = (match rd1 k ⟨(b ++ c).toArray⟩ with | none => none | some p => (readL ks p.2).map (p.1 :: ·)) := rfl
          rw [e2, rd_wr1 h1 (hn f (List.mem_cons_self ..)) c hc]
          dsimp only
          rw [ih fs c hr' (by simpa using hl) (fun p hp => hn p (List.mem_cons_of_mem _ hp)) h2]
          rfl
/-- What is written is read back. -/
theorem read_write {ks : List UInt8} {fs : List Fld} {a : List UInt8} (hn : ∀ p ∈ fs, p.1 < 18446744073709551616) (h : writeL ks fs = some a) : readF ks ⟨a.toArray⟩ = some fs := by
  by_cases hr : rightL ks = true ∧ ks.length = fs.length
  · rw [writeL_yes hr.1 hr.2] at h
    unfold readF
    rw [if_pos hr.1]
    exact rd_wr ks fs a hr.1 hr.2 hn h
  · unfold writeL at h
    rw [if_neg hr] at h; cases h
end Go.Proofs.YtdcjhpafipbpkaaGreatDoor
namespace Go.Proofs.YtdcjhpafipbpkaaGreatDoor
set_option linter.unusedVariables false
theorem be_mod (n k : Nat) : ∀ w, w ≤ k → be (n % 256 ^ k) w = be n w := by
  intro w
  induction w with
  | zero => intro _; rfl
  | succ w ih =>
    intro hw
    show UInt8.ofNat ((n % 256 ^ k) / 256 ^ w % 256) :: be (n % 256 ^ k) w = UInt8.ofNat (n / 256 ^ w % 256) :: be n w
    rw [ih (by omega)]
    have e : (256 : Nat) ^ k = 256 ^ w * 256 ^ (k - w) := by rw [← Nat.pow_add]; congr 1; omega
    have d : (256 : Nat) ∣ 256 ^ (k - w) := ⟨256 ^ (k - w - 1), by rw [← Nat.pow_succ']; congr 1; omega⟩
    rw [e, Nat.mod_mul_right_div_self, Nat.mod_mod_of_dvd _ d]
theorem less_byte {a b : Nat} (ha : a < 256) (hb : b < 256) : (decide (UInt8.ofNat a < UInt8.ofNat b)) = decide (a < b) ∧ (UInt8.ofNat a == UInt8.ofNat b) = decide (a = b) := by
  have e1 : (UInt8.ofNat a).toNat = a := by rw [UInt8.toNat_ofNat']; omega
  have e2 : (UInt8.ofNat b).toNat = b := by rw [UInt8.toNat_ofNat']; omega
  constructor
  · rw [decide_eq_decide, UInt8.lt_iff_toNat_lt, e1, e2]
  · rw [Bool.eq_iff_iff]
    simp only [beq_iff_eq, decide_eq_true_eq]
    constructor
    · intro h; rw [← e1, h, e2]
    · intro h; rw [h]
theorem bytesLess_be : ∀ w n m, n < 256 ^ w → m < 256 ^ w → Op.bytesLess (be n w) (be m w) = decide (n < m) := by
  intro w
  induction w with
  | zero => intro n m hn hm; simp at hn hm; subst hn hm; rfl
  | succ w ih =>
    intro n m hn hm
    have hp : 0 < 256 ^ w := Nat.pow_pos (by decide)
    rw [Nat.pow_succ] at hn hm
    have hn' : n / 256 ^ w < 256 := Nat.div_lt_of_lt_mul hn
    have hm' : m / 256 ^ w < 256 := Nat.div_lt_of_lt_mul hm
    show (decide (UInt8.ofNat (n / 256 ^ w % 256) < UInt8.ofNat (m / 256 ^ w % 256)) || (UInt8.ofNat (n / 256 ^ w % 256) == UInt8.ofNat (m / 256 ^ w % 256) && Op.bytesLess (be n w) (be m w))) = _
    rw [Nat.mod_eq_of_lt hn', Nat.mod_eq_of_lt hm', (less_byte hn' hm').1, (less_byte hn' hm').2]
    have i := ih (n % 256 ^ w) (m % 256 ^ w) (Nat.mod_lt _ hp) (Nat.mod_lt _ hp)
    rw [be_mod _ _ _ (Nat.le_refl _), be_mod _ _ _ (Nat.le_refl _)] at i
    rw [i]
    have dn := Nat.div_add_mod n (256 ^ w)
    have dm := Nat.div_add_mod m (256 ^ w)
    have mn := Nat.mod_lt n hp
    have mm := Nat.mod_lt m hp
    generalize 256 ^ w = p at *
    generalize n / p = x at *
    generalize m / p = y at *
    generalize n % p = u at *
    generalize m % p = v at *
    rcases Nat.lt_trichotomy x y with h | h | h
    · have : p * (x + 1) ≤ p * y := Nat.mul_le_mul_left p h
      rw [Nat.mul_add] at this
      simp [h]; omega
    · subst h
      simp; omega
    · have : p * (y + 1) ≤ p * x := Nat.mul_le_mul_left p h
      rw [Nat.mul_add] at this
      have h1 : ¬ x < y := by omega
      have h2 : ¬ x = y := by omega
      simp [h1, h2]; omega
theorem p256 : (256 : Nat) ^ 8 = 18446744073709551616 := by decide
/-! Parts. -/
end Go.Proofs.YtdcjhpafipbpkaaGreatDoor
namespace Go.Proofs.YtdcjhpafipbpkaaGreatDoor
set_option maxRecDepth 100000
open Go.RowKit

theorem laidOut : laidOutB Tryz.prog = true := by kernel_rfl
/-- The value v of type T can be read in the world w. -/
def Reads (w : World) (T : TypeId) (v : Value) : Prop :=
  ∃ (H : Type) (enc : TypeId × Value → H) (d : DataW H) (p : List MemPlace) (base : Nat), Value.okWide Tryz.prog w .any base T v ∧ DataW.Trod enc Tryz.prog w 0 (fun _ => true) true T v d p
theorem reads_string {w : World} {T : TypeId} {v : Value} (ht : Tryz.prog.underlying T = some .string) (h : Reads w T v) : ∃ s, v = .string s ∧ s.size ≤ maxLen := by
  obtain ⟨H, enc, d, p, base, h1, h2⟩ := h
  obtain ⟨n, rfl, _, _, hs⟩ := ChangeMaps.open_string ht h1 h2
  exact ⟨n, rfl, hs⟩
/-- A slice of cells of one cell each. -/
def SliceAt (w : World) (v : Value) (l : List Value) : Prop :=
  ∃ a cap, v = .slice a l.length cap ∧ l.length ≤ cap ∧ cap ≤ maxLen ∧ ∀ k, (h : k < l.length) → ∃ b off, a = some ⟨b, off, none⟩ ∧ w.cell? ⟨b, off + k, none⟩ = some l[k] ∧ b < w.heap.size
theorem addr_add {w : World} {a : Addr} {i : Nat} {u : Value} (h : w.cell? (a.add i) = some u) : a.add i = ⟨a.block, a.off + i, none⟩ ∧ a.block < w.heap.size := by
  have h1 := World.cell?_spot h
  have h2 := World.block_lt_of_cell? w _ h
  unfold Addr.add at h1 h2 ⊢
  split at h1
  · rename_i h0
    subst h0
    simp only [if_true] at h2 ⊢
    obtain ⟨b, o, s⟩ := a
    simp only at h1 h2 ⊢
    subst h1
    exact ⟨rfl, h2⟩
  · rename_i h0
    simp only [h0, if_false] at h2 ⊢
    exact ⟨trivial, h2⟩
/-- The value x, xs one cell of type e, can be read in the world w. -/
def Reads1 (w : World) (e : TypeId) (x : Value) : Prop := ∃ (H : Type) (enc : TypeId × Value → H) (m : Nat) (y : DataW H × List MemPlace), DataW.trod enc Tryz.prog w 0 (fun _ => true) true m e [x] = some y
/-- A slice whose elements are of one cell. -/
theorem reads_slice1 {w : World} {T e : TypeId} {v : Value} (ht : Tryz.prog.underlying T = some (.slice e)) (hc : Tryz.prog.cellsOf e = 1) (h : Reads w T v) : ∃ l, SliceAt w v l ∧ ∀ x ∈ l, Reads1 w e x := by
  obtain ⟨H, enc, d, p, base, h1, h2⟩ := h
  obtain ⟨a, len, cap, rfl⟩ := WideShapes.okWide_slice ht h1
  obtain ⟨fuel, hf⟩ := h2
  rcases Deep.open_slice1 ht hc hf with ⟨hcs, _⟩ | ⟨x, l, c, m, n, V, D, Pl, hcs, _, hl, hm, hmm, _, hel⟩
  · simp [Value.cells] at hcs
    obtain ⟨rfl, rfl, rfl⟩ := hcs
    exact ⟨[], ⟨none, 0, rfl, Nat.zero_le _, Nat.zero_le _, fun i hi => absurd hi (by simp)⟩, by simp⟩
  · simp [Value.cells] at hcs
    obtain ⟨rfl, rfl, rfl⟩ := hcs
    simp only [if_true] at hmm
    subst hmm
    have hlen : ((List.range len).map V).length = len := by simp
    refine ⟨(List.range len).map V, ⟨_, _, by rw [hlen], by rw [hlen]; exact hl, hm, fun k hk => ?_⟩, ?_⟩
    · rw [hlen] at hk
      obtain ⟨g1, _⟩ := hel k (by omega)
      obtain ⟨g2, g3⟩ := addr_add g1
      have e0 : x.spot = none ∨ k ≠ 0 := by
        by_cases hk0 : k = 0
        · subst hk0
          have := World.cell?_spot g1
          exact .inl (by simpa [Addr.add] using this)
        · exact .inr hk0
      obtain ⟨g4, _⟩ := hel 0 (by omega)
      have hs := World.cell?_spot g4
      have hs : x.spot = none := by simpa [Addr.add] using hs
      obtain ⟨b, o, sp⟩ := x
      simp only at hs
      subst hs
      rw [g2] at g1
      exact ⟨b, o, rfl, by simpa using g1, g3⟩
    · intro u hu
      obtain ⟨k, hk, rfl⟩ := List.mem_map.1 hu
      obtain ⟨_, g2⟩ := hel k (by have := List.mem_range.1 hk; omega)
      exact ⟨H, enc, n, _, g2⟩
theorem reads1_int {w : World} {e : TypeId} {k : IntKind} {x : Value} (ht : Tryz.prog.underlying e = some (.int k)) (h : Reads1 w e x) : ∃ n, x = .int k n ∧ (Lit.int k n).wf = true := by
  obtain ⟨H, enc, m, y, h⟩ := h
  obtain ⟨b, hb, _, hw⟩ := DataW.trod_int ht h
  exact ⟨b, by simpa using hb, hw⟩
theorem reads1_string {w : World} {e : TypeId} {x : Value} (ht : Tryz.prog.underlying e = some .string) (h : Reads1 w e x) : ∃ s, x = .string s ∧ s.size ≤ maxLen := by
  obtain ⟨H, enc, m, y, h⟩ := h
  obtain ⟨b, hb, _, hw⟩ := DataW.trod_string ht h
  exact ⟨b, by simpa using hb, hw⟩
theorem list_of {α : Type} {f : α → Value} {q : α → Prop} : ∀ {l : List Value}, (∀ x ∈ l, ∃ a, x = f a ∧ q a) → ∃ xs : List α, l = xs.map f ∧ ∀ a ∈ xs, q a
  | [], _ => ⟨[], rfl, by simp⟩
  | x :: l, h => by
    obtain ⟨a, rfl, ha⟩ := h x (List.mem_cons_self ..)
    obtain ⟨xs, rfl, hxs⟩ := list_of (l := l) (fun y hy => h y (List.mem_cons_of_mem _ hy))
    exact ⟨a :: xs, rfl, by intro b hb; rcases List.mem_cons.1 hb with rfl | hb; exact ha; exact hxs b hb⟩
theorem reads_ints {w : World} {T e : TypeId} {k : IntKind} {v : Value} (ht : Tryz.prog.underlying T = some (.slice e)) (hc : Tryz.prog.cellsOf e = 1) (he : Tryz.prog.underlying e = some (.int k)) (h : Reads w T v) :
    ∃ l : List Int, SliceAt w v (l.map (Value.int k)) ∧ ∀ n ∈ l, (Lit.int k n).wf = true := by
  obtain ⟨l, h1, h2⟩ := reads_slice1 ht hc h
  obtain ⟨xs, rfl, h3⟩ := list_of (f := Value.int k) (q := fun n => (Lit.int k n).wf = true) (fun x hx => reads1_int he (h2 x hx))
  exact ⟨xs, h1, h3⟩
theorem reads_strings {w : World} {T e : TypeId} {v : Value} (ht : Tryz.prog.underlying T = some (.slice e)) (hc : Tryz.prog.cellsOf e = 1) (he : Tryz.prog.underlying e = some .string) (h : Reads w T v) :
    ∃ l : List ByteArray, SliceAt w v (l.map Value.string) ∧ ∀ s ∈ l, s.size ≤ maxLen := by
  obtain ⟨l, h1, h2⟩ := reads_slice1 ht hc h
  obtain ⟨xs, rfl, h3⟩ := list_of (f := Value.string) (q := fun s => s.size ≤ maxLen) (fun x hx => reads1_string he (h2 x hx))
  exact ⟨xs, h1, h3⟩
end Go.Proofs.YtdcjhpafipbpkaaGreatDoor
namespace Go.Proofs.YtdcjhpafipbpkaaGreatDoor
set_option maxRecDepth 100000
open Go.RowKit
/-- These cells read as a value of type e in the world w. -/
def ReadsC (w : World) (e : TypeId) (cs : List Value) : Prop := ∃ (H : Type) (enc : TypeId × Value → H) (m : Nat) (y : DataW H × List MemPlace), DataW.trod enc Tryz.prog w 0 (fun _ => true) true m e cs = some y
theorem Reads.c {w : World} {T : TypeId} {v : Value} (h : Reads w T v) : ReadsC w T v.cells.toList := by
  obtain ⟨H, enc, d, p, base, h1, fuel, hf⟩ := h
  exact ⟨H, enc, fuel, _, hf⟩
end Go.Proofs.YtdcjhpafipbpkaaGreatDoor
namespace Go.Proofs.YtdcjhpafipbpkaaGreatDoor
set_option maxRecDepth 100000
open Go.RowKit
end Go.Proofs.YtdcjhpafipbpkaaGreatDoor
namespace Go.Proofs.YtdcjhpafipbpkaaGreatDoor
set_option linter.unusedVariables false
open Go.RowKit
end Go.Proofs.YtdcjhpafipbpkaaGreatDoor
namespace Go.Proofs.YtdcjhpafipbpkaaGreatDoor
set_option linter.unusedVariables false
set_option maxRecDepth 100000
set_option maxHeartbeats 1000000
open Go.RowKit
/-- At least c pages are free. -/
def Spare (S : RS) (n c : Nat) : Prop := ∃ U : List Nat, (∀ q, S.used q = true → q ∈ U) ∧ U.length + c ≤ pagesN n
theorem pigeon : ∀ (N : Nat) (U : List Nat), U.length < N → ∃ q, q < N ∧ q ∉ U
  | 0, U, h => by omega
  | N + 1, U, h => by
    by_cases hN : N ∈ U
    · have hl := List.length_erase_of_mem hN
      have hp := List.length_pos_of_mem hN
      obtain ⟨q, h1, h2⟩ := pigeon N (U.erase N) (by omega)
      refine ⟨q, by omega, fun hq => h2 ?_⟩
      exact (List.mem_erase_of_ne (by omega)).2 hq
    · exact ⟨N, by omega, hN⟩
theorem Spare.free {S : RS} {n c : Nat} (h : Spare S n (c + 1)) : ∃ q, q < pagesN n ∧ S.used q = false := by
  obtain ⟨U, h1, h2⟩ := h
  obtain ⟨q, h3, h4⟩ := pigeon (pagesN n) U (by omega)
  refine ⟨q, h3, ?_⟩
  cases e : S.used q with
  | false => rfl
  | true => exact absurd (h1 q e) h4
theorem Spare.alloc {S : RS} {n c p : Nat} (h : Spare S n (c + 1)) (hp : S.used p = false) : Spare (allocS S p) n c := by
  obtain ⟨U, h1, h2⟩ := h
  refine ⟨p :: U, fun q hq => ?_, by simp; omega⟩
  have hq' : flip S.used p q = true := hq
  unfold flip at hq'
  by_cases e : q = p
  · simp [e]
  · rw [if_neg e] at hq'; simp [h1 q hq']
theorem Spare.write {S : RS} {n c p : Nat} {d : Nd} (h : Spare S n c) : Spare (wrS S p d) n c := h
theorem Spare.less {S : RS} {n c c' : Nat} (h : Spare S n c) (hc : c' ≤ c) : Spare S n c' := by
  obtain ⟨U, h1, h2⟩ := h; exact ⟨U, h1, by omega⟩
/-! ### a tree's weight: it rises with each new key, whatever is split or joined -/
def wt : (h : Nat) → PT h → Nat
  | 0, l => List.length l
  | h + 1, l => (List.map (fun x => max (2 ^ h) (wt h x.2.2)) l).sum
theorem wt_zero (l : PT 0) : wt 0 l = List.length l := rfl
theorem wt_app {h : Nat} (A B : List (Kid h)) : wt (h + 1) (A ++ B : List (Kid h)) = wt (h + 1) A + wt (h + 1) B := by simp [wt]
theorem wt_cons {h : Nat} (x : Kid h) (B : List (Kid h)) : wt (h + 1) (x :: B : List (Kid h)) = max (2 ^ h) (wt h x.2.2) + wt (h + 1) B := by simp [wt]
theorem wt_mid {h : Nat} (A B : List (Kid h)) (x : Kid h) : wt (h + 1) (A ++ x :: B : List (Kid h)) = wt (h + 1) A + (max (2 ^ h) (wt h x.2.2) + wt (h + 1) B) := by rw [wt_app, wt_cons]
theorem wt_lo {h : Nat} (l : List (Kid h)) : 2 ^ h * l.length ≤ wt (h + 1) l := by
  induction l with
  | nil => simp [wt]
  | cons x l ih =>
    rw [wt_cons, List.length_cons, Nat.mul_add, Nat.mul_one]
    have := Nat.le_max_left (2 ^ h) (wt h x.2.2)
    omega
theorem wt_cut (h i : Nat) (u : PT h) : wt h (tk h i u) + wt h (dr h i u) = wt h u := by
  cases h with
  | zero => show (List.take i u).length + (List.drop i u).length = List.length u; rw [← List.length_append, List.take_append_drop]
  | succ h => exact (wt_app _ _).symm.trans (by simp [tk, dr])
theorem wt_many {h : Nat} (u : PT h) (h2 : (h = 0 → 1 ≤ (nd h u).len) ∧ (1 ≤ h → 2 ≤ (nd h u).len)) : 2 ^ h ≤ wt h u := by
  cases h with
  | zero => have := h2.1 rfl; rw [nd_len0] at this; exact this
  | succ h =>
    have := h2.2 (by omega)
    rw [nd_lenS] at this
    have h3 := wt_lo (h := h) u
    have h4 : 2 ^ h * 2 ≤ 2 ^ h * List.length u := Nat.mul_le_mul_left _ this
    have h5 : 2 ^ (h + 1) = 2 ^ h * 2 := Nat.pow_succ 2 h
    omega
theorem wt_one {h : Nat} {A B : List (Kid h)} {x y : Kid h} (H : wt h y.2.2 ≤ wt h x.2.2 + 1) : wt (h + 1) (A ++ y :: B : List (Kid h)) ≤ wt (h + 1) (A ++ x :: B : List (Kid h)) + 1 := by
  rw [wt_mid, wt_mid]
  generalize 2 ^ h = P
  omega
theorem wt_same {h : Nat} {A B : List (Kid h)} {x y : Kid h} (H : wt h y.2.2 ≤ wt h x.2.2) : wt (h + 1) (A ++ y :: B : List (Kid h)) ≤ wt (h + 1) (A ++ x :: B : List (Kid h)) := by
  rw [wt_mid, wt_mid]
  generalize 2 ^ h = P
  omega
theorem wt_two {h : Nat} {A B : List (Kid h)} {x y z : Kid h} (H : wt h y.2.2 + wt h z.2.2 ≤ wt h x.2.2 + 1) (h1 : 2 ^ h ≤ wt h y.2.2) (h2 : 2 ^ h ≤ wt h z.2.2) : wt (h + 1) (A ++ y :: z :: B : List (Kid h)) ≤ wt (h + 1) (A ++ x :: B : List (Kid h)) + 1 := by
  rw [wt_mid, wt_cons, wt_mid]
  generalize 2 ^ h = P at *
  omega
/-- The weight of a tree tells its height. -/
theorem wt_hgt {h k : Nat} {t : PT h} (hp : 0 < (nd h t).len) (hw : wt h t < 2 ^ k) : h ≤ k := by
  cases h with
  | zero => omega
  | succ h =>
    rw [nd_lenS] at hp
    have h1 := wt_lo (h := h) t
    have h2 : 2 ^ h * 1 ≤ 2 ^ h * List.length t := Nat.mul_le_mul_left _ hp
    have h3 : 2 ^ h < 2 ^ k := by omega
    have := (Nat.pow_lt_pow_iff_right (by decide : 1 < 2)).1 h3
    omega
structure PutOne (S S' : RS) (h p : Nat) (t : PT h) (key val : ByteArray) (t' : PT h) : Prop where
  tr : Tr S' h p t'
  ins : Ins key val (ents h t) (ents h t')
  frm : Frm (pgs h p t) (pgs h p t') S S'
  sng : sing h t' ≤ sing h t
  len : (nd h t).len ≤ (nd h t').len
  spr : ∀ n c, Spare S n (c + h) → Spare S' n c
  lenU : (nd h t').len ≤ (nd h t).len + 1
  wtU : wt h t' ≤ wt h t + 1
structure PutTwo (S S' : RS) (h p : Nat) (t : PT h) (key val : ByteArray) (k : ByteArray) (q : Nat) (t1 t2 : PT h) : Prop where
  tr1 : Tr S' h p t1
  tr2 : Tr S' h q t2
  ins : Ins key val (ents h t) (ents h t1 ++ ents h t2)
  frm : Frm (pgs h p t) (pgs h p t1 ++ pgs h q t2) S S'
  nod : (pgs h p t1 ++ pgs h q t2).Nodup
  qlt : q < 65536
  ksz : k.size ≤ 96
  lo : ∀ e ∈ ents h t1, kless e.1 k = true
  hi : ∀ e ∈ ents h t2, kless e.1 k = false
  sng : sing h t1 + sing h t2 ≤ sing h t
  spr : ∀ n c, Spare S n (c + h + 1) → Spare S' n c
  five : 1 ≤ h → 5 ≤ (nd h t).len
  six : 1 ≤ h → 6 ≤ (nd h t1).len + (nd h t2).len
  wtU : wt h t1 + wt h t2 ≤ wt h t + 1 ∧ 2 ^ h ≤ wt h t1 ∧ 2 ^ h ≤ wt h t2
/-- A node with one more entry, not yet written. -/
structure Over (S S1 : RS) (h p : Nat) (t : PT h) (key val : ByteArray) (u : PT h) : Prop where
  wf : Wf h u
  pos : 0 < (nd h u).len
  siz : (nd h u).size ≤ 666
  kid : Kids S1 h u
  nod : (p :: low h u).Nodup
  use : S1.used p = true
  ins : Ins key val (ents h t) (ents h u)
  frm : Frm (pgs h p t) (p :: low h u) S S1
  sng : sing h u ≤ sing h t
  len : (nd h t).len ≤ (nd h u).len
  spr : ∀ n c, Spare S n (c + h) → Spare S1 n c
  lenU : (nd h u).len ≤ (nd h t).len + 1
  wtU : wt h u ≤ wt h t + 1
theorem nodup_swap {X Y : List Nat} {P P' : List Nat} {S S' : RS} (h : (X ++ (P ++ Y)).Nodup) (hf : Frm P P' S S') (hn : P'.Nodup) (hu : ∀ q ∈ X ++ (P ++ Y), S.used q = true) : (X ++ (P' ++ Y)).Nodup := by
  obtain ⟨h1, h2, h3⟩ := List.nodup_append.1 h
  obtain ⟨h4, h5, h6⟩ := List.nodup_append.1 h2
  have hX : ∀ q ∈ X, q ∉ P' := fun q hq => (hf.keep q (fun e => h3 q hq q (by simp [e]) rfl) (hu q (by simp [hq]))).1
  have hY : ∀ q ∈ Y, q ∉ P' := fun q hq => (hf.keep q (fun e => h6 q e q hq rfl) (hu q (by simp [hq]))).1
  refine List.nodup_append.2 ⟨h1, List.nodup_append.2 ⟨hn, h5, fun a ha b hb e => ?_⟩, fun a ha b hb e => ?_⟩
  · subst e; exact hY a hb ha
  · subst e
    rcases List.mem_append.1 hb with hb | hb
    · exact hX a ha hb
    · exact h3 a ha a (by simp [hb]) rfl
section
variable {S S' : RS} {h p : Nat} {A B : List (Kid h)} {x : Kid h} {key val : ByteArray}
theorem low_mid (A B : List (Kid h)) (x : Kid h) : low (h + 1) (A ++ x :: B : List (Kid h)) = low (h + 1) A ++ (pgs h x.2.1 x.2.2 ++ low (h + 1) B) := by
  simp [low]
theorem Kids.mid {S : RS} {A B : List (Kid h)} {x : Kid h} (H : Kids S (h + 1) (A ++ x :: B : List (Kid h))) : Kids S (h + 1) A ∧ On S h x.2.1 x.2.2 ∧ Kids S (h + 1) B :=
  ⟨fun y hy => H y (by simp [hy]), H x (by simp), fun y hy => H y (by simp [hy])⟩
theorem Kids.mk {S : RS} {A B : List (Kid h)} {x : Kid h} (h1 : Kids S (h + 1) A) (h2 : On S h x.2.1 x.2.2) (h3 : Kids S (h + 1) B) : Kids S (h + 1) (A ++ x :: B : List (Kid h)) := by
  intro y hy
  rcases List.mem_append.1 hy with hy | hy
  · exact h1 y hy
  · rcases List.mem_cons.1 hy with rfl | hy
    · exact h2
    · exact h3 y hy
/-- What a change below one kid leaves of the other ones. -/
theorem Frm.others {P' : List Nat} (H : Tr S (h + 1) p (A ++ x :: B : List (Kid h))) (hf : Frm (pgs h x.2.1 x.2.2) P' S S') (hn : P'.Nodup) :
    Kids S' (h + 1) A ∧ Kids S' (h + 1) B ∧ (S'.used p = true ∧ S'.cont p = pad (ofL (nd (h + 1) (A ++ x :: B : List (Kid h))).bytes)) ∧ (p :: (low (h + 1) A ++ (P' ++ low (h + 1) B))).Nodup ∧ Frm (pgs (h + 1) p (A ++ x :: B : List (Kid h))) (p :: (low (h + 1) A ++ (P' ++ low (h + 1) B))) S S' := by
  have hN := H.nod
  rw [pgs_low, low_mid] at hN
  obtain ⟨hp, hN2⟩ := List.nodup_cons.1 hN
  obtain ⟨n1, n2, n3⟩ := List.nodup_append.1 hN2
  obtain ⟨n4, n5, n6⟩ := List.nodup_append.1 n2
  obtain ⟨k1, k2, k3⟩ := H.kids.mid
  have hU := H.on.used
  rw [pgs_low, low_mid] at hU
  have kp : ∀ q, q ∉ pgs h x.2.1 x.2.2 → S.used q = true → S'.used q = S.used q ∧ S'.cont q = S.cont q := fun q a b => by
    obtain ⟨c, d, e⟩ := hf.keep q a b
    exact ⟨d.trans b.symm, e⟩
  have hpx : p ∉ pgs h x.2.1 x.2.2 := fun e => hp (by simp [e])
  have hpu := H.on.top
  refine ⟨k1.frame fun q hq => kp q (fun e => n3 q hq q (by simp [e]) rfl) (k1.used q hq), k3.frame fun q hq => kp q (fun e => n6 q e q hq rfl) (k3.used q hq), ⟨(kp p hpx hpu.1).1.trans hpu.1, (kp p hpx hpu.1).2.trans hpu.2⟩, ?_, ?_⟩
  · have := nodup_swap (X := p :: low (h + 1) A) (Y := low (h + 1) B) (P := pgs h x.2.1 x.2.2) (by simpa using hN) hf hn (by simpa using hU)
    simpa using this
  · refine hf.ctx _ _ (p :: (low (h + 1) A ++ low (h + 1) B)) (fun q => ?_) (fun q => ?_)
    · rw [pgs_low, low_mid]
      simp only [List.mem_cons, List.mem_append]
      constructor
      · rintro (a | a | a | a) <;> simp [a]
      · rintro (a | a | a | a) <;> simp [a]
    · simp only [List.mem_cons, List.mem_append]
      constructor
      · rintro (a | a | a | a) <;> simp [a]
      · rintro (a | a | a | a) <;> simp [a]
theorem sing_mid (A B : List (Kid h)) (x : Kid h) : sing (h + 1) (A ++ x :: B : List (Kid h)) = (if A.length + B.length = 0 then 1 else 0) + ((A.map fun x => sing h x.2.2).sum + (sing h x.2.2 + (B.map fun x => sing h x.2.2).sum)) := by
  have e : ((A ++ x :: B).length = 1) ↔ (A.length + B.length = 0) := by rw [List.length_append, List.length_cons]; omega
  simp only [sing, e, List.map_append, List.map_cons, List.sum_append, List.sum_cons]
theorem PutOne.inner {t' : PT h} (H : Tr S (h + 1) p (A ++ x :: B : List (Kid h))) (W : Way key A x B) (K : PutOne S S' h x.2.1 x.2.2 key val t') :
    PutOne S S' (h + 1) p (A ++ x :: B : List (Kid h)) key val (A ++ (x.1, x.2.1, t') :: B : List (Kid h)) := by
  obtain ⟨k1, k3, kp, hn, hf⟩ := K.frm.others H K.tr.nod
  have e : nd (h + 1) (A ++ (x.1, x.2.1, t') :: B : List (Kid h)) = nd (h + 1) (A ++ x :: B : List (Kid h)) := by simp [nd]
  have hx := H.wf.1 x (by simp)
  refine ⟨⟨⟨fun y hy => ?_, H.wf.2.set W x.2.1 t' K.ins.mem⟩, by rw [e]; exact H.pos, by rw [e]; exact H.fit, ⟨by rw [e]; exact kp, Kids.mk k1 K.tr.on k3⟩, by rw [pgs_low, low_mid]; exact hn⟩, ?_, by rw [pgs_low (h + 1) p (A ++ (x.1, x.2.1, t') :: B : List (Kid h)), low_mid]; exact hf, ?_, by rw [e]; exact Nat.le_refl _, fun n c hc => K.spr n c (hc.less (by omega)), by rw [e]; exact Nat.le_succ _, wt_one K.wtU⟩
  · rcases List.mem_append.1 hy with hy | hy
    · exact H.wf.1 y (by simp [hy])
    · rcases List.mem_cons.1 hy with rfl | hy
      · exact ⟨hx.1, hx.2.1, K.tr.pos, K.tr.fit, K.tr.wf⟩
      · exact H.wf.1 y (by simp [hy])
  · obtain ⟨w1, w2⟩ := H.wf.2.way W
    rw [ents_mid, ents_mid]
    exact K.ins.lift _ _ (fun a ha => by obtain ⟨y, hy, he⟩ := (ents_mem h A a).1 ha; exact w1 y hy a he) fun b hb => by obtain ⟨y, hy, he⟩ := (ents_mem h B b).1 hb; exact w2 y hy b he
  · rw [sing_mid, sing_mid]
    have := K.sng
    show _ + (_ + (sing h t' + _)) ≤ _
    omega
theorem size_mid_inner (l1 l2 : List (ByteArray × Nat)) (k : ByteArray) (q : Nat) : (Nd.inner (l1 ++ (k, q) :: l2)).size = (Nd.inner (l1 ++ l2)).size + (5 + k.size) := by
  rw [size_inner, size_inner]; simp [esI]; omega
theorem nd_two (t1 t2 : PT h) (k : ByteArray) (q : Nat) : nd (h + 1) (A ++ (x.1, x.2.1, t1) :: (k, q, t2) :: B : List (Kid h)) = .inner ((A ++ [x]).map (fun x : Kid h => (x.1, x.2.1)) ++ (k, q) :: B.map (fun x : Kid h => (x.1, x.2.1))) := by simp [nd]
theorem nd_of_mid : nd (h + 1) (A ++ x :: B : List (Kid h)) = .inner ((A ++ [x]).map (fun x : Kid h => (x.1, x.2.1)) ++ B.map (fun x : Kid h => (x.1, x.2.1))) := by simp [nd]
theorem Over.inner {t1 t2 : PT h} {k : ByteArray} {q : Nat} (H : Tr S (h + 1) p (A ++ x :: B : List (Kid h))) (W : Way key A x B) (K : PutTwo S S' h x.2.1 x.2.2 key val k q t1 t2) :
    Over S S' (h + 1) p (A ++ x :: B : List (Kid h)) key val (A ++ (x.1, x.2.1, t1) :: (k, q, t2) :: B : List (Kid h)) := by
  obtain ⟨k1, k3, kp, hn, hf⟩ := K.frm.others H K.nod
  have hx := H.wf.1 x (by simp)
  have hlow : low (h + 1) (A ++ (x.1, x.2.1, t1) :: (k, q, t2) :: B : List (Kid h)) = low (h + 1) A ++ ((pgs h x.2.1 t1 ++ pgs h q t2) ++ low (h + 1) B) := by simp [low]
  have hsz := H.fit
  rw [nd_of_mid] at hsz
  refine ⟨⟨fun y hy => ?_, ?_⟩, ?_, ?_, Kids.mk k1 K.tr1.on (fun y hy => ?_), by rw [hlow]; exact hn, kp.1, ?_, by rw [hlow]; exact hf, ?_, ?_, fun n c hc => K.spr n c (hc.less (by omega)), by rw [nd_lenS, nd_lenS]; simp; omega, wt_two K.wtU.1 K.wtU.2.1 K.wtU.2.2⟩
  · rcases List.mem_append.1 hy with hy | hy
    · exact H.wf.1 y (by simp [hy])
    · rcases List.mem_cons.1 hy with rfl | hy
      · exact ⟨hx.1, hx.2.1, K.tr1.pos, K.tr1.fit, K.tr1.wf⟩
      · rcases List.mem_cons.1 hy with rfl | hy
        · exact ⟨K.ksz, K.qlt, K.tr2.pos, K.tr2.fit, K.tr2.wf⟩
        · exact H.wf.1 y (by simp [hy])
  · exact H.wf.2.part W x.2.1 q t1 t2 (fun e he => K.ins.mem e (by simp [he])) (fun e he => K.ins.mem e (by simp [he])) (ents_pos K.tr1.wf K.tr1.pos) K.lo K.hi
  · rw [nd_lenS, List.length_append, List.length_cons]; omega
  · rw [nd_two, size_mid_inner]; have := K.ksz; omega
  · rcases List.mem_cons.1 hy with rfl | hy
    · exact K.tr2.on
    · exact k3 y hy
  · obtain ⟨w1, w2⟩ := H.wf.2.way W
    have e : ents (h + 1) (A ++ (x.1, x.2.1, t1) :: (k, q, t2) :: B : List (Kid h)) = ents (h + 1) A ++ ((ents h t1 ++ ents h t2) ++ ents (h + 1) B) := by simp [ents]
    rw [ents_mid, e]
    exact K.ins.lift _ _ (fun a ha => by obtain ⟨y, hy, he⟩ := (ents_mem h A a).1 ha; exact w1 y hy a he) fun b hb => by obtain ⟨y, hy, he⟩ := (ents_mem h B b).1 hb; exact w2 y hy b he
  · have := K.sng
    rw [sing_mid, sing_mid]
    have e : ¬ (A.length + ((k, q, t2) :: B).length = 0) := by simp
    rw [if_neg e]
    simp only [List.map_cons, List.sum_cons]
    show _ + (_ + (sing h t1 + (sing h t2 + _))) ≤ _
    omega
  · rw [nd_lenS, nd_lenS]; simp
end
section
variable {S S1 : RS} {h p : Nat} {t u : PT h} {key val : ByteArray}
theorem Over.one (H : Over S S1 h p t key val u) (hs : (nd h u).size ≤ 512) : PutOne S (wrS S1 p (nd h u)) h p t key val u := by
  refine ⟨Tr.write H.wf H.pos hs H.kid (by rw [pgs_low]; exact H.nod) H.use, H.ins, ?_, H.sng, H.len, fun n c hc => (H.spr n c hc).write, H.lenU, H.wtU⟩
  rw [pgs_low h p u]
  exact H.frm.trans (Frm.write _ _ _ _ (by simp))
theorem big_len : ∀ {h : Nat} {u : PT h}, Wf h u → 1 ≤ h → 512 < (nd h u).size → 6 ≤ (nd h u).len
  | 0, _, _, h, _ => absurd h (by decide)
  | h + 1, u, H, _, hs => by
    obtain ⟨l, hl⟩ : ∃ l : List (Kid h), l = u := ⟨u, rfl⟩
    subst hl
    have h1 : (List.map esI (List.map (fun x : Kid h => (x.1, x.2.1)) l)).sum ≤ 101 * (List.map (fun x : Kid h => (x.1, x.2.1)) l).length := sum_le esI 101 _ fun x hx => by
      obtain ⟨y, hy, rfl⟩ := List.mem_map.1 hx
      have := (H.1 y hy).1
      show 5 + y.1.size ≤ 101
      omega
    have h2 : 512 < 3 + (List.map esI (List.map (fun x : Kid h => (x.1, x.2.1)) l)).sum := by
      rw [← size_inner]; exact hs
    rw [nd_lenS]
    rw [List.length_map] at h1
    omega
theorem Over.ok (H : Over S S1 h p t key val u) : (nd h u).Ok := H.wf.ok H.pos (Nat.le_trans H.siz (by decide))
theorem Over.cut (H : Over S S1 h p t key val u) (hs : 512 < (nd h u).size) {i : Nat} (hc : CutAt (nd h u) i) : 0 < i ∧ i < (nd h u).len ∧ ((nd h u).take i).size ≤ 512 ∧ ((nd h u).drop i).size ≤ 512 ∧ ((nd h u).isLeaf = false → 2 ≤ ((nd h u).take i).len ∧ 2 ≤ ((nd h u).drop i).len) :=
  hc.fit H.ok.key H.ok.val hs H.siz
theorem len_take (d : Nd) (i : Nat) (hi : i ≤ d.len) : (d.take i).len = i ∧ (d.drop i).len = d.len - i := by
  cases d with
  | leaf l => simp [Nd.take, Nd.drop, Nd.len, Nd.keys] at *; omega
  | inner l => simp [Nd.take, Nd.drop, Nd.len, Nd.keys] at *; omega
theorem Over.two (H : Over S S1 h p t key val u) (hs : 512 < (nd h u).size) {i : Nat} (hc : CutAt (nd h u) i) {q : Nat} (hq : S1.used q = false) (hq2 : q < 65536) :
    PutTwo S (wrS (allocS (wrS S1 p (nd h (tk h i u))) q) q (nd h (dr h i u))) h p t key val ((nd h (dr h i u)).keys.getD 0 ByteArray.empty) q (tk h i u) (dr h i u) := by
  obtain ⟨h0, h1, h2, h3, h4⟩ := H.cut hs hc
  obtain ⟨e1, e2⟩ := len_take (nd h u) i (by omega)
  obtain ⟨w1, w2⟩ := H.wf.cut i
  obtain ⟨k1, k2⟩ := H.kid.cut i
  have hlow := low_cut h i u
  have hN := H.nod
  rw [← hlow] at hN
  obtain ⟨n1, n2⟩ := List.nodup_cons.1 hN
  obtain ⟨n3, n4, n5⟩ := List.nodup_append.1 n2
  have hpq : p ≠ q := fun e => by have := H.use; rw [e, hq] at this; cases this
  have hql : q ∉ low h u := fun e => by have := H.kid.used q e; rw [hq] at this; cases this
  rw [← hlow] at hql
  have T1 : Tr (wrS S1 p (nd h (tk h i u))) h p (tk h i u) := Tr.write w1 (by rw [nd_tk, e1]; exact h0) (by rw [nd_tk]; exact h2) k1 (by rw [pgs_low]; exact List.nodup_cons.2 ⟨fun e => n1 (by simp [e]), n3⟩) H.use
  have hu2 : (wrS S1 p (nd h (tk h i u))).used q = false := hq
  have k2' : Kids (wrS S1 p (nd h (tk h i u))) h (dr h i u) := k2.frame fun r hr => ⟨rfl, by
    have : r ≠ p := fun e => n1 (by rw [← e]; simp [hr])
    show (if r = p then _ else _) = _
    rw [if_neg this]⟩
  have T2 := Tr.fresh w2 (by rw [nd_dr, e2]; omega) (by rw [nd_dr]; exact h3) k2' n4 hu2
  have f1 := H.frm.trans (Frm.write (p :: low h u) S1 p (nd h (tk h i u)) (by simp))
  have f2 := f1.trans (Frm.alloc (p :: low h u) _ q hu2)
  have f3 := f2.trans (Frm.write (q :: p :: low h u) _ q (nd h (dr h i u)) (by simp))
  obtain ⟨g1, g2, g3⟩ := H.wf.first i h0 (by rw [nd_dr, e2]; omega)
  have hmem : ∀ r, r ∈ pgs h p (tk h i u) ++ pgs h q (dr h i u) ↔ r ∈ q :: p :: low h u := fun r => by
    rw [pgs_low, pgs_low, ← hlow]
    simp only [List.mem_append, List.mem_cons]
    constructor
    · rintro ((a | a) | (a | a)) <;> simp [a]
    · rintro (a | a | a | a) <;> simp [a]
  refine ⟨T1.frame fun r hr => ?_, T2, by rw [ents_cut]; exact H.ins, ?_, ?_, hq2, g3, g1, g2, ?_, fun n c hc' => ?_, fun hh => ?_, fun hh => ?_, ?_⟩
  · have hr' : r ≠ q := fun e => by
      rw [pgs_low] at hr
      rcases List.mem_cons.1 hr with e' | e'
      · exact hpq (by rw [← e', e])
      · exact hql (by rw [← e]; simp [e'])
    refine ⟨?_, ?_⟩
    · show flip _ q r = _
      unfold flip; rw [if_neg hr']
    · show (if r = q then _ else if r = q then _ else _) = _
      rw [if_neg hr', if_neg hr']
  · exact ⟨fun r a b => by obtain ⟨x, y, z⟩ := f3.keep r a b; exact ⟨fun e => x ((hmem r).1 e), y, z⟩, fun r a => (f3.back r a).imp (fun e => (hmem r).2 e) id, f3.root, f3.base⟩
  · rw [pgs_low, pgs_low]
    refine List.nodup_append.2 ⟨List.nodup_cons.2 ⟨fun e => n1 (by simp [e]), n3⟩, List.nodup_cons.2 ⟨fun e => hql (by simp [e]), n4⟩, fun a ha b hb e => ?_⟩
    subst e
    rcases List.mem_cons.1 ha with rfl | ha
    · rcases List.mem_cons.1 hb with e | hb
      · exact hpq e
      · exact n1 (by simp [hb])
    · rcases List.mem_cons.1 hb with rfl | hb
      · exact hql (by simp [ha])
      · exact n5 a ha a hb rfl
  · refine Nat.le_trans ?_ H.sng
    cases h with
    | zero => simp [sing]
    | succ h =>
      obtain ⟨a, b⟩ := h4 rfl
      exact sing_cut (h + 1) i u (by rw [nd_tk]; exact a) (by rw [nd_dr]; exact b)
  · exact ((H.spr n (c + 1) (hc'.less (by omega))).write.alloc hu2).write
  · have := H.lenU
    have := big_len H.wf hh hs
    omega
  · have := big_len H.wf hh hs
    rw [nd_tk, nd_dr, e1, e2]
    omega
  · refine ⟨by rw [wt_cut]; exact H.wtU, wt_many _ ⟨fun _ => by rw [nd_tk, e1]; omega, fun hh => ?_⟩, wt_many _ ⟨fun _ => by rw [nd_dr, e2]; omega, fun hh => ?_⟩⟩
    · rw [nd_tk]
      cases h with
      | zero => omega
      | succ h => exact (h4 rfl).1
    · rw [nd_dr]
      cases h with
      | zero => omega
      | succ h => exact (h4 rfl).2
end
theorem Over.leaf {S : RS} {p : Nat} {A B : List (ByteArray × ByteArray)} {t : List (ByteArray × ByteArray)} {key val : ByteArray} (H : Tr S 0 p t) (ht : t = A ++ B ∨ ∃ v, t = A ++ (key, v) :: B) (hA : ∀ a ∈ A, kless a.1 key = true) (hB : ∀ b ∈ B, kless key b.1 = true) (hk : key.size ≤ 96) (hv : val.size ≤ 56) :
    Over S S 0 p t key val (A ++ (key, val) :: B) := by
  have hsrt : Srt (A ++ B) := by
    rcases ht with rfl | ⟨v, rfl⟩
    · exact H.wf.2
    · exact (srt_of H.wf.2).1
  have hmem : ∀ e ∈ A ++ B, e.1.size ≤ 96 ∧ e.2.size ≤ 56 := fun e he => by
    rcases ht with rfl | ⟨v, rfl⟩
    · exact H.wf.1 e he
    · exact H.wf.1 e (by rcases List.mem_append.1 he with h | h <;> simp [h])
  have hsz : (Nd.leaf (A ++ B)).size ≤ 512 := by
    have := H.fit
    rcases ht with rfl | ⟨v, rfl⟩
    · exact this
    · rw [nd_leaf, size_leaf] at this
      rw [size_leaf]
      simp at this ⊢; omega
  refine ⟨⟨fun e he => ?_, srt_mid hsrt hA hB⟩, by rw [nd_len0, List.length_append, List.length_cons]; omega, ?_, trivial, by simp [low], H.on.1, ⟨A, B, rfl, ht, hA, hB⟩, Frm.refl _ _, by simp [sing], ?_, fun n c hc => hc, by rw [nd_len0, nd_len0]; rcases ht with rfl | ⟨v, rfl⟩ <;> simp <;> omega, by rw [wt_zero, wt_zero]; rcases ht with rfl | ⟨v, rfl⟩ <;> simp <;> omega⟩
  · rcases List.mem_append.1 he with he | he
    · exact hmem e (by simp [he])
    · rcases List.mem_cons.1 he with rfl | he
      · exact ⟨hk, hv⟩
      · exact hmem e (by simp [he])
  · rw [nd_leaf, size_leaf]
    rw [size_leaf] at hsz
    simp [esL] at hsz ⊢; omega
  · rw [nd_len0, nd_len0]
    rcases ht with rfl | ⟨v, rfl⟩ <;> simp
end Go.Proofs.YtdcjhpafipbpkaaGreatDoor
namespace Go.Proofs.YtdcjhpafipbpkaaGreatDoor
set_option linter.unusedVariables false
set_option maxRecDepth 100000
set_option maxHeartbeats 1000000
open Go.RowKit
theorem RmS.frame {w w' : World} {G F : Nat → Prop} {rb n m : Nat} {S : RS} (h : RmS w G rb n m S) (hu : Upd F w w') (hn : ∀ k, G k → ¬ F k) : RmS w' G rb n m S := by
  obtain ⟨puts, a, b, c⟩ := h; exact ⟨puts, a, b.frame hu hn, c⟩
structure TBase (w0 W : World) (G0 G : Nat → Prop) (tb rb place n m : Nat) (S : RS) : Prop where
  room : RmS W G rb n m S
  up : Upd G0 w0 W
  sub : ∀ k, G k → G0 k ∨ w0.heap.size ≤ k
  blk : TB W tb rb place
  gt : ¬ G tb
  tl : tb < w0.heap.size
section
variable {w0 W W' : World} {G0 G G' : Nat → Prop} {tb rb place n m m' : Nat} {S S' : RS}
theorem TBase.start (h : RmS w0 G rb n m S) (ht : TB w0 tb rb place) (hg : ¬ G tb) : TBase w0 w0 G G tb rb place n m S := ⟨h, Upd.refl _ _, fun _ e => .inl e, ht, hg, lt_of_heap ht⟩
theorem TBase.below (h : TBase w0 W G0 G tb rb place n m S) (hb : Below W.heap.size W W') : TBase w0 W' G0 G tb rb place n m S :=
  ⟨h.room.below hb, h.up.trans' (hb.upd' (Nat.le_refl _)) (fun _ _ e => False.elim e), h.sub, h.blk.below hb, h.gt, h.tl⟩
theorem TBase.step (h : TBase w0 W G0 G tb rb place n m S) (hg : StGo W W' G rb n m' S') : ∃ G', TBase w0 W' G0 G' tb rb place n m' S' ∧ Turn G G' W W' := by
  obtain ⟨G', a, b⟩ := hg
  have hs := h.up.size
  have htW := lt_of_heap h.blk
  refine ⟨G', ⟨a, h.up.trans' b.upd fun j hj e => (h.sub j e).resolve_right (by omega), fun k hk => ?_, h.blk.upd b.upd h.gt, fun e => ?_, h.tl⟩, b⟩
  · rcases b.sub k hk with e | e
    · exact h.sub k e
    · exact .inr (by omega)
  · rcases b.sub tb e with e | e
    · exact h.gt e
    · omega
theorem TBase.node (h : TBase w0 W G0 G tb rb place n m S) {F : Nat → Prop} (hu : Upd F W W') (hF : ∀ k, F k → w0.heap.size ≤ k ∧ ¬ G k) : TBase w0 W' G0 G tb rb place n m S :=
  ⟨h.room.frame hu fun k hk e => (hF k e).2 hk, h.up.trans' hu fun j hj e => absurd (hF j e).1 (by omega), h.sub, h.blk.upd hu fun e => by have := (hF tb e).1; have := h.tl; omega, h.gt, h.tl⟩
theorem TBase.go (h : TBase w0 W G0 G tb rb place n m S) : StGo w0 W G0 rb n m S := ⟨G, h.room, h.up, h.sub⟩
/-- A node of the call's own. -/
def Nod (w0 W : World) (G : Nat → Prop) (q : Nat) (d : Nd) : Prop := ∃ F, IsNd W F q d ∧ ∀ k, F k → w0.heap.size ≤ k ∧ ¬ G k
/-- .. that is only read. -/
def RdN (w0 W : World) (G : Nat → Prop) (q : Nat) (d : Nd) : Prop := ∃ F, RdIn W q d F ∧ ∀ k, F k → w0.heap.size ≤ k ∧ ¬ G k
theorem IsNd.rdIn {W : World} {F : Nat → Prop} {q : Nat} {d : Nd} (h : IsNd W F q d) : RdIn W q d F := by
  obtain ⟨vk, vv, vi, a⟩ := h
  exact ⟨vk, vv, vi, a.read, fun k hk => ⟨a.lt k ((a.own k).2 hk), (a.own k).2 hk⟩⟩
variable {q : Nat} {d : Nd}
theorem Nod.rd (h : Nod w0 W G q d) : RdN w0 W G q d := by
  obtain ⟨F, a, b⟩ := h; exact ⟨F, a.rdIn, b⟩
theorem Nod.start {F : Nat → Prop} (h : IsNd W F q d) (hF : ∀ k, F k → w0.heap.size ≤ k) (hG : ∀ k, G k → k < w0.heap.size) : Nod w0 W G q d := ⟨F, h, fun k hk => ⟨hF k hk, fun e => by have := hF k hk; have := hG k e; omega⟩⟩
theorem Nod.below (h : Nod w0 W G q d) (hb : Below W.heap.size W W') : Nod w0 W' G q d := by
  obtain ⟨F, a, b⟩ := h; exact ⟨F, a.below hb (Nat.le_refl _), b⟩
theorem Nod.turn (h : Nod w0 W G q d) (ht : Turn G G' W W') : Nod w0 W' G' q d := by
  obtain ⟨F, a, b⟩ := h
  refine ⟨F, a.upd ht.upd fun k hk => (b k hk).2, fun k hk => ⟨(b k hk).1, fun e => ?_⟩⟩
  rcases ht.sub k e with e | e
  · exact (b k hk).2 e
  · have := a.lt k hk; omega
theorem Nod.go {d' : Nd} {F : Nat → Prop} (hF : ∀ k, F k → w0.heap.size ≤ k ∧ ¬ G k) (hg : NdGo W W' F q d') (hG : ∀ k, G k → k < W.heap.size) (hs : w0.heap.size ≤ W.heap.size) : Nod w0 W' G q d' := by
  obtain ⟨F', a, b, c⟩ := hg
  refine ⟨F', a, fun k hk => ?_⟩
  rcases b k hk with e | e
  · exact hF k e
  · exact ⟨by omega, fun e' => by have := hG k e'; omega⟩
theorem RdN.below (h : RdN w0 W G q d) (hb : Below W.heap.size W W') : RdN w0 W' G q d := by
  obtain ⟨F, a, b⟩ := h; exact ⟨F, a.upd (hb.upd' (Nat.le_refl _)) fun k _ _ e => e, b⟩
theorem RdN.turn (h : RdN w0 W G q d) (ht : Turn G G' W W') : RdN w0 W' G' q d := by
  obtain ⟨F, a, b⟩ := h
  have a' := a.upd ht.upd fun k hk _ => (b k hk).2
  obtain ⟨vk, vv, vi, x, y⟩ := a
  obtain ⟨vk', vv', vi', x', y'⟩ := a'
  refine ⟨fun k => F k ∧ k < W.heap.size, ⟨vk, vv, vi, ?_, fun k hk => ⟨Nat.lt_of_lt_of_le (y k hk).1 ht.upd.size, (y k hk).2, (y k hk).1⟩⟩, fun k hk => ⟨(b k hk.1).1, fun e => ?_⟩⟩
  · have c := x.oth.upd ht.upd fun k hk => ⟨(y k hk).1, (b k (y k hk).2).2⟩
    exact ⟨c.blk, c.ks, c.vs, c.is⟩
  · rcases ht.sub k e with e | e
    · exact (b k hk.1).2 e
    · have := hk.2; omega
theorem RdN.view (h : RdN w0 W G q d) : ∃ vk vv vi, NdV W q d vk vv vi := by
  obtain ⟨F, ⟨vk, vv, vi, a, -⟩, -⟩ := h; exact ⟨vk, vv, vi, a⟩
end
/-! ### the node's functions, on nodes -/
theorem size_nd (q : Nat) (d : Nd) (vk vv vi : Value) (w : World) (h : NdV w q d vk vv vi) (hd : d.Ok) :
    Calls Tryz.prog 178 #[.pointer (some ⟨q, 0, none⟩)] w fun e w' => e = .returned (.int .i64 (d.size : Nat)) ∧ w' = w :=
  size_c q d.isLeaf d.keys d.vals vk vv vi (0, 0) w h.blk h.ks hd.pos (fun e => ⟨h.vs, d.vals_len e⟩) hd.key hd.val (Nat.le_of_lt hd.few)
theorem split_nd (F : Nat → Prop) (q : Nat) (d : Nd) (w : World) (h : IsNd w F q d) (hd : d.Ok) (h1 : 512 < d.size) (h2 : d.size ≤ 666) :
    Calls Tryz.prog 179 #[.pointer (some ⟨q, 0, none⟩)] w fun e w' => ∃ q1, e = .returned (.pointer (some ⟨q1, 0, none⟩)) ∧ Hid (∃ i, CutAt d i ∧ RdIn w' q (d.take i) F ∧ RdIn w' q1 (d.drop i) (fun k => w.heap.size ≤ k) ∧ Upd F w w') := by
  obtain ⟨vk, vv, vi, h⟩ := h
  have hcut : ∀ i, i ≤ d.len → d.size / 2 ≤ szUp d.isLeaf d.keys d.vals i → (0 < i → szUp d.isLeaf d.keys d.vals (i - 1) < d.size / 2) → CutAt d i ∧ 0 < i ∧ i < d.len := fun i a b c => by
    have hc : CutAt d i := ⟨a, b, c⟩
    have := hc.fit hd.key hd.val h1 h2
    exact ⟨hc, this.1, this.2.1⟩
  cases d with
  | leaf l =>
    refine (split_leaf q (l.map Prod.fst) (l.map Prod.snd) vk vv vi w h.parts (by simp) hd.key hd.val (Nat.le_of_lt hd.few) (fun i a b c => (hcut i a b c).2) hd.pos).mono ?_
    rintro e w' ⟨q1, rfl, i, g, cap, g2, cap2, b1, b2, b3, c0, c1, c2, c3, rfl, rfl, sp⟩
    refine ⟨q1, rfl, i, (hcut i (Nat.le_of_lt c1) c2 fun _ => c3).1, ?_, ?_, sp.up.mono fun k _ e => (h.own k).2 (.inl e)⟩
    · have hl1 : ∀ k, (Value.slice (some (⟨g, 0, none⟩ : Addr)) (l.map Prod.fst).length cap).ownBlock = some k → k < w.heap.size ∧ ¬ k = q := fun k hk => ⟨(h.ks.lt k hk).2, fun e => h.pk (by rw [← e]; exact hk)⟩
      have hl2 : ∀ k, (Value.slice (some (⟨g2, 0, none⟩ : Addr)) (l.map Prod.fst).length cap2).ownBlock = some k → k < w.heap.size ∧ ¬ k = q := fun k hk => ⟨(h.vs.lt k hk).2, fun e => h.pv (by rw [← e]; exact hk)⟩
      have hl3 : ∀ k, vi.ownBlock = some k → k < w.heap.size ∧ ¬ k = q := fun k hk => ⟨(h.is.lt k hk).2, fun e => h.pi (by rw [← e]; exact hk)⟩
      have r1 := ((RRow.of_own h.ks).kept fun k hk => sp.up.block k (hl1 k hk).1 (hl1 k hk).2).take (i := i) (by simp [Nd.keys]) c1
      have r2 := ((RRow.of_own h.vs).kept fun k hk => sp.up.block k (hl2 k hk).1 (hl2 k hk).2).take (i := i) (by simp [Nd.vals]) c1
      have r3 := (RRow.of_own h.is).kept fun k hk => sp.up.block k (hl3 k hk).1 (hl3 k hk).2
      refine ⟨_, _, _, ⟨sp.bp, ?_, ?_, ?_⟩, fun k hk => ?_⟩
      · simpa [Nd.keys, Nd.take, List.map_take] using r1
      · simpa [Nd.vals, Nd.take, List.map_take] using r2
      · exact r3
      · have hs := sp.up.size
        rcases hk with e | e | e | e
        · exact ⟨by rw [e]; exact lt_of_heap sp.bp, (h.own k).2 (.inl e)⟩
        · exact ⟨Nat.lt_of_lt_of_le (hl1 k e).1 hs, (h.own k).2 (.inr (.inl e))⟩
        · exact ⟨Nat.lt_of_lt_of_le (hl2 k e).1 hs, (h.own k).2 (.inr (.inr (.inl e)))⟩
        · exact ⟨Nat.lt_of_lt_of_le (hl3 k e).1 hs, (h.own k).2 (.inr (.inr (.inr e)))⟩
    · refine ⟨_, _, _, ⟨sp.rq.blk, ?_, ?_, ?_⟩, fun k hk => ⟨sp.rq.lt k hk, sp.nw k hk⟩⟩
      · simpa [Nd.keys, Nd.drop, List.map_drop] using RRow.of_own sp.rq.ks
      · simpa [Nd.vals, Nd.drop, List.map_drop] using RRow.of_own sp.rq.vs
      · exact RRow.of_own sp.rq.is
  | inner l =>
    refine (split_inner q (l.map Prod.fst) (l.map Prod.snd) vk vv vi w h.parts (by simp) hd.key (Nat.le_of_lt hd.few) (fun i a b c => (hcut i a b c).2) hd.pos).mono ?_
    rintro e w' ⟨q1, rfl, i, g, cap, g2, cap2, b1, b2, b3, c0, c1, c2, c3, rfl, rfl, sp⟩
    refine ⟨q1, rfl, i, (hcut i (Nat.le_of_lt c1) c2 fun _ => c3).1, ?_, ?_, sp.up.mono fun k _ e => (h.own k).2 (.inl e)⟩
    · have hl1 : ∀ k, (Value.slice (some (⟨g, 0, none⟩ : Addr)) (l.map Prod.fst).length cap).ownBlock = some k → k < w.heap.size ∧ ¬ k = q := fun k hk => ⟨(h.ks.lt k hk).2, fun e => h.pk (by rw [← e]; exact hk)⟩
      have hl2 : ∀ k, vv.ownBlock = some k → k < w.heap.size ∧ ¬ k = q := fun k hk => ⟨(h.vs.lt k hk).2, fun e => h.pv (by rw [← e]; exact hk)⟩
      have hl3 : ∀ k, (Value.slice (some (⟨g2, 0, none⟩ : Addr)) (l.map Prod.fst).length cap2).ownBlock = some k → k < w.heap.size ∧ ¬ k = q := fun k hk => ⟨(h.is.lt k hk).2, fun e => h.pi (by rw [← e]; exact hk)⟩
      have r1 := ((RRow.of_own h.ks).kept fun k hk => sp.up.block k (hl1 k hk).1 (hl1 k hk).2).take (i := i) (by simp [Nd.keys]) c1
      have r2 := (RRow.of_own h.vs).kept fun k hk => sp.up.block k (hl2 k hk).1 (hl2 k hk).2
      have r3 := ((RRow.of_own h.is).kept fun k hk => sp.up.block k (hl3 k hk).1 (hl3 k hk).2).take (i := i) (by simp [Nd.kids]) c1
      refine ⟨_, _, _, ⟨sp.bp, ?_, ?_, ?_⟩, fun k hk => ?_⟩
      · simpa [Nd.keys, Nd.take, List.map_take] using r1
      · exact r2
      · simpa [Nd.kids, Nd.take, List.map_take] using r3
      · have hs := sp.up.size
        rcases hk with e | e | e | e
        · exact ⟨by rw [e]; exact lt_of_heap sp.bp, (h.own k).2 (.inl e)⟩
        · exact ⟨Nat.lt_of_lt_of_le (hl1 k e).1 hs, (h.own k).2 (.inr (.inl e))⟩
        · exact ⟨Nat.lt_of_lt_of_le (hl2 k e).1 hs, (h.own k).2 (.inr (.inr (.inl e)))⟩
        · exact ⟨Nat.lt_of_lt_of_le (hl3 k e).1 hs, (h.own k).2 (.inr (.inr (.inr e)))⟩
    · refine ⟨_, _, _, ⟨sp.rq.blk, ?_, ?_, ?_⟩, fun k hk => ⟨sp.rq.lt k hk, sp.nw k hk⟩⟩
      · simpa [Nd.keys, Nd.drop, List.map_drop] using RRow.of_own sp.rq.ks
      · exact RRow.of_own sp.rq.vs
      · have := RRow.of_own sp.rq.is
        simp only [Nd.kids, Nd.drop, List.map_drop] at this ⊢
        exact this
end Go.Proofs.YtdcjhpafipbpkaaGreatDoor
