/- pack.Write: the walk. -/
import Derived.Test.YtoblhikablbapaaDoorPackC
namespace Go.Proofs.YtoblhikablbapaaDoor
set_option linter.unusedVariables false
open Go.RowKit

/-- One field's bytes. -/
def wr1 (k : UInt8) (f : Fld) : Option (List UInt8) :=
  if kindB k = true ∧ k ≠ 116 then (if f.2.size ≠ 0 ∨ 256 ^ (widthB k.toNat).toNat ≤ f.1 then none else some (be f.1 (widthB k.toNat).toNat))
  else if f.1 ≠ 0 then none
  else if k = 116 then (if 65535 < f.2.size then none else some (be f.2.size 2 ++ f.2.data.toList))
  else some f.2.data.toList
/-- A record's bytes. -/
def wrL : List UInt8 → List Fld → Option (List UInt8)
  | k :: ks, f :: fs => match wr1 k f with
    | none => none
    | some a => (wrL ks fs).map (a ++ ·)
  | _, _ => some []
theorem wrL_step {ks : List UInt8} {fs : List Fld} {k : Nat} {acc : List UInt8} (h1 : k < ks.length) (h2 : k < fs.length) (h : wrL ks fs = (wrL (ks.drop k) (fs.drop k)).map (acc ++ ·)) :
    (wr1 ks[k] fs[k] = none → wrL ks fs = none) ∧ (∀ a, wr1 ks[k] fs[k] = some a → wrL ks fs = (wrL (ks.drop (k + 1)) (fs.drop (k + 1))).map ((acc ++ a) ++ ·)) := by
  have e : wrL (ks[k] :: ks.drop (k + 1)) (fs[k] :: fs.drop (k + 1)) = (match wr1 ks[k] fs[k] with | none => none | some a => (wrL (ks.drop (k + 1)) (fs.drop (k + 1))).map (a ++ ·)) := rfl
  rw [List.drop_eq_getElem_cons h1, List.drop_eq_getElem_cons h2, e] at h
  constructor
  · intro hn; rw [hn] at h; exact h
  · intro a ha
    rw [ha] at h
    rw [h]
    cases wrL (ks.drop (k + 1)) (fs.drop (k + 1)) <;> simp
theorem Bld.kept {B b : Nat} {l : List UInt8} {w w' : World} (h : Bld B b l w) (hk : ∀ j, j < w.heap.size → w'.heap[j]? = w.heap[j]?) : Bld B b l w' := by
  have one : ∀ p, Lib.BuilderAtF 64 5 B b p (Lib.byteCells l) w → Lib.BuilderAtF 64 5 B b p (Lib.byteCells l) w' := by
    rintro p ⟨hB, v, hb, ⟨h1, h2⟩, hne⟩
    refine ⟨hB, v, (hk b (lt_of_heap hb)).trans hb, ⟨h1, ?_⟩, hne⟩
    rcases h2 with h2 | ⟨g, cap, cur, fz, rfl, hg, hh, r⟩
    · exact .inl h2
    · exact .inr ⟨g, cap, cur, fz, rfl, hg, (hk g (lt_of_heap hh)).trans hh, r⟩
  exact h.elim (fun x => .inl (one _ x)) (fun x => .inr (one _ x))
theorem Bld.alloc {B b : Nat} {l : List UInt8} {w : World} (h : Bld B b l w) (o : Obj) : Bld B b l (w.alloc o) := h.kept (fun j hj => heap_alloc_lt o hj)
theorem wstr_c (B b : Nat) (l : List UInt8) (S : ByteArray) (w : World) (h : Bld B b l w) (hB : B ≤ w.heap.size) (hl : l.length + S.size ≤ 100000000000) :
    Calls Tryd.prog 55 #[.pointer (some ⟨b, 0, none⟩), .string S] w fun e w' => e = .returned (.tuple #[.int .i64 S.size, .nilIface]) ∧ (Bld B b (l ++ S.data.toList) w' ∧ Below B w w') := by
  refine (Tryd.Builder_WriteString_k B b (Lib.byteCells l) S w h (by rw [byteCells_length]; omega) hB).mono ?_
  rintro e w' ⟨rfl, h1, h2, h3⟩
  refine ⟨rfl, ?_, h2⟩
  have e : Lib.byteCells l ++ Lib.strCells S = Lib.byteCells (l ++ S.data.toList) := by rw [Lib.strCells_eq]; simp [Lib.byteCells]
  rw [e] at h1
  exact Bld.of h1
theorem kept_lit {e : TypeId} {b k : Nat} {w w' : World} (h : Lib.OthersKept e (some b) w w') {i : Nat} {v : Value} {c : Array Value} {ty : TypeId} {fz : Nat × Nat} (ho : w.heap[k]? = some (.cells c ty fz)) (hb : k ≠ b) (hty : ty ≠ e) (hv : c[i]? = some v) : w'.cell? ⟨k, i, none⟩ = some v :=
  cell_lit (h _ _ ho (by simpa using hb) (by rintro c fz h; cases h; exact hty rfl)) hv
theorem Bld.lt {B b : Nat} {l : List UInt8} {w : World} (h : Bld B b l w) : b < w.heap.size :=
  h.elim (fun x => lt_of_heap x.2.choose_spec.1) (fun x => lt_of_heap x.2.choose_spec.1)
def WrRel (w : World) (ks : List UInt8) (fs : List Fld) (g : Nat) (s22 : Value) (wr : World) : Prop :=
  ∃ k acc, g = fs.length - k ∧ k ≤ fs.length ∧ s22 = .int .i64 k ∧ Bld w.heap.size w.heap.size acc wr ∧ acc.length ≤ k * 1000010 ∧ Below w.heap.size w wr ∧ wrL ks fs = (wrL (ks.drop k) (fs.drop k)).map (acc ++ ·)
def WrOut (l : Option (List UInt8)) : Value := match l with
  | none => .tuple #[.string ⟨#[]⟩, .bool false]
  | some s => .tuple #[.string ⟨s.toArray⟩, .bool true]
theorem toList_nil (S : ByteArray) : S.toList = [] ↔ S.size = 0 := by
  rw [Lib.toList_data, Lib.size_eq]
  exact List.length_eq_zero_iff.symm
theorem wr1_num (c : UInt8) (wd : Nat) (n : Nat) (S : ByteArray) (h : (kindB c && c != 116) = true) (hw : (widthB c.toNat).toNat = wd) :
    wr1 c (n, S) = if S.size ≠ 0 ∨ 256 ^ wd ≤ n then none else some (be n wd) := by
  have h1 : kindB c = true ∧ c ≠ 116 := by simpa using h
  unfold wr1
  rw [if_pos h1, hw]
theorem width_other (c : UInt8) (h1 : c ≠ 110) (h2 : c ≠ 104) (h3 : c ≠ 98) : widthB c.toNat = 0 := by
  have f : ∀ n : Nat, n < 256 → c ≠ UInt8.ofNat n → ¬ ((c.toNat : Int) = n) := by
    intro n hn h e
    exact h (by rw [← Int.ofNat_inj.1 e, UInt8.ofNat_toNat])
  unfold widthB
  exact (if_neg (f 110 (by decide) h1)).trans ((if_neg (f 104 (by decide) h2)).trans (if_neg (f 98 (by decide) h3)))
theorem kind_other (c : UInt8) (h1 : c ≠ 110) (h2 : c ≠ 104) (h3 : c ≠ 98) : (kindB c && c != 116) = false := by
  unfold kindB
  by_cases h : c = 116 <;> simp [h1, h2, h3, h]
theorem wr1_txt (c : UInt8) (n : Nat) (S : ByteArray) (h : (kindB c && c != 116) = false) : wr1 c (n, S) = if n ≠ 0 then none else if c = 116 then (if 65535 < S.size then none else some (be S.size 2 ++ S.data.toList)) else some S.data.toList := by
  have h1 : ¬ (kindB c = true ∧ c ≠ 116) := by intro ⟨a, b⟩; simp [a, b] at h
  unfold wr1
  rw [if_neg h1]
theorem wr1_txt_no (c : UInt8) (n : Nat) (S : ByteArray) (h : (kindB c && c != 116) = false) (hn : ¬ n = 0) : wr1 c (n, S) = none := by
  rw [wr1_txt c n S h, if_pos hn]
theorem wr1_t_no (n : Nat) (S : ByteArray) (hn : n = 0) (hz : 65535 < S.size) : wr1 116 (n, S) = none := by
  rw [wr1_txt _ n S rfl, if_neg (by simp [hn]), if_pos rfl, if_pos hz]
theorem wr1_t (n : Nat) (S : ByteArray) (hn : n = 0) (hz : ¬ 65535 < S.size) : wr1 116 (n, S) = some (be S.size 2 ++ S.data.toList) := by
  rw [wr1_txt _ n S rfl, if_neg (by simp [hn]), if_pos rfl, if_neg hz]
theorem wr1_r (c : UInt8) (n : Nat) (S : ByteArray) (h : (kindB c && c != 116) = false) (h2 : ¬ c = 116) (hn : n = 0) : wr1 c (n, S) = some S.data.toList := by
  rw [wr1_txt _ n S h, if_neg (by simp [hn]), if_neg h2]
theorem wr_no {a b c : Nat} (h : a = 0) (h2 : c < b) : ¬ (a ≠ 0 ∨ b ≤ c) := by omega
theorem wrOut_none {l : Option (List UInt8)} (h : l = none) : WrOut l = .tuple #[.string ⟨#[]⟩, .bool false] := by rw [h]; rfl
theorem wr_next {w wr : World} {ks : List UInt8} {fs : List Fld} {k : Nat} {acc' : List UInt8} (hlt : k < fs.length) (h1 : Bld w.heap.size w.heap.size acc' wr) (h2 : acc'.length ≤ (k + 1) * 1000010) (h3 : Below w.heap.size w wr)
    (h4 : wrL ks fs = (wrL (ks.drop (k + 1)) (fs.drop (k + 1))).map (acc' ++ ·)) : WrRel w ks fs (fs.length - (k + 1)) (.int .i64 (k + 1)) wr :=
  ⟨k + 1, acc', rfl, by omega, by simp, h1, h2, h3, h4⟩
set_option maxRecDepth 100000 in
set_option maxHeartbeats 4000000 in
theorem Write_in (s : ByteArray) (v : Value) (fs : List Fld) (w : World) (hs : s.size ≤ 1000) (hv : FldsAt w v fs) (hr : rightL s.data.toList = true) (hl : s.size = fs.length) (hz : ∀ p ∈ fs, p.2.size ≤ 1000000) :
    Calls Tryd.prog 15 #[.string s, v] w fun e w' => e = .returned (WrOut (wrL s.data.toList fs)) ∧ Below w.heap.size w w' := by
  have HV := Lib.hid hv
  obtain ⟨a, cap, rfl⟩ := hv.form
  have rc := Right_c s w (by omega)
  rw [hr] at rc
  have HZ := Lib.hid hz
  have HL := Lib.hid hl
  have q1 : ((s.size : Int) == (fs.length : Int)) = true := by simp; omega
  have q2 : ((s.size : Int) != (fs.length : Int)) = false := by simp; omega
  clear hv hr hz hl
  go_enter Tryd.func15, Tryd.ntmps15
  go_wp2_with fail
  refine rc.mono ?_
  rintro e w0 ⟨rfl, hb0⟩
  have HV0 := Lib.hid ((HV.out).below hb0)
  have HB0 := Lib.hid hb0
  clear rc hb0
  have R0 := Lib.hid (show WrRel w0 s.data.toList fs fs.length (.int .i64 0) (w0.alloc (.cells #[.pointer none, .slice none 0 0] 64)) from
    ⟨0, [], by omega, Nat.zero_le _, rfl, bld_new w0, by simp, (Below.refl _ _).alloc (Nat.le_refl _) _, by simp⟩)
  go_wp2_with fail
  go_loopg [22] fs.length (fun g s22 wr => WrRel w0 s.data.toList fs g s22 wr)
  case atStart => exact R0.out
  case round =>
    obtain ⟨k, acc, rfl, hk, rfl, hbl, hacc, hb, hw⟩ := hrel
    clear R0
    by_cases hlt : k < fs.length
    · have hks : k < s.size := by rw [HL.out]; exact hlt
      have hks' : k < s.data.toList.length := by simpa using hks
      obtain ⟨fb, fo, rfl, c1, c2, hbl2⟩ := (HV0.out).get k hlt
      have c1 := (hb.cell (p := ⟨fb, fo + k * 2, none⟩) hbl2).trans c1
      have c2 := (hb.cell (p := ⟨fb, fo + k * 2 + 1, none⟩) hbl2).trans c2
      have hN := (HV0.out).2 fs[k] (List.getElem_mem hlt)
      have hS := (HZ.out) fs[k] (List.getElem_mem hlt)
      have HST := Lib.hid (wrL_step hks' hlt hw)
      have hge : s.data.toList[k] = s[k] := by simp; rfl
      rw [hge] at HST
      have HB := Lib.hid hb
      have HBL := Lib.hid hbl
      have HC := Lib.hid (u8_eq_toNat s[k])
      clear hw hb hbl hge
      generalize fs[k] = f at *
      obtain ⟨n, S⟩ := f
      simp only at c1 c2 hN hS
      by_cases k110 : s[k] = 110
      · have W : ∀ w, Calls Tryd.prog 53 #[.int .u8 110] w (fun e w' => e = .returned (.int .i64 8) ∧ w = w') := fun w => width_c 110 w
        rw [k110] at HST
        have HW := Lib.hid (wr1_num 110 8 n S rfl rfl)
        by_cases hS0 : S.toList = []
        · have hn : n < 18446744073709551616 := hN
          have HE := Lib.hid (HST.out.2 (be n 8) (by rw [HW.out, if_neg (wr_no ((toList_nil _).1 hS0) (by simpa using hn))]))
          go_wp2_with (go_at_call 53; refine (W _).mono ?_; rintro e w1 ⟨rfl, rfl⟩)
          refine (number_c w0.heap.size w0.heap.size n 8 acc _ (HBL.out.alloc _) (by have := HB.out.size; simp; omega) hN (by omega) (by omega)).mono ?_
          rintro e w2 ⟨rfl, g1, g2, g3⟩
          have R1 := Lib.hid (wr_next hlt g1 (by rw [List.length_append, be_length]; omega) (((HB.out).alloc (HB.out).size _).trans g2) HE.out)
          clear g1 g2 g3
          go_wp2_with fail
          go_roundg (fs.length - (k + 1))
          case measure => omega
          case rel => exact R1.out
        · have HE := Lib.hid (wrOut_none (HST.out.1 (by rw [HW.out, if_pos (Or.inl (fun h => hS0 ((toList_nil _).2 h)))])))
          go_wp2_with (go_at_call 53; refine (W _).mono ?_; rintro e w1 ⟨rfl, rfl⟩)
          go_ret2
          exact ⟨by rw [HE.out]; rfl, (HB0.out).trans (((HB.out).alloc (HB.out).size _).mono (HB0.out).size)⟩
      · by_cases k104 : s[k] = 104
        · have W : ∀ w, Calls Tryd.prog 53 #[.int .u8 104] w (fun e w' => e = .returned (.int .i64 4) ∧ w = w') := fun w => width_c 104 w
          rw [k104] at HST
          have HW := Lib.hid (wr1_num 104 4 n S rfl rfl)
          by_cases hS0 : S.toList = []
          · by_cases hn : n < 4294967296
            · have HE := Lib.hid (HST.out.2 (be n 4) (by rw [HW.out, if_neg (wr_no ((toList_nil _).1 hS0) (by simpa using hn))]))
              go_wp2_with (go_at_call 53; refine (W _).mono ?_; rintro e w1 ⟨rfl, rfl⟩)
              refine (number_c w0.heap.size w0.heap.size n 4 acc _ (HBL.out.alloc _) (by have := HB.out.size; simp; omega) hN (by omega) (by omega)).mono ?_
              rintro e w2 ⟨rfl, g1, g2, g3⟩
              have R1 := Lib.hid (wr_next hlt g1 (by rw [List.length_append, be_length]; omega) (((HB.out).alloc (HB.out).size _).trans g2) HE.out)
              clear g1 g2 g3
              go_wp2_with fail
              go_roundg (fs.length - (k + 1))
              case measure => omega
              case rel => exact R1.out
            · have HE := Lib.hid (wrOut_none (HST.out.1 (by rw [HW.out, if_pos (Or.inr (by simpa using hn))])))
              go_wp2_with (go_at_call 53; refine (W _).mono ?_; rintro e w1 ⟨rfl, rfl⟩)
              go_ret2
              exact ⟨by rw [HE.out]; rfl, (HB0.out).trans (((HB.out).alloc (HB.out).size _).mono (HB0.out).size)⟩
          · have HE := Lib.hid (wrOut_none (HST.out.1 (by rw [HW.out, if_pos (Or.inl (fun h => hS0 ((toList_nil _).2 h)))])))
            go_wp2_with (go_at_call 53; refine (W _).mono ?_; rintro e w1 ⟨rfl, rfl⟩)
            go_ret2
            exact ⟨by rw [HE.out]; rfl, (HB0.out).trans (((HB.out).alloc (HB.out).size _).mono (HB0.out).size)⟩
        · by_cases k98 : s[k] = 98
          · have W : ∀ w, Calls Tryd.prog 53 #[.int .u8 98] w (fun e w' => e = .returned (.int .i64 1) ∧ w = w') := fun w => width_c 98 w
            rw [k98] at HST
            have HW := Lib.hid (wr1_num 98 1 n S rfl rfl)
            by_cases hS0 : S.toList = []
            · by_cases hn : n < 256
              · have HE := Lib.hid (HST.out.2 (be n 1) (by rw [HW.out, if_neg (wr_no ((toList_nil _).1 hS0) (by simpa using hn))]))
                go_wp2_with (go_at_call 53; refine (W _).mono ?_; rintro e w1 ⟨rfl, rfl⟩)
                refine (number_c w0.heap.size w0.heap.size n 1 acc _ (HBL.out.alloc _) (by have := HB.out.size; simp; omega) hN (by omega) (by omega)).mono ?_
                rintro e w2 ⟨rfl, g1, g2, g3⟩
                have R1 := Lib.hid (wr_next hlt g1 (by rw [List.length_append, be_length]; omega) (((HB.out).alloc (HB.out).size _).trans g2) HE.out)
                clear g1 g2 g3
                go_wp2_with fail
                go_roundg (fs.length - (k + 1))
                case measure => omega
                case rel => exact R1.out
              · have HE := Lib.hid (wrOut_none (HST.out.1 (by rw [HW.out, if_pos (Or.inr (by simpa using hn))])))
                go_wp2_with (go_at_call 53; refine (W _).mono ?_; rintro e w1 ⟨rfl, rfl⟩)
                go_ret2
                exact ⟨by rw [HE.out]; rfl, (HB0.out).trans (((HB.out).alloc (HB.out).size _).mono (HB0.out).size)⟩
            · have HE := Lib.hid (wrOut_none (HST.out.1 (by rw [HW.out, if_pos (Or.inl (fun h => hS0 ((toList_nil _).2 h)))])))
              go_wp2_with (go_at_call 53; refine (W _).mono ?_; rintro e w1 ⟨rfl, rfl⟩)
              go_ret2
              exact ⟨by rw [HE.out]; rfl, (HB0.out).trans (((HB.out).alloc (HB.out).size _).mono (HB0.out).size)⟩
          · by_cases k116 : s[k] = 116
            · have W : ∀ w, Calls Tryd.prog 53 #[.int .u8 116] w (fun e w' => e = .returned (.int .i64 0) ∧ w = w') := fun w => width_c 116 w
              rw [k116] at HST
              by_cases hn : n = 0
              · by_cases hz : 65535 < S.size
                · have HE := Lib.hid (wrOut_none (HST.out.1 (wr1_t_no n S hn hz)))
                  go_wp2_with (go_at_call 53; refine (W _).mono ?_; rintro e w1 ⟨rfl, rfl⟩)
                  go_ret2
                  exact ⟨by rw [HE.out]; rfl, (HB0.out).trans (((HB.out).alloc (HB.out).size _).mono (HB0.out).size)⟩
                · have HE := Lib.hid (HST.out.2 _ (wr1_t n S hn hz))
                  go_wp2_with (go_at_call 53; refine (W _).mono ?_; rintro e w1 ⟨rfl, rfl⟩)
                  refine (number_c w0.heap.size w0.heap.size S.size 2 acc _ (HBL.out.alloc _) (by have := HB.out.size; simp; omega) (by omega) (by omega) (by omega)).mono ?_
                  rintro e w2 ⟨rfl, g1, g2, g3⟩
                  have HB2 := Lib.hid ((((HB.out).alloc (HB.out).size _).trans g2))
                  have q3 : w2.cell? ⟨wr.heap.size, 1, none⟩ = some (.string S) := kept_lit g3 (heap_alloc_new _ _) (by have := (HBL.out).lt; omega) (by decide) rfl
                  go_wp2_with fail
                  refine (wstr_c _ _ _ S w2 g1 (HB2.out.size) (by rw [List.length_append, be_length]; omega)).mono ?_
                  rintro e w3 ⟨rfl, g4, g5⟩
                  have R1 := Lib.hid (wr_next hlt (by rw [List.append_assoc] at g4; exact g4) (by simp only [List.length_append, be_length]; have := Lib.size_eq S; omega) ((HB2.out).trans g5) HE.out)
                  clear g1 g2 g3 g4 g5
                  go_wp2_with fail
                  go_roundg (fs.length - (k + 1))
                  case measure => omega
                  case rel => exact R1.out
              · have HE := Lib.hid (wrOut_none (HST.out.1 (wr1_txt_no 116 n S rfl hn)))
                go_wp2_with (go_at_call 53; refine (W _).mono ?_; rintro e w1 ⟨rfl, rfl⟩)
                go_ret2
                exact ⟨by rw [HE.out]; rfl, (HB0.out).trans (((HB.out).alloc (HB.out).size _).mono (HB0.out).size)⟩
            · have W : ∀ w, Calls Tryd.prog 53 #[.int .u8 s[k].toNat] w (fun e w' => e = .returned (.int .i64 0) ∧ w = w') := fun w => by
                have := width_c s[k].toNat w
                rwa [width_other _ k110 k104 k98] at this
              have KO := Lib.hid (kind_other _ k110 k104 k98)
              have KT := Lib.hid (HC.out 116 (by decide))
              have KT1 : ((s[k].toNat : Int) == 116) = false := KT.out.trans (by simpa using k116)
              have KT2 : ((s[k].toNat : Int) != 116) = true := by simp [bne, KT1]
              by_cases hn : n = 0
              · have HE := Lib.hid (HST.out.2 _ (wr1_r _ n S KO.out k116 hn))
                go_wp2_with (go_at_call 53; refine (W _).mono ?_; rintro e w1 ⟨rfl, rfl⟩)
                refine (wstr_c w0.heap.size w0.heap.size acc S _ (HBL.out.alloc _) (by have := HB.out.size; simp; omega) (by omega)).mono ?_
                rintro e w2 ⟨rfl, g1, g2⟩
                have R1 := Lib.hid (wr_next hlt g1 (by simp only [List.length_append]; have := Lib.size_eq S; omega) (((HB.out).alloc (HB.out).size _).trans g2) HE.out)
                clear g1 g2
                go_wp2_with fail
                go_roundg (fs.length - (k + 1))
                case measure => omega
                case rel => exact R1.out
              · have HE := Lib.hid (wrOut_none (HST.out.1 (wr1_txt_no _ n S KO.out hn)))
                go_wp2_with (go_at_call 53; refine (W _).mono ?_; rintro e w1 ⟨rfl, rfl⟩)
                go_ret2
                exact ⟨by rw [HE.out]; rfl, (HB0.out).trans (((HB.out).alloc (HB.out).size _).mono (HB0.out).size)⟩
    · obtain rfl : k = fs.length := by omega
      have HE := Lib.hid (show WrOut (wrL s.data.toList fs) = .tuple #[.string ⟨acc.toArray⟩, .bool true] by rw [hw, List.drop_length]; cases s.data.toList.drop fs.length <;> simp [wrL, WrOut])
      have HB := Lib.hid hb
      have hbs := hb.size
      go_wp2_with fail
      refine (Tryd.Builder_String_any_k w0.heap.size w0.heap.size _ wr hbl hbs).mono ?_
      rintro e w2 ⟨rfl, h4, h5, h6⟩
      have H5 := Lib.hid h5
      clear h4 h5 h6 hbl hb hw
      go_wp2_with fail
      go_ret2
      exact ⟨by rw [HE.out]; rfl, (HB0.out).trans (((HB.out).trans H5.out).mono (HB0.out).size)⟩
end Go.Proofs.YtoblhikablbapaaDoor
