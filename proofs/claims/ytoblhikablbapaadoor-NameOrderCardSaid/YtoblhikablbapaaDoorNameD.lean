/- name: PartKey, Behind: walks. -/
import Derived.Test.YtoblhikablbapaaDoorNameC
namespace Go.Proofs.YtoblhikablbapaaDoor
set_option linter.unusedVariables false
set_option maxRecDepth 100000
set_option maxHeartbeats 2000000
open Go.RowKit
def one (c : UInt8) : ByteArray := ⟨#[c]⟩
theorem strOne (x : UInt8) : strOfNums [(x.toNat : Int)] = one x := by
  apply ByteArray.ext
  simp [strOfNums, one]
theorem conv_one (c : UInt8) (g : Nat) (W : World) (h : W.cell? ⟨g, 0, none⟩ = some (.int .u8 (c.toNat : Int))) : (convert 62 9 (.slice (some ⟨g, 0, none⟩) 1 1)).run Tryd.prog W = .ok (.string (one c)) W := by
  have := run_convert_bytes_arg (P := Tryd.prog) W 62 5 Tryd.underlying62 Tryd.underlying5 g 0 1 1 [(c.toNat : Int)] rfl (fun i hi => by
    obtain rfl : i = 0 := by omega
    exact h) 9 Tryd.underlying9
  rwa [strOne] at this
theorem PartKey_no (n : Nat) (p : Int) (w : World) (hp : p < 0 ∨ 255 < p) :
    Calls Tryd.prog 33 #[.int .u64 n, .int .i64 p] w fun e w' => e = .returned (.string ⟨(partKeyL n p).toArray⟩) ∧ Below w.heap.size w w' := by
  have HE := Lib.hid (show partKeyL n p = [] by unfold partKeyL; rw [if_pos hp])
  by_cases h1 : p < 0
  · clear hp
    go_enter Tryd.func33, Tryd.ntmps33
    go_wp2_with fail
    go_ret
    exact ⟨by rw [HE.out]; rfl, Below.refl _ _⟩
  · have h2 : 255 < p := by omega
    clear hp
    go_enter Tryd.func33, Tryd.ntmps33
    go_wp2_with fail
    go_ret
    exact ⟨by rw [HE.out]; rfl, Below.refl _ _⟩
theorem numA (n : Nat) (c : UInt8) (x : ByteArray) (w : World) (h : ∀ w, Calls Tryd.prog 66 #[.int .u64 n] w (fun e w' => e = .returned (.string x) ∧ Below w.heap.size w w')) :
    Calls Tryd.prog 66 #[.int .u64 n] ((w.alloc (.cells #[.int .u8 (c.toNat : Int)] 5)).drew) fun e w' => e = .returned (.string x) ∧ Hid (Below w.heap.size w w') ∧ w'.cell? ⟨w.heap.size, 0, none⟩ = some (.int .u8 (c.toNat : Int)) := by
  refine (h _).mono ?_
  rintro e w' ⟨rfl, hb⟩
  refine ⟨rfl, Lib.hid ((((Below.refl w.heap.size w).alloc (Nat.le_refl _) (.cells #[.int .u8 (c.toNat : Int)] 5)).drew).trans (hb.mono (by simp))), ?_⟩
  rw [hb.cell (p := ⟨w.heap.size, 0, none⟩) (by simp), World.cell?_drew]
  exact cell_lit (heap_alloc_new _ _) rfl
theorem numB (n : Nat) (x : ByteArray) (w : World) (h : ∀ w, Calls Tryd.prog 66 #[.int .u64 n] w (fun e w' => e = .returned (.string x) ∧ Below w.heap.size w w')) :
    Calls Tryd.prog 66 #[.int .u64 n] w.drew fun e w' => e = .returned (.string x) ∧ Hid (Below w.heap.size w w') := by
  refine (h _).mono ?_
  rintro e w' ⟨rfl, hb⟩
  exact ⟨rfl, Lib.hid (((Below.refl w.heap.size w).drew).trans hb)⟩
theorem PartKey_yes (n : Nat) (c : UInt8) (w : World) (hn : n < 18446744073709551616) :
    Calls Tryd.prog 33 #[.int .u64 n, .int .i64 c.toNat] w fun e w' => e = .returned (.string ⟨(partKeyL n c.toNat).toArray⟩) ∧ Below w.heap.size w w' := by
  have hc := c.toNat_lt
  have HE := Lib.hid (show partKeyL n c.toNat = 112 :: (be n 8 ++ [c]) by unfold partKeyL; rw [if_neg (by omega)]; simp)
  have HJ := Lib.hid (show (⟨#[112]⟩ : ByteArray) ++ ⟨(be n 8).toArray⟩ ++ one c = ⟨(112 :: (be n 8 ++ [c])).toArray⟩ by
    rw [show (⟨#[112]⟩ : ByteArray) = ⟨[112].toArray⟩ from rfl, cat_mk, show one c = ⟨[c].toArray⟩ from rfl, cat_mk]; simp)
  have NC := fun w => number8_c n w hn
  have hx : (⟨(be n 8).toArray⟩ : ByteArray).size = 8 := by rw [size_mk, be_length]
  generalize (⟨(be n 8).toArray⟩ : ByteArray) = x at *
  have HN := Lib.hid NC
  have hcv := fun g W h => conv_one c g W h
  have k3 : (c.toNat : Int) % 256 = c.toNat := by omega
  have k1 : IntKind.u8.wrap (c.toNat : Int) = c.toNat := by simp only [IntKind.wrap, IntKind.bits, IntKind.signed]; simp; omega
  have hz : (one c).size = 1 := rfl
  generalize one c = y at *
  clear hn NC
  go_enter Tryd.func33, Tryd.ntmps33
  go_wp2_with fail
  go_region_with ((first
    | (go_at_call 66; (with_reducible refine (numA n c x w HN.out).mono ?_); rintro e w1 ⟨rfl, hb, hcc⟩)
    | (go_at_call 66; (with_reducible refine (numB n x w HN.out).mono ?_); rintro e w1 ⟨rfl, hb⟩)))
  all_goals
    go_wp2_with fail
    go_ret
    first
      | exact ⟨ret_str (by rw [HE.out]; exact HJ.out), hb.out⟩
      | exact ⟨ret_str (by rw [HE.out]; exact HJ.out), (hb.out).alloc (hb.out).size _⟩
theorem PartKey_c (n : Nat) (p : Int) (w : World) (hn : n < 18446744073709551616) :
    Calls Tryd.prog 33 #[.int .u64 n, .int .i64 p] w fun e w' => e = .returned (.string ⟨(partKeyL n p).toArray⟩) ∧ Below w.heap.size w w' := by
  by_cases h : p < 0 ∨ 255 < p
  · exact PartKey_no n p w h
  · have := PartKey_yes n (UInt8.ofNat p.toNat) w hn
    have e : ((UInt8.ofNat p.toNat).toNat : Int) = p := by rw [UInt8.toNat_ofNat']; omega
    rwa [e] at this
def BhRel (w : World) (l : List UInt8) (g : Nat) (s0 : Value) (wr : World) : Prop := ∃ r : List UInt8, g = r.length ∧ s0 = .string ⟨r.reverse.toArray⟩ ∧ behindL l = behindR r ∧ r.length ≤ l.length ∧ w = wr
theorem behind_mk (r : List UInt8) (c : UInt8) : (⟨(c :: r).reverse.toArray⟩ : ByteArray).size = r.length + 1 ∧ (⟨(c :: r).reverse.toArray⟩ : ByteArray)[r.length]? = some c ∧ (⟨(c :: r).reverse.toArray⟩ : ByteArray).extract 0 r.length = ⟨r.reverse.toArray⟩ := by
  have e : (c :: r).reverse = r.reverse ++ [c] := by simp
  have hs : (⟨(c :: r).reverse.toArray⟩ : ByteArray).size = r.length + 1 := by rw [size_mk]; simp
  refine ⟨hs, ?_, ?_⟩
  · rw [getElem?_pos _ r.length (by omega)]
    show some ((c :: r).reverse.toArray[r.length]'(by simp)) = some c
    simp
  · rw [extract_take]
    apply ByteArray.ext
    simp
theorem run_index_str {P : Program} (t : TypeId) (s : ByteArray) (k : Nat) (d : UInt8) (ht : P.underlying t = some .string) (h : s[k]? = some d) (w : World) :
    (Instr.index t (.string s) (.int .i64 (k : Int))).run P w = .ok (.int .u8 (d.toNat : Int)) w := by
  simp [Instr.index, asIntOf, run_underlying ht, h]
theorem Behind_c (s : ByteArray) (w : World) (hs : s.size ≤ 1000000) :
    Calls Tryd.prog 31 #[.string s] w fun e w' => e = .returned (.string ⟨(behindL s.data.toList).toArray⟩) ∧ Below w.heap.size w w' := by
  have hl := Lib.size_eq s
  have R0 : Hid (BhRel w s.data.toList s.data.toList.length (.string s) w) := Lib.hid ⟨s.data.toList.reverse, by simp, by rw [List.reverse_reverse, mk_data], rfl, by simp, rfl⟩
  generalize s.data.toList = l at *
  rw [hl] at hs
  clear hl
  go_enter Tryd.func31, Tryd.ntmps31
  go_wp2_with fail
  go_loopg [0] l.length (fun g s0 wr => BhRel w l g s0 wr)
  case atStart => exact R0.out
  case round =>
    obtain ⟨r, rfl, rfl, hb, hle, rfl⟩ := hrel
    clear R0
    cases r with
    | nil =>
      have HE := Lib.hid (show behindL l = [] from hb)
      clear hb
      go_wp2_with fail
      go_ret
      exact ⟨by rw [HE.out]; rfl, Below.refl _ _⟩
    | cons c r =>
      obtain ⟨e1, e2, e3⟩ := behind_mk r c
      have hidx := fun w => run_index_str (P := Tryd.prog) _ _ r.length c Tryd.underlying9 e2 w
      simp only [List.length_cons] at hle ⊢
      have HB := Lib.hid hb
      have hr : r.length ≤ 1000000 := by omega
      generalize (⟨(c :: r).reverse.toArray⟩ : ByteArray) = S at *
      have hc := c.toNat_lt
      by_cases h255 : c = 255
      · have q1 : ((c.toNat : Int) == 255) = true := by rw [h255]; rfl
        have HE := Lib.hid (show behindL l = behindR r by rw [hb, h255]; rfl)
        have HX := Lib.hid e3
        clear hb e2 h255 e3
        go_wp2_with fail
        go_roundg r.length
        case measure => simp
        case rel => exact ⟨r, rfl, by rw [HX.out], HE.out, by omega, rfl⟩
      · have hcn : c.toNat ≠ 255 := fun h => h255 (UInt8.toNat_inj.1 h)
        have q1 : ((c.toNat : Int) == 255) = false := by simp; omega
        obtain ⟨d, hd⟩ : ∃ d : UInt8, d = c + 1 := ⟨_, rfl⟩
        have hdn : d.toNat = c.toNat + 1 := by rw [hd, UInt8.toNat_add]; show (c.toNat + 1) % 256 = _; omega
        have HE := Lib.hid (show behindL l = r.reverse ++ [d] by rw [hb, hd]; show (if c = 255 then _ else _) = _; rw [if_neg h255])
        have HX := Lib.hid (show S.extract 0 r.length ++ one d = ⟨(r.reverse ++ [d]).toArray⟩ by rw [e3, show one d = ⟨[d].toArray⟩ from rfl, cat_mk])
        have k1 : IntKind.u8.wrap ((c.toNat : Int) + 1) = d.toNat := by rw [hdn]; simp only [IntKind.wrap, IntKind.bits, IntKind.signed]; simp; omega
        have k2 : ((c.toNat : Int) + 1) % 256 = d.toNat := by rw [hdn]; omega
        have hcv := fun g W h => conv_one d g W h
        have hz : (one d).size = 1 := rfl
        obtain ⟨z, hsl⟩ : ∃ z, S.extract 0 r.length = z := ⟨_, rfl⟩
        have hz2 : z.size = r.length := by rw [← hsl, e3, size_mk]; simp
        rw [hsl] at HX
        have ha1 : (z.size + (one d).size > 9223372036854775807) = False := eq_false (by rw [hz, hz2]; omega)
        have ha2 : (9223372036854775807 < z.size + (one d).size) = False := eq_false (by rw [hz, hz2]; omega)
        have hr0 : (0 : Int) ≤ (r.length : Int) := by omega
        have hr1 : IntKind.i64.wrap (r.length : Int) = r.length := by rw [IntWalk.i64_in _ (by omega)]
        generalize one d = y at *
        clear hb e2 e3 h255 hcn hd hdn hz hz2
        go_wp2_with fail
        go_region
        all_goals
          go_wp2_with fail
          go_ret
          exact ⟨ret_str (by rw [HE.out]; exact HX.out), ((Below.refl w.heap.size w).alloc (Nat.le_refl _) _).drew⟩
end Go.Proofs.YtoblhikablbapaaDoor
