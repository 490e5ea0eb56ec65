/- sums: Hex and Raw: walks. -/
import Derived.Test.YtoblhikablbapaaDoorTokB
import Derived.Laws.OwnMore
import Derived.Laws.MakeOwn
import Derived.OwnWalk
namespace Go.Proofs.YtoblhikablbapaaDoor
set_option linter.unusedVariables false
set_option maxRecDepth 100000
set_option maxHeartbeats 1000000
open Go.RowKit
theorem Calls.at_args {P : Program} {F : FuncId} {args args' : Array Value} {w : World} {post Q : Ending → World → Prop} (h : Calls P F args w post) (ha : args' = args) (hm : ∀ e w', post e w' → Q e w') : Calls P F args' w Q := by
  subst ha; exact h.mono hm
def bytesV (l : List UInt8) : List Value := l.map fun c => Value.int .u8 (c.toNat : Int)
theorem infoB : (Tryd.prog.info? 5).map (fun i => (i.zero, i.size, i.bytes)) = some (some (.int .u8 0), 1, 1) := by kernel_rfl
theorem slice_form {w : World} {base : Nat} {e : TypeId} {size : Nat} {v : Value} {n : Nat} {xs : List Value} (h : w.ownsRow base e size v n xs) : ∃ a m c, v = .slice a m c := by
  rcases h.2 with ⟨rfl, _⟩ | ⟨g, cap, cur, rfl, _⟩
  · exact ⟨_, _, _, rfl⟩
  · exact ⟨_, _, _, rfl⟩
theorem yields_box (w : World) (cs : Array Value) (T : TypeId) (m c : Nat) : Yields (w.alloc (.cells cs T)) (.slice (some ⟨w.heap.size, 0, none⟩) m c) m cs.toList := by
  refine ⟨_, _, rfl, fun e => (by cases e), fun ad e j u hu => ?_⟩
  cases e
  exact World.news_of_block (cs := cs) (t := T) (fr := (0, 0)) (heap_alloc_new w _) j u hu
theorem conv_row {w : World} {base : Nat} {v : Value} {n : Nat} {l : List UInt8} (h : w.ownsRow base 5 1 v n (bytesV l)) :
    (convert 62 9 v).run Tryd.prog w = .ok (.string ⟨l.toArray⟩) w := by
  have hl : l.length = n := by have := h.1; simpa [bytesV] using this
  rcases h.2 with ⟨rfl, h0⟩ | ⟨g, cap, cur, rfl, -⟩
  · have : l = [] := List.eq_nil_of_length_eq_zero (by omega)
    subst this
    exact run_convert_bytes_nil w 62 5 Tryd.underlying62 Tryd.underlying5 0 0 9 Tryd.underlying9
  · have := run_convert_bytes_arg (P := Tryd.prog) w 62 5 Tryd.underlying62 Tryd.underlying5 g 0 n cap (l.map fun c => (c.toNat : Int)) (by simpa using hl) (fun i hi => by
      rw [Nat.zero_add, h.cellAt i (by omega)]
      simp [bytesV, hl, hi]) 9 Tryd.underlying9
    rw [this]
    congr 2
    apply ByteArray.ext
    simp only [strOfNums, List.map_map]
    rw [show ((fun n : Int => UInt8.ofNat n.toNat) ∘ fun c : UInt8 => (c.toNat : Int)) = id from funext fun c => by simp]
    simp
theorem hexL_snoc (l : List UInt8) (c : UInt8) : hexL (l ++ [c]) = hexL l ++ [hexC (c.toNat / 16), hexC (c.toNat % 16)] := by simp [hexL, hex2]
def HexRel (w : World) (s : ByteArray) (g : Nat) (v s11 : Value) (wr : World) : Prop :=
  ∃ k, g = s.size - k ∧ k ≤ s.size ∧ s11 = .int .i64 k ∧ wr.ownsRow w.heap.size 5 1 v (2 * k) (bytesV (hexL (s.data.toList.take k))) ∧ Below w.heap.size w wr
theorem len_hex {k n : Nat} (h : k < n) (hn : n ≤ 1000000) : 2 * k + 2 ≤ maxLen ∧ (2 * k + 2) * 1 ≤ 140737488355328 := by unfold maxLen; omega
theorem drew_alloc_ge {w wr : World} {o : Obj} (h : w.heap.size ≤ wr.heap.size) : w.heap.size ≤ (wr.drew.alloc o).heap.size := by simp; omega
theorem hex_next {w wr W : World} {s : ByteArray} {k : Nat} {c : UInt8} {o : Obj} {v x : Value} (hlt : k < s.size) (ht : s.data.toList.take (k + 1) = s.data.toList.take k ++ [c])
    (ho : wr.ownsRow w.heap.size 5 1 v (2 * k) (bytesV (hexL (s.data.toList.take k)))) (hb : Below w.heap.size w wr)
    (ho' : W.ownsRow w.heap.size 5 1 x (2 * k + 2) (bytesV (hexL (s.data.toList.take k)) ++ [.int .u8 ((hexC (c.toNat / 16)).toNat : Int), .int .u8 ((hexC (c.toNat % 16)).toNat : Int)]))
    (hg : (wr.drew.alloc o).grownBy W v.ownBlock) : HexRel w s (s.size - (k + 1)) x (.int .i64 ((k : Int) + 1)) W := by
  refine ⟨k + 1, rfl, by omega, by simp, ?_, ?_⟩
  · rw [ht, hexL_snoc]
    unfold bytesV at ho' ⊢
    rw [List.map_append]
    exact ho'
  · have h1 : Below w.heap.size w (wr.drew.alloc o) := hb.drew.alloc hb.size o
    exact h1.grown hg h1.size (fun j hj => (ho.lt j hj).1)
theorem Hex_c (s : ByteArray) (w : World) (hs : s.size ≤ 1000000) :
    Calls Tryd.prog 70 #[.string s] w fun e w' => e = .returned (.string ⟨(hexL s.data.toList).toArray⟩) ∧ Below w.heap.size w w' := by
  obtain ⟨j0, hj, hz0, hz1, hz2⟩ := info_parts infoB
  obtain ⟨w1, hr, ho, hg⟩ := run_makeSlice_owned (P := Tryd.prog) w w.heap.size 62 5 j0 _ 1 Tryd.underlying62 hj hz0 hz1 .i64 .i64 (2 * s.size) (by omega) (by rw [hz2]; omega) (by unfold maxLen; omega) (Nat.le_refl _)
  rw [show ((2 * s.size : Nat) : Int) = 2 * (s.size : Int) by omega] at hr
  have HR0 : Hid (HexRel w s s.size (.slice (some ⟨w.heap.size, 0, none⟩) 0 (2 * s.size)) (.int .i64 0) w1) := Lib.hid ⟨0, rfl, Nat.zero_le _, rfl, by simpa [hexL, bytesV] using ho, (Below.refl _ _).grown hg (Nat.le_refl _) (fun _ e => by cases e)⟩
  clear ho hg
  go_enter Tryd.func70, Tryd.ntmps70
  go_wp2_with fail
  go_loopg [3, 11] s.size (fun g s3 s11 wr => HexRel w s g s3 s11 wr)
  case atStart => exact HR0.out
  case round =>
    obtain ⟨k, rfl, hk, rfl, ho, hb⟩ := hrel
    clear HR0 hr
    obtain ⟨a, m, cp, rfl⟩ := slice_form ho
    by_cases hlt : k < s.size
    · obtain ⟨c, hi0, htk⟩ := byte_at hlt
      have hcl := c.toNat_lt
      have hidx := fun w => run_index_str (P := Tryd.prog) 9 s k c Tryd.underlying9 hi0 w
      have HNX := Lib.hid (fun W o x => @hex_next w wr W s k c o _ x hlt htk ho hb)
      obtain ⟨d1, hd1, hw1⟩ : ∃ d1 : Nat, c.toNat / 16 = d1 ∧ IntKind.u8.wrap ((c.toNat : Int) / 16) = (d1 : Int) := ⟨_, rfl, by simp [IntKind.wrap, IntKind.bits, IntKind.signed]; omega⟩
      obtain ⟨d2, hd2, hw2⟩ : ∃ d2 : Nat, c.toNat % 16 = d2 ∧ (c.toNat : Int).tmod 16 = (d2 : Int) := ⟨_, rfl, by rw [Int.tmod_eq_emod_of_nonneg (by omega)]; rfl⟩
      rw [hd1, hd2] at HNX
      have D1 := Lib.hid (fun w => Digit_c d1 (by omega) w)
      have D2 := Lib.hid (fun w => Digit_c d2 (by omega) w)
      clear hd1 hd2
      have HOD := Lib.hid (show wr.drew.ownsRow w.heap.size 5 1 (.slice a m cp) (2 * k) (bytesV (hexL (s.data.toList.take k))) from ho)
      have HBS := Lib.hid hb.size
      have HLN := Lib.hid (len_hex hlt hs)
      clear hi0 htk ho hb
      generalize hexC d1 = q1 at *
      generalize hexC d2 = q2 at *
      go_wp2_with fail
      go_region_held3 (fun _ => True) (trivial) ((first
        | (go_at_call 87; refine Calls.at_args (D1.out _) (by with_reducible rfl) ?_; rintro e W1 ⟨rfl, rfl⟩)
        | (go_at_call 87; refine Calls.at_args (D2.out _) (by with_reducible rfl) ?_; rintro e W2 ⟨rfl, rfl⟩)
        | (refine step_append_y (by rfl) _ _ _ (by rfl) w.heap.size 5 j0 _ 1 1 Tryd.underlying62 hj hz0 hz1 hz2 rfl (by decide) _ _ _ (by rfl) (HOD.out.alloc _) _ 2 _ (by rfl) (yields_box _ #[.int .u8 (q1.toNat : Int), .int .u8 (q2.toNat : Int)] _ 2 2) rfl (one2 _ _ rfl rfl) HLN.out.1 HLN.out.2 (drew_alloc_ge HBS.out) ?_; intro x W3 ho3 hg3 ha3; have HN3 := Lib.hid (HNX.out _ _ _ ho3 hg3); clear ho3 hg3 ha3)))
      all_goals go_wp2_with fail
      all_goals go_roundg (s.size - (k + 1))
      all_goals (first | exact HN3.out | omega)
    · obtain rfl : k = s.size := by omega
      have ht : s.data.toList.take s.size = s.data.toList := by rw [Lib.size_eq, List.take_length]
      rw [ht] at ho
      have hcv := conv_row ho
      have HB := Lib.hid hb
      clear ho hb ht
      go_wp2_with fail
      go_ret
      exact ⟨rfl, HB.out⟩
end Go.Proofs.YtoblhikablbapaaDoor
