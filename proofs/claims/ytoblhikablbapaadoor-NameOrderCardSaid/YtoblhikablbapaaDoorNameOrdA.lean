/- NameOrder: what the walk wants. -/
import Derived.Test.YtoblhikablbapaaDoorNameO
import Derived.Test.YtoblhikablbapaaDoorReadF
namespace Go.Proofs.YtoblhikablbapaaDoor
set_option linter.unusedVariables false
set_option maxRecDepth 100000
set_option maxHeartbeats 4000000
open Go.RowKit
/-- Two boxes of the call, and whatever came behind them. -/
def Two (w : World) (oa ob : Obj) (wr : World) : Prop := Below (w.heap.size + 2) ((w.alloc oa).alloc ob) wr
theorem Two.size {w wr : World} {oa ob : Obj} (h : Two w oa ob wr) : w.heap.size + 2 ≤ wr.heap.size := by have := Below.size h; simpa using this
theorem Two.a {w wr : World} {oa ob : Obj} (h : Two w oa ob wr) : wr.heap[w.heap.size]? = some oa := (h.block _ (by omega)).trans ((heap_alloc_lt _ (by simp)).trans (heap_alloc_new _ _))
theorem Two.b {w wr : World} {oa ob : Obj} (h : Two w oa ob wr) : wr.heap[w.heap.size + 1]? = some ob := (h.block _ (by omega)).trans (by have := heap_alloc_new (w.alloc oa) ob; simpa using this)
theorem Two.below {w wr : World} {oa ob : Obj} (h : Two w oa ob wr) : Below w.heap.size w wr := (((Below.refl w.heap.size w).alloc (Nat.le_refl _) oa).alloc (by simp) ob).trans (Below.mono h (by omega))
theorem Two.step {w wr w' : World} {oa ob : Obj} (h : Two w oa ob wr) (hb : Below wr.heap.size wr w') : Two w oa ob w' := Below.trans h (hb.mono h.size)
theorem Two.drew {w wr : World} {oa ob : Obj} (h : Two w oa ob wr) : Two w oa ob wr.drew := h.step (Below.refl _ _).drew
theorem Two.alloc {w wr : World} {oa ob : Obj} (h : Two w oa ob wr) (o : Obj) : Two w oa ob (wr.alloc o) := h.step ((Below.refl wr.heap.size wr).alloc (Nat.le_refl _) o)
theorem Two.start {w wr : World} {oa ob : Obj} (h : Below ((w.alloc oa).alloc ob).heap.size ((w.alloc oa).alloc ob) wr) : Two w oa ob wr := by unfold Two; simpa using h
/-- The cells of both boxes. -/
def Six (w : World) (s1 t1 s2 t2 : ByteArray) (n1 n2 : Nat) (wr : World) : Prop := Two w (.cells #[.string s1, .string t1, .int .u64 n1] 46) (.cells #[.string s2, .string t2, .int .u64 n2] 46) wr
theorem Six.c {w wr : World} {s1 t1 s2 t2 : ByteArray} {n1 n2 : Nat} (h : Six w s1 t1 s2 t2 n1 n2 wr) :
    wr.cell? ⟨w.heap.size, 0, none⟩ = some (.string s1) ∧ wr.cell? ⟨w.heap.size, 1, none⟩ = some (.string t1) ∧ wr.cell? ⟨w.heap.size, 2, none⟩ = some (.int .u64 n1) ∧
    wr.cell? ⟨w.heap.size + 1, 0, none⟩ = some (.string s2) ∧ wr.cell? ⟨w.heap.size + 1, 1, none⟩ = some (.string t2) ∧ wr.cell? ⟨w.heap.size + 1, 2, none⟩ = some (.int .u64 n2) :=
  ⟨cell_lit (Two.a h) rfl, cell_lit (Two.a h) rfl, cell_lit (Two.a h) rfl, cell_lit (Two.b h) rfl, cell_lit (Two.b h) rfl, cell_lit (Two.b h) rfl⟩
theorem reads_named {w : World} {v : Value} (h : Reads w 46 v) : ∃ (s t : ByteArray) (n : Nat), v = .agg #[.string s, .string t, .int .u64 n] ∧ n < 18446744073709551616 := by
  obtain ⟨cs, rfl, hs, hc⟩ := reads_struct Tryd.underlying46 h
  have c3 : Tryd.prog.cellsOf 46 = 3 := by kernel_rfl
  have c1 : Tryd.prog.cellsOf 9 = 1 := by kernel_rfl
  have c2 : Tryd.prog.cellsOf 36 = 1 := by kernel_rfl
  rw [c3] at hs
  obtain ⟨-, hf⟩ := readsC_struct Tryd.underlying46 hc
  obtain ⟨x0, x1, x2, rfl⟩ : ∃ x0 x1 x2, cs = #[x0, x1, x2] := by
    match cs, hs with
    | ⟨[x0, x1, x2]⟩, _ => exact ⟨x0, x1, x2, rfl⟩
  have f0 : ReadsC w 9 (([x0, x1, x2].drop 0).take (Tryd.prog.cellsOf 9)) := hf 0 _ rfl
  have f1 : ReadsC w 9 (([x0, x1, x2].drop 1).take (Tryd.prog.cellsOf 9)) := hf 1 _ rfl
  have f2 : ReadsC w 36 (([x0, x1, x2].drop 2).take (Tryd.prog.cellsOf 36)) := hf 2 _ rfl
  rw [c1] at f0 f1
  rw [c2] at f2
  obtain ⟨s, e0, -⟩ := readsC_string Tryd.underlying9 f0
  obtain ⟨t, e1, -⟩ := readsC_string Tryd.underlying9 f1
  obtain ⟨n, e2, hn⟩ := readsC_int Tryd.underlying36 f2
  simp at e0 e1 e2
  subst e0 e1 e2
  have := bounds_u64 hn
  obtain ⟨k, rfl⟩ : ∃ k : Nat, n = k := ⟨n.toNat, by omega⟩
  exact ⟨s, t, k, rfl, by omega⟩
theorem Within_c (s u b : ByteArray) (x y : Bool) (w : World) (hb : b = ⟨(behindL u.data.toList).toArray⟩) (hu : u.size ≤ 1000000) (h1 : Op.bytesLess s.toList u.toList = x) (h2 : Op.bytesLess s.toList b.toList = y) :
    Calls Tryd.prog 30 #[.string s, .string u] w fun e w' => e = .returned (.bool (!x && y)) ∧ Below w.heap.size w w' := by
  have BH := Behind_c u w hu
  rw [← hb] at BH
  clear hb
  cases x
  · go_enter Tryd.func30, Tryd.ntmps30
    go_wp2_with (go_at_call 31; refine BH.mono ?_; rintro e w1 ⟨rfl, hb1⟩)
    go_ret
    exact ⟨rfl, hb1⟩
  · go_enter Tryd.func30, Tryd.ntmps30
    go_wp2_with (go_at_call 31; refine BH.mono ?_; rintro e w1 ⟨rfl, hb1⟩)
    go_ret
    exact ⟨rfl, Below.refl _ _⟩
theorem strs1_a (W : World) (S1 : ByteArray) (T : TypeId) : StrsAt (W.alloc (.cells #[.string S1] T)) (.slice (some ⟨W.heap.size, 0, none⟩) 1 1) [S1] := strs_one (heap_alloc_new _ _)
theorem strs1_b (W : World) (S1 : ByteArray) (T : TypeId) (o : Obj) : StrsAt ((W.alloc (.cells #[.string S1] T)).alloc o) (.slice (some ⟨W.heap.size, 0, none⟩) 1 1) [S1] := strs_one ((heap_alloc_lt _ (by simp)).trans (heap_alloc_new _ _))
theorem strs1_c (W : World) (S1 : ByteArray) (T : TypeId) (o : Obj) : StrsAt ((W.alloc o).alloc (.cells #[.string S1] T)) (.slice (some ⟨W.heap.size + 1, 0, none⟩) 1 1) [S1] := strs_one (by have := heap_alloc_new (W.alloc o) (.cells #[.string S1] T); simpa using this)
theorem strs2_a (W : World) (S1 S2 : ByteArray) (T : TypeId) : StrsAt (W.alloc (.cells #[.string S1, .string S2] T)) (.slice (some ⟨W.heap.size, 0, none⟩) 2 2) [S1, S2] := strs_two (heap_alloc_new _ _)
theorem strs2_b (W : World) (S1 S2 : ByteArray) (T : TypeId) (o : Obj) : StrsAt ((W.alloc (.cells #[.string S1, .string S2] T)).alloc o) (.slice (some ⟨W.heap.size, 0, none⟩) 2 2) [S1, S2] := strs_two ((heap_alloc_lt _ (by simp)).trans (heap_alloc_new _ _))
theorem strs2_c (W : World) (S1 S2 : ByteArray) (T : TypeId) (o : Obj) : StrsAt ((W.alloc o).alloc (.cells #[.string S1, .string S2] T)) (.slice (some ⟨W.heap.size + 1, 0, none⟩) 2 2) [S1, S2] := strs_two (by have := heap_alloc_new (W.alloc o) (.cells #[.string S1, .string S2] T); simpa using this)
theorem Calls.with_args {P : Program} {F : FuncId} {args args' : Array Value} {w : World} {post Q : Ending → World → Prop} (h : Calls P F args w post) (ha : args' = args) (hm : ∀ e w', post e w' → Q e w') : Calls P F args' w Q := by
  subst ha; exact h.mono hm
end Go.Proofs.YtoblhikablbapaaDoor
