/- Parts of the proof of ChunksSums, joined: TreeF, TreeG, TreeH, TreeP, TreeQ, TreeI, TreeJ, TreeK, TreeL, TreeM. No condition. -/
import Derived.Test.YtdcjhpafipbpkaaGreatDoorCk3
import Derived.Shelf.Spec.SlicesInsertGrow
import Derived.Sort.Walk0
import Derived.Shelf.Spec.SearchS
import Derived.BigQuiet
set_option linter.unusedSimpArgs false
set_option linter.unusedVariables false
set_option linter.unusedSectionVars false
namespace Go.Proofs.YtdcjhpafipbpkaaGreatDoor
set_option linter.unusedVariables false
set_option maxRecDepth 100000
set_option maxHeartbeats 2000000
open Go.RowKit
theorem parse_c (d : Nd) (pad : List UInt8) (w : World) (hd : d.Ok) (hl : (d.bytes ++ pad).length ≤ 1000000) :
    Calls Tryz.prog 184 #[.string (ofL (d.bytes ++ pad))] w fun e w' => ∃ p, e = .returned (.tuple #[.pointer (some ⟨p, 0, none⟩), .bool true]) ∧ Hid (∃ F, IsNd w' F p d ∧ (∀ k, F k → w.heap.size ≤ k) ∧ Below w.heap.size w w') := by
  cases d with
  | leaf l => exact parse_leaf l pad w hd hl
  | inner l => exact parse_inner l pad w hd hl
theorem RRow.below {w w' : World} {v : Value} {xs : List Value} (h : RRow w v xs) (hb : Below w.heap.size w w') : RRow w' v xs := by
  rcases h with h | ⟨g, off, cap, rfl, hn, hc⟩
  · exact .inl h
  · refine .inr ⟨g, off, cap, rfl, hn, fun i hi => ?_⟩
    have := hc i hi
    exact (World.cell?_of_block (hb.block _ (World.block_lt_of_cell? w _ this))).trans this
theorem NdV.below {w w' : World} {p : Nat} {d : Nd} {vk vv vi : Value} (h : NdV w p d vk vv vi) (hb : Below w.heap.size w w') : NdV w' p d vk vv vi :=
  ⟨(hb.block p (lt_of_heap h.blk)).trans h.blk, h.ks.below hb, h.vs.below hb, h.is.below hb⟩
def bytesC (l : List UInt8) : List Value := l.map fun c => Value.int .u8 (c.toNat : Int)
theorem bytesC_append (a b : List UInt8) : bytesC (a ++ b) = bytesC a ++ bytesC b := by simp [bytesC]
theorem strCells_bytes (s : ByteArray) : Lib.strCells s = bytesC s.data.toList := by rw [Lib.strCells_eq]; rfl
theorem u8_wrap_nat (n : Nat) : IntKind.u8.wrap (n : Int) = ((UInt8.ofNat n).toNat : Int) := by
  rw [UInt8.toNat_ofNat']
  simp [IntKind.wrap, IntKind.bits, IntKind.signed]
theorem conv_rowC {w : World} {base : Nat} {v : Value} {n : Nat} {l : List UInt8} (h : w.ownsRow base 5 1 v n (bytesC l)) :
    (convert 91 9 v).run Tryz.prog w = .ok (.string (ofL l)) w := by
  have hl : l.length = n := by have := h.1; simpa [bytesC] using this
  rcases h.2 with ⟨rfl, h0⟩ | ⟨g, cap, cur, rfl, -⟩
  · have : l = [] := List.eq_nil_of_length_eq_zero (by omega)
    subst this
    exact run_convert_bytes_nil w 91 5 Tryz.underlying91 Tryz.underlying5 0 0 9 Tryz.underlying9
  · have := run_convert_bytes_arg (P := Tryz.prog) w 91 5 Tryz.underlying91 Tryz.underlying5 g 0 n cap (l.map fun c => (c.toNat : Int)) (by simpa using hl) (fun i hi => by
      rw [Nat.zero_add, h.cellAt i (by omega)]
      simp [bytesC, hl, hi]) 9 Tryz.underlying9
    rw [this]
    congr 2
    apply ByteArray.ext
    simp only [strOfNums, List.map_map, ofL]
    rw [show ((fun n : Int => UInt8.ofNat n.toNat) ∘ fun c : UInt8 => (c.toNat : Int)) = id from funext fun c => by simp]
    simp
/-- The bytes so far. -/
structure TR (w wr : World) (v : Value) (l : List UInt8) : Prop where
  row : wr.ownsRow w.heap.size 5 1 v l.length (bytesC l)
  bel : Below w.heap.size w wr
theorem tr_next {w wr W W' : World} {v v' : Value} {l m : List UInt8} (h : TR w wr v l) (hw : Below wr.heap.size wr W) (ho : W'.ownsRow w.heap.size 5 1 v' (l.length + m.length) (bytesC l ++ bytesC m)) (hg : W.grownBy W' v.ownBlock) : TR w W' v' (l ++ m) := by
  refine ⟨by rw [List.length_append, bytesC_append]; exact ho, ?_⟩
  have h1 := h.bel.trans (hw.mono h.bel.size)
  exact h1.grown hg h1.size (fun k e => (h.row.lt k e).1)
theorem tr_row {w wr W : World} {v : Value} {l : List UInt8} (h : TR w wr v l) (hw : Below wr.heap.size wr W) : W.ownsRow w.heap.size 5 1 v l.length (bytesC l) := ownsRow_of h.row fun k e => hw.block k (h.row.lt k e).2
theorem len_b {n m : Nat} (h : n ≤ 19000000) (h2 : m ≤ 100) : n + m ≤ maxLen ∧ (n + m) * 1 ≤ 140737488355328 ∧ n + m ≤ 140737488355328 := by unfold maxLen; omega
theorem entL_len (l : List (ByteArray × ByteArray)) (h : ∀ p ∈ l, p.1.size ≤ 96 ∧ p.2.size ≤ 56) : (l.flatMap entL).length ≤ 154 * l.length := by
  induction l with
  | nil => simp
  | cons p t ih =>
    have h1 := h p (by simp)
    have h2 := ih fun q hq => h q (by simp [hq])
    rw [Lib.size_eq, Lib.size_eq] at h1
    simp only [List.flatMap_cons, List.length_append, List.length_cons, entL, List.length_nil]
    omega
theorem byte_small {n : Nat} (h : n ≤ 96) : ((UInt8.ofNat n).toNat : Int) = (n : Int) := by rw [UInt8.toNat_ofNat']; omega
theorem tr_start {w wr : World} {a b c : Nat} {x y z : Int} (hb : Below w.heap.size w wr) (hx : x = ((UInt8.ofNat a).toNat : Int)) (hy : y = ((UInt8.ofNat b).toNat : Int)) (hz : z = ((UInt8.ofNat c).toNat : Int)) :
    TR w (wr.alloc (.cells #[.int .u8 x, .int .u8 y, .int .u8 z] 5)) (.slice (some ⟨wr.heap.size, 0, none⟩) 3 3) [UInt8.ofNat a, UInt8.ofNat b, UInt8.ofNat c] := by
  subst hx hy hz
  refine ⟨?_, hb.alloc hb.size _⟩
  have := World.ownsRow_lit (base := w.heap.size) (e := 5) (size := 1) wr #[.int .u8 ((UInt8.ofNat a).toNat : Int), .int .u8 ((UInt8.ofNat b).toNat : Int), .int .u8 ((UInt8.ofNat c).toNat : Int)] 3 hb.size (by unfold maxLen; omega) rfl
  exact this
theorem tr_drew {w wr : World} {v : Value} {l : List UInt8} (h : TR w wr v l) : TR w wr.drew v l := ⟨h.row, h.bel.drew⟩
theorem chkA (t u : TypeId) {P : Program} {w : World} {ops : Array Oper} {rest : List Oper} {o : Oper} {a : Act} {Q : Exit → Act → World → Prop}
    (ho : ∃ s x, o.op = .call { callee := .builtin .append, args := #[s, x], argTypes := #[t, u] }) (h : wpList P ops Q (o :: rest) a w) : wpList P ops Q (o :: rest) a w := h
theorem text_leaf (l : List (ByteArray × ByteArray)) (p : Nat) (vk vv vi : Value) (w : World) (hd : (Nd.leaf l).Ok) (h : NdV w p (.leaf l) vk vv vi) :
    Calls Tryz.prog 212 #[.pointer (some ⟨p, 0, none⟩)] w fun e w' => e = .returned (.string (ofL (Nd.leaf l).bytes)) ∧ Below w.heap.size w w' := by
  have hlen : (Nd.leaf l).len = l.length := by simp [Nd.len, Nd.keys]
  have hn0 := hd.pos
  have hn1 := hd.few
  rw [hlen] at hn0 hn1
  have hK : Hid (∀ p ∈ l, p.1.size ≤ 96 ∧ p.2.size ≤ 56) := Lib.hid fun p hp => ⟨hd.key _ (by simp [Nd.keys]; exact ⟨_, hp⟩), hd.val _ (by simp [Nd.vals]; exact ⟨_, hp⟩)⟩
  obtain ⟨g1, o1, cap1, ev1, hc1, hk1⟩ := h.ks.lit (by simp [Nd.keys]; omega)
  obtain ⟨g2, o2, cap2, ev2, hc2, hv1⟩ := h.vs.lit (by simp [Nd.vals]; omega)
  rw [List.length_map, show (Nd.leaf l).keys.length = l.length by simp [Nd.keys]] at ev1
  rw [List.length_map, show (Nd.leaf l).vals.length = l.length by simp [Nd.vals]] at ev2
  subst ev1 ev2
  have HB : Hid ((Nd.leaf l).bytes = [UInt8.ofNat 76, UInt8.ofNat (l.length / 256), UInt8.ofNat l.length] ++ l.flatMap entL) := Lib.hid (by simp [Nd.bytes, Nd.kind, Nd.body, hlen])
  have HC : Hid (∀ W, Below w.heap.size w W → W.cell? ⟨p, 0, none⟩ = some (.bool true) ∧ W.cell? ⟨p, 1, none⟩ = some (.slice (some ⟨g1, o1, none⟩) l.length cap1) ∧ W.cell? ⟨p, 2, none⟩ = some (.slice (some ⟨g2, o2, none⟩) l.length cap2)) :=
    Lib.hid fun W hW => ⟨cell_lit (h.below hW).blk rfl, cell_lit (h.below hW).blk rfl, cell_lit (h.below hW).blk rfl⟩
  have HKC : Hid (∀ W i (hi : i < l.length), Below w.heap.size w W → W.cell? ⟨g1, o1 + i, none⟩ = some (.string l[i].1) ∧ W.cell? ⟨g2, o2 + i, none⟩ = some (.string l[i].2)) :=
    Lib.hid fun W i hi hW => by
      have a := hk1 i (by simpa [Nd.keys] using hi)
      have b := hv1 i (by simpa [Nd.vals] using hi)
      refine ⟨((World.cell?_of_block (hW.block _ (World.block_lt_of_cell? w _ a))).trans a).trans ?_, ((World.cell?_of_block (hW.block _ (World.block_lt_of_cell? w _ b))).trans b).trans ?_⟩
      · simp [Nd.keys]
      · simp [Nd.vals]
  obtain ⟨jB, hjB, hB0, hB1, hB2⟩ := info_parts infoB
  obtain ⟨c0, c1, c2⟩ := HC.out w (Below.refl _ _)
  have W1 := Lib.hid (u8_wrap_nat (l.length / 256))
  have W2 := Lib.hid (u8_wrap_nat l.length)
  rw [HB.out]
  clear h hk1 hv1 hc1 hc2 hd hlen
  go_enter Tryz.func212, Tryz.ntmps212
  go_wp2_with fail
  go_region_held3 (fun w' => w'.cell? ⟨p, 1, none⟩ = some (.slice (some ⟨g1, o1, none⟩) l.length cap1)) (go_keep) (fail)
  have T0 := Lib.hid (tr_drew (tr_start (w := w) (wr := w) (a := 76) (b := l.length / 256) (c := l.length) (x := 76) (y := IntKind.u8.wrap ((l.length : Int) / 256)) (z := IntKind.u8.wrap (l.length : Int)) (Below.refl _ _) rfl (by rw [← W1.out]; rfl) W2.out))
  generalize (w.alloc (.cells #[.int .u8 76, .int .u8 (IntKind.u8.wrap ((l.length : Int) / 256)), .int .u8 (IntKind.u8.wrap (l.length : Int))] 5)).drew = W0 at *
  obtain ⟨c0', c1', c2'⟩ := HC.out W0 T0.out.bel
  clear W1 W2
  generalize IntKind.u8.wrap ((l.length : Int) / 256) = z1 at *
  generalize IntKind.u8.wrap (l.length : Int) = z2 at *
  go_wp2_with fail
  go_loopg [4, 32] l.length (fun g s4 s32 wr => ∃ i, g = l.length - i ∧ i ≤ l.length ∧ s32 = .int .i64 (i : Nat) ∧ Hid (TR w wr s4 ([UInt8.ofNat 76, UInt8.ofNat (l.length / 256), UInt8.ofNat l.length] ++ (l.take i).flatMap entL)))
  case atStart => exact ⟨0, rfl, Nat.zero_le _, rfl, by simpa using T0⟩
  case round =>
    obtain ⟨i, rfl, hi, rfl, HT⟩ := hrel
    clear T0 c0 c1 c2 c0' c1' c2'
    by_cases hlt : i < l.length
    · have hsz := hK.out _ (List.getElem_mem hlt)
      obtain ⟨d0, d1, d2⟩ := HC.out wr HT.out.bel
      obtain ⟨d3, d4⟩ := HKC.out wr i hlt HT.out.bel
      obtain ⟨x1, hx1⟩ : ∃ x1, l[i].1 = x1 := ⟨_, rfl⟩
      obtain ⟨x2, hx2⟩ : ∃ x2, l[i].2 = x2 := ⟨_, rfl⟩
      have HX2 := Lib.hid hx2
      rw [hx1] at d3 hsz
      rw [hx2] at d4 hsz
      have HQ : Hid (([UInt8.ofNat 76, UInt8.ofNat (l.length / 256), UInt8.ofNat l.length] ++ (l.take i).flatMap entL).length ≤ 18000000) := Lib.hid (by
        have := entL_len (l.take i) fun q hq => hK.out q (List.mem_of_mem_take hq)
        simp at this ⊢; omega)
      have HN : Hid ([UInt8.ofNat 76, UInt8.ofNat (l.length / 256), UInt8.ofNat l.length] ++ (l.take (i + 1)).flatMap entL = ([UInt8.ofNat 76, UInt8.ofNat (l.length / 256), UInt8.ofNat l.length] ++ (l.take i).flatMap entL) ++ [UInt8.ofNat x1.size] ++ x1.data.toList ++ [UInt8.ofNat x2.size] ++ x2.data.toList) := Lib.hid (by
        rw [List.take_succ_eq_append_getElem hlt, List.flatMap_append, ← hx1, ← hx2]; simp [entL])
      have E1 := Lib.hid (byte_small hsz.1)
      have E2 := Lib.hid (byte_small (show x2.size ≤ 96 by omega))
      have s1 := hsz.1
      have s2 := hsz.2
      generalize [UInt8.ofNat 76, UInt8.ofNat (l.length / 256), UInt8.ofNat l.length] ++ (l.take i).flatMap entL = q at *
      have L1 := Lib.hid (len_b (n := q.length) (m := 1) (by have := HQ.out; omega) (by omega))
      clear hK hx1 hx2 hsz
      go_wp2_with (first
        | (refine chkA 91 9 ⟨_, _, by with_reducible rfl⟩ ?_
           refine Lib.wpList_append_own_string _ (by rfl) _ _ _ _ rfl w.heap.size 5 jB Tryz.underlying91 Tryz.underlying9 hjB hB0 hB1 hB2 _ _ _ (by rfl) T3.out.row x2 (by rfl) L4.out.1 L4.out.2.2 T3.out.bel.size ?_
           intro v4 Y4 ho4 hg4 ha4
           have T4 : Hid (TR w Y4 v4 (q ++ [UInt8.ofNat x1.size] ++ x1.data.toList ++ [UInt8.ofNat x2.size] ++ x2.data.toList)) := Lib.hid (tr_next T3.out (Below.refl _ _) (by rw [← strCells_bytes, ← Lib.size_eq]; exact ho4) hg4)
           clear ho4 hg4 ha4)
        | (refine chkA 91 91 ⟨_, _, by with_reducible rfl⟩ ?_
           refine wpList_append_y (by rfl) _ _ _ rfl w.heap.size 5 jB _ 1 1 Tryz.underlying91 hjB hB0 hB1 hB2 rfl (by decide) _ _ _ (by rfl) (tr_row T2.out ((Below.refl _ _).alloc (Nat.le_refl _) _)) _ 1 _ (by rfl) (yields_boxL _ #[.int .u8 (x2.size : Int)] _ 1 1) rfl (one1 _ rfl) L3.out.1 L3.out.2.1 (T2.out.bel.alloc T2.out.bel.size _).size ?_
           intro v3 Y3 ho3 hg3 ha3
           have T3 : Hid (TR w Y3 v3 (q ++ [UInt8.ofNat x1.size] ++ x1.data.toList ++ [UInt8.ofNat x2.size])) := Lib.hid (tr_next T2.out ((Below.refl _ _).alloc (Nat.le_refl _) _) (by simp only [bytesC, List.map_cons, List.map_nil, E2.out]; exact ho3) hg3)
           have L4 := Lib.hid (len_b (n := (q ++ [UInt8.ofNat x1.size] ++ x1.data.toList ++ [UInt8.ofNat x2.size]).length) (m := x2.size) (by have := HQ.out; simp only [List.length_append, List.length_cons, List.length_nil, ← Lib.size_eq]; omega) (by omega))
           have f5 := (HC.out Y3 T3.out.bel).2.2
           have f6 : Y3.cell? ⟨g2, o2 + i, none⟩ = some (.string x2) := by have := (HKC.out Y3 i hlt T3.out.bel).2; rwa [HX2.out] at this
           clear ho3 hg3 ha3)
        | (refine chkA 91 9 ⟨_, _, by with_reducible rfl⟩ ?_
           refine Lib.wpList_append_own_string _ (by rfl) _ _ _ _ rfl w.heap.size 5 jB Tryz.underlying91 Tryz.underlying9 hjB hB0 hB1 hB2 _ _ _ (by rfl) T1.out.row x1 (by rfl) L2.out.1 L2.out.2.2 T1.out.bel.size ?_
           intro v2 Y2 ho2 hg2 ha2
           have T2 : Hid (TR w Y2 v2 (q ++ [UInt8.ofNat x1.size] ++ x1.data.toList)) := Lib.hid (tr_next T1.out (Below.refl _ _) (by rw [← strCells_bytes, ← Lib.size_eq]; exact ho2) hg2)
           have L3 := Lib.hid (len_b (n := (q ++ [UInt8.ofNat x1.size] ++ x1.data.toList).length) (m := 1) (by have := HQ.out; simp only [List.length_append, List.length_cons, List.length_nil, ← Lib.size_eq]; omega) (by omega))
           have f0 := (HC.out Y2 T2.out.bel).1
           have f2 := (HC.out Y2 T2.out.bel).2.2
           have f4 : Y2.cell? ⟨g2, o2 + i, none⟩ = some (.string x2) := by have := (HKC.out Y2 i hlt T2.out.bel).2; rwa [HX2.out] at this
           clear ho2 hg2 ha2)
        | (refine chkA 91 91 ⟨_, _, by with_reducible rfl⟩ ?_
           refine wpList_append_y (by rfl) _ _ _ rfl w.heap.size 5 jB _ 1 1 Tryz.underlying91 hjB hB0 hB1 hB2 rfl (by decide) _ _ _ (by rfl) (tr_row HT.out ((Below.refl _ _).alloc (Nat.le_refl _) _)) _ 1 _ (by rfl) (yields_boxL _ #[.int .u8 (x1.size : Int)] _ 1 1) rfl (one1 _ rfl) L1.out.1 L1.out.2.1 (HT.out.bel.alloc HT.out.bel.size _).size ?_
           intro v1 Y1 ho1 hg1 ha1
           have T1 : Hid (TR w Y1 v1 (q ++ [UInt8.ofNat x1.size])) := Lib.hid (tr_next HT.out ((Below.refl _ _).alloc (Nat.le_refl _) _) (by simp only [bytesC, List.map_cons, List.map_nil, E1.out]; exact ho1) hg1)
           have L2 := Lib.hid (len_b (n := (q ++ [UInt8.ofNat x1.size]).length) (m := x1.size) (by have := HQ.out; simp; omega) (by omega))
           clear ho1 hg1 ha1))
      go_roundg (l.length - (i + 1))
      case measure => omega
      case rel => exact ⟨i + 1, rfl, by omega, by simp, by rw [HN.out]; exact T4⟩
    · obtain rfl : i = l.length := by omega
      have hcv := conv_rowC HT.out.row
      have HB3 := Lib.hid HT.out.bel
      rw [List.take_length] at hcv
      clear HT hK HKC
      go_wp2_with fail
      go_ret
      exact ⟨rfl, HB3.out⟩
end Go.Proofs.YtdcjhpafipbpkaaGreatDoor
namespace Go.Proofs.YtdcjhpafipbpkaaGreatDoor
set_option linter.unusedVariables false
set_option maxRecDepth 100000
set_option maxHeartbeats 2000000
open Go.RowKit
theorem entI_len (l : List (ByteArray × Nat)) (h : ∀ p ∈ l, p.1.size ≤ 96 ∧ p.2 < 4294967296) : (l.flatMap entI).length ≤ 154 * l.length := by
  induction l with
  | nil => simp
  | cons p t ih =>
    have h1 := h p (by simp)
    have h2 := ih fun q hq => h q (by simp [hq])
    rw [Lib.size_eq] at h1
    simp only [List.flatMap_cons, List.length_append, List.length_cons, entI, be4, List.length_nil]
    omega
theorem one4 (a b c d : Value) (ha : a.oneCell' = true) (hb : b.oneCell' = true) (hc : c.oneCell' = true) (hd : d.oneCell' = true) : ∀ u ∈ [a, b, c, d], u.oneCell' = true := by
  intro u hu; simp at hu; rcases hu with rfl | rfl | rfl | rfl <;> assumption
theorem be4_cells (c : Nat) (h : c < 4294967296) : bytesC (be4 c) = [.int .u8 ((c : Int) / 16777216), .int .u8 ((c : Int) / 65536 % 256), .int .u8 ((c : Int) / 256 % 256), .int .u8 ((c : Int) % 256)] := by
  have e : ∀ n : Nat, ((UInt8.ofNat n).toNat : Int) = ((n % 256 : Nat) : Int) := fun n => by rw [UInt8.toNat_ofNat']
  have e1 : ((c / 16777216 % 256 : Nat) : Int) = (c : Int) / 16777216 := by omega
  have e2 : ((c / 65536 % 256 : Nat) : Int) = (c : Int) / 65536 % 256 := by omega
  have e3 : ((c / 256 % 256 : Nat) : Int) = (c : Int) / 256 % 256 := by omega
  have e4 : ((c % 256 : Nat) : Int) = (c : Int) % 256 := by omega
  simp only [bytesC, be4, List.map_cons, List.map_nil, e, e1, e2, e3, e4]
theorem text_inner (l : List (ByteArray × Nat)) (p : Nat) (vk vv vi : Value) (w : World) (hd : (Nd.inner l).Ok) (h : NdV w p (.inner l) vk vv vi) :
    Calls Tryz.prog 212 #[.pointer (some ⟨p, 0, none⟩)] w fun e w' => e = .returned (.string (ofL (Nd.inner l).bytes)) ∧ Below w.heap.size w w' := by
  have hlen : (Nd.inner l).len = l.length := by simp [Nd.len, Nd.keys]
  have hn0 := hd.pos
  have hn1 := hd.few
  rw [hlen] at hn0 hn1
  have hK : Hid (∀ p ∈ l, p.1.size ≤ 96 ∧ p.2 < 4294967296) := Lib.hid fun p hp => ⟨hd.key _ (by simp [Nd.keys]; exact ⟨_, hp⟩), hd.kid _ (by simp [Nd.kids]; exact ⟨_, hp⟩)⟩
  obtain ⟨g1, o1, cap1, ev1, hc1, hk1⟩ := h.ks.lit (by simp [Nd.keys]; omega)
  obtain ⟨g2, o2, cap2, ev2, hc2, hv1⟩ := h.is.lit (by simp [Nd.kids]; omega)
  rw [List.length_map, show (Nd.inner l).keys.length = l.length by simp [Nd.keys]] at ev1
  rw [List.length_map, show (Nd.inner l).kids.length = l.length by simp [Nd.kids]] at ev2
  subst ev1 ev2
  have HB : Hid ((Nd.inner l).bytes = [UInt8.ofNat 78, UInt8.ofNat (l.length / 256), UInt8.ofNat l.length] ++ l.flatMap entI) := Lib.hid (by simp [Nd.bytes, Nd.kind, Nd.body, hlen])
  have HC : Hid (∀ W, Below w.heap.size w W → W.cell? ⟨p, 0, none⟩ = some (.bool false) ∧ W.cell? ⟨p, 1, none⟩ = some (.slice (some ⟨g1, o1, none⟩) l.length cap1) ∧ W.cell? ⟨p, 3, none⟩ = some (.slice (some ⟨g2, o2, none⟩) l.length cap2)) :=
    Lib.hid fun W hW => ⟨cell_lit (h.below hW).blk rfl, cell_lit (h.below hW).blk rfl, cell_lit (h.below hW).blk rfl⟩
  have HKC : Hid (∀ W i (hi : i < l.length), Below w.heap.size w W → W.cell? ⟨g1, o1 + i, none⟩ = some (.string l[i].1) ∧ W.cell? ⟨g2, o2 + i, none⟩ = some (.int .i64 (l[i].2 : Int))) :=
    Lib.hid fun W i hi hW => by
      have a := hk1 i (by simpa [Nd.keys] using hi)
      have b := hv1 i (by simpa [Nd.kids] using hi)
      refine ⟨((World.cell?_of_block (hW.block _ (World.block_lt_of_cell? w _ a))).trans a).trans ?_, ((World.cell?_of_block (hW.block _ (World.block_lt_of_cell? w _ b))).trans b).trans ?_⟩
      · simp [Nd.keys]
      · simp [Nd.kids]
  obtain ⟨jB, hjB, hB0, hB1, hB2⟩ := info_parts infoB
  obtain ⟨c0, c1, c2⟩ := HC.out w (Below.refl _ _)
  have W1 := Lib.hid (u8_wrap_nat (l.length / 256))
  have W2 := Lib.hid (u8_wrap_nat l.length)
  rw [HB.out]
  clear h hk1 hv1 hc1 hc2 hd hlen
  go_enter Tryz.func212, Tryz.ntmps212
  go_wp2_with fail
  go_region_held3 (fun w' => w'.cell? ⟨p, 1, none⟩ = some (.slice (some ⟨g1, o1, none⟩) l.length cap1)) (go_keep) (fail)
  have T0 := Lib.hid (tr_drew (tr_start (w := w) (wr := w) (a := 78) (b := l.length / 256) (c := l.length) (x := 78) (y := IntKind.u8.wrap ((l.length : Int) / 256)) (z := IntKind.u8.wrap (l.length : Int)) (Below.refl _ _) rfl (by rw [← W1.out]; rfl) W2.out))
  generalize (w.alloc (.cells #[.int .u8 78, .int .u8 (IntKind.u8.wrap ((l.length : Int) / 256)), .int .u8 (IntKind.u8.wrap (l.length : Int))] 5)).drew = W0 at *
  obtain ⟨c0', c1', c2'⟩ := HC.out W0 T0.out.bel
  clear W1 W2
  generalize IntKind.u8.wrap ((l.length : Int) / 256) = z1 at *
  generalize IntKind.u8.wrap (l.length : Int) = z2 at *
  go_wp2_with fail
  go_loopg [4, 32] l.length (fun g s4 s32 wr => ∃ i, g = l.length - i ∧ i ≤ l.length ∧ s32 = .int .i64 (i : Nat) ∧ Hid (TR w wr s4 ([UInt8.ofNat 78, UInt8.ofNat (l.length / 256), UInt8.ofNat l.length] ++ (l.take i).flatMap entI)))
  case atStart => exact ⟨0, rfl, Nat.zero_le _, rfl, by simpa using T0⟩
  case round =>
    obtain ⟨i, rfl, hi, rfl, HT⟩ := hrel
    clear T0 c0 c1 c2 c0' c1' c2'
    by_cases hlt : i < l.length
    · have hsz := hK.out _ (List.getElem_mem hlt)
      obtain ⟨d0, d1, d2⟩ := HC.out wr HT.out.bel
      obtain ⟨d3, d4⟩ := HKC.out wr i hlt HT.out.bel
      obtain ⟨x1, hx1⟩ : ∃ x1, l[i].1 = x1 := ⟨_, rfl⟩
      obtain ⟨x2, hx2⟩ : ∃ x2, l[i].2 = x2 := ⟨_, rfl⟩
      have HX2 := Lib.hid hx2
      rw [hx1] at d3 hsz
      rw [hx2] at d4 hsz
      have HQ : Hid (([UInt8.ofNat 78, UInt8.ofNat (l.length / 256), UInt8.ofNat l.length] ++ (l.take i).flatMap entI).length ≤ 18000000) := Lib.hid (by
        have := entI_len (l.take i) fun q hq => hK.out q (List.mem_of_mem_take hq)
        simp at this ⊢; omega)
      have HN : Hid ([UInt8.ofNat 78, UInt8.ofNat (l.length / 256), UInt8.ofNat l.length] ++ (l.take (i + 1)).flatMap entI = ([UInt8.ofNat 78, UInt8.ofNat (l.length / 256), UInt8.ofNat l.length] ++ (l.take i).flatMap entI) ++ [UInt8.ofNat x1.size] ++ x1.data.toList ++ be4 x2) := Lib.hid (by
        rw [List.take_succ_eq_append_getElem hlt, List.flatMap_append, ← hx1, ← hx2]; simp [entI])
      have E1 := Lib.hid (byte_small hsz.1)
      have E2 := Lib.hid (be4_cells x2 hsz.2)
      have s1 := hsz.1
      have s2 := hsz.2
      generalize [UInt8.ofNat 78, UInt8.ofNat (l.length / 256), UInt8.ofNat l.length] ++ (l.take i).flatMap entI = q at *
      have L1 := Lib.hid (len_b (n := q.length) (m := 1) (by have := HQ.out; omega) (by omega))
      clear hK hx1 hx2 hsz
      go_wp2_with (first
        | (refine chkA 91 91 ⟨_, _, by with_reducible rfl⟩ ?_
           refine wpList_append_y (by rfl) _ _ _ rfl w.heap.size 5 jB _ 1 1 Tryz.underlying91 hjB hB0 hB1 hB2 rfl (by decide) _ _ _ (by rfl) (tr_row T2.out ((Below.refl _ _).alloc (Nat.le_refl _) _)) _ 4 _ (by rfl) (yields_boxL _ #[.int .u8 ((x2 : Int) / 16777216), .int .u8 ((x2 : Int) / 65536 % 256), .int .u8 ((x2 : Int) / 256 % 256), .int .u8 ((x2 : Int) % 256)] _ 4 4) rfl (one4 _ _ _ _ rfl rfl rfl rfl) L3.out.1 L3.out.2.1 (T2.out.bel.alloc T2.out.bel.size _).size ?_
           intro v3 Y3 ho3 hg3 ha3
           have T3 : Hid (TR w Y3 v3 (q ++ [UInt8.ofNat x1.size] ++ x1.data.toList ++ be4 x2)) := Lib.hid (tr_next T2.out ((Below.refl _ _).alloc (Nat.le_refl _) _) (by rw [E2.out]; exact ho3) hg3)
           clear ho3 hg3 ha3)
        | (refine chkA 91 9 ⟨_, _, by with_reducible rfl⟩ ?_
           refine Lib.wpList_append_own_string _ (by rfl) _ _ _ _ rfl w.heap.size 5 jB Tryz.underlying91 Tryz.underlying9 hjB hB0 hB1 hB2 _ _ _ (by rfl) T1.out.row x1 (by rfl) L2.out.1 L2.out.2.2 T1.out.bel.size ?_
           intro v2 Y2 ho2 hg2 ha2
           have T2 : Hid (TR w Y2 v2 (q ++ [UInt8.ofNat x1.size] ++ x1.data.toList)) := Lib.hid (tr_next T1.out (Below.refl _ _) (by rw [← strCells_bytes, ← Lib.size_eq]; exact ho2) hg2)
           have L3 := Lib.hid (len_b (n := (q ++ [UInt8.ofNat x1.size] ++ x1.data.toList).length) (m := 4) (by have := HQ.out; simp only [List.length_append, List.length_cons, List.length_nil, ← Lib.size_eq]; omega) (by omega))
           have f0 := (HC.out Y2 T2.out.bel).1
           have f2 := (HC.out Y2 T2.out.bel).2.2
           have f4 : Y2.cell? ⟨g2, o2 + i, none⟩ = some (.int .i64 (x2 : Int)) := by have := (HKC.out Y2 i hlt T2.out.bel).2; rwa [HX2.out] at this
           clear ho2 hg2 ha2)
        | (refine chkA 91 91 ⟨_, _, by with_reducible rfl⟩ ?_
           refine wpList_append_y (by rfl) _ _ _ rfl w.heap.size 5 jB _ 1 1 Tryz.underlying91 hjB hB0 hB1 hB2 rfl (by decide) _ _ _ (by rfl) (tr_row HT.out ((Below.refl _ _).alloc (Nat.le_refl _) _)) _ 1 _ (by rfl) (yields_boxL _ #[.int .u8 (x1.size : Int)] _ 1 1) rfl (one1 _ rfl) L1.out.1 L1.out.2.1 (HT.out.bel.alloc HT.out.bel.size _).size ?_
           intro v1 Y1 ho1 hg1 ha1
           have T1 : Hid (TR w Y1 v1 (q ++ [UInt8.ofNat x1.size])) := Lib.hid (tr_next HT.out ((Below.refl _ _).alloc (Nat.le_refl _) _) (by simp only [bytesC, List.map_cons, List.map_nil, E1.out]; exact ho1) hg1)
           have L2 := Lib.hid (len_b (n := (q ++ [UInt8.ofNat x1.size]).length) (m := x1.size) (by have := HQ.out; simp; omega) (by omega))
           clear ho1 hg1 ha1))
      go_roundg (l.length - (i + 1))
      case measure => omega
      case rel => exact ⟨i + 1, rfl, by omega, by simp, by rw [HN.out]; exact T3⟩
    · obtain rfl : i = l.length := by omega
      have hcv := conv_rowC HT.out.row
      have HB3 := Lib.hid HT.out.bel
      rw [List.take_length] at hcv
      clear HT hK HKC
      go_wp2_with fail
      go_ret
      exact ⟨rfl, HB3.out⟩
end Go.Proofs.YtdcjhpafipbpkaaGreatDoor
namespace Go.Proofs.YtdcjhpafipbpkaaGreatDoor
set_option linter.unusedVariables false
set_option maxRecDepth 100000
set_option maxHeartbeats 1000000
open Go.RowKit
def wrA (cur : Array Value) (o : Nat) : List Value → Array Value
  | [] => cur
  | v :: r => wrA (cur.setIfInBounds o v) (o + 1) r
theorem wrA_size : ∀ (vs : List Value) (o : Nat) (cur : Array Value), (wrA cur o vs).size = cur.size
  | [], o, cur => rfl
  | v :: r, o, cur => by rw [wrA, wrA_size r]; simp
theorem wrA_toList : ∀ (vs : List Value) (o : Nat) (cur : Array Value) (X Y Z : List Value), cur.toList = X ++ Y ++ Z → X.length = o → Y.length = vs.length → (wrA cur o vs).toList = X ++ vs ++ Z
  | [], o, cur, X, Y, Z, h, hX, hY => by
    obtain rfl : Y = [] := List.eq_nil_of_length_eq_zero hY
    exact h
  | v :: r, o, cur, X, Y, Z, h, hX, hY => by
    cases Y with
    | nil => simp at hY
    | cons y Y =>
      rw [wrA, wrA_toList r (o + 1) (cur.setIfInBounds o v) (X ++ [v]) Y Z ?_ (by simp [hX]) (by simpa using hY)]
      · simp
      · rw [Array.toList_setIfInBounds, h, ← hX]; simp
theorem setCells_lit (b : Nat) {e : TypeId} {fr : Nat × Nat} : ∀ (vs : List Value) (o : Nat) (w : World) (cur : Array Value), w.heap[b]? = some (.cells cur e fr) → (w.setCells b o vs).heap[b]? = some (.cells (wrA cur o vs) e fr)
  | [], o, w, cur, h => h
  | v :: r, o, w, cur, h => setCells_lit b r (o + 1) _ _ (heap_set_lit h v)
theorem Upd.setCells {S : Nat → Prop} {a : World} {b : Nat} (hb : S b ∨ a.heap.size ≤ b) : ∀ (vs : List Value) (o : Nat) {w : World}, Upd S a w → Upd S a (w.setCells b o vs)
  | [], o, w, h => h
  | v :: r, o, w, h => Upd.setCells hb r (o + 1) (h.setCell (p := ⟨b, o, none⟩) hb v)
theorem shape_lit {w : World} {b : Nat} {cs : Array Value} {T : TypeId} {fr : Nat × Nat} (h : w.heap[b]? = some (.cells cs T fr)) : w.shape? b = some (T, cs.size) := by simp [World.shape?, h]
/-- A row at its block. -/
theorem row_lit {w : World} {base : Nat} {e : TypeId} {n : Nat} {g cap : Nat} {xs : List Value} (h : w.ownsRow base e 1 (.slice (some ⟨g, 0, none⟩) n cap) n xs) : ∃ cur, w.heap[g]? = some (.cells cur e (0, 0)) ∧ base ≤ g ∧ n ≤ cap ∧ cap ≤ maxLen ∧ cur.size = cap ∧ cur.toList.take n = xs ∧ xs.length = n ∧ ∃ Z, cur.toList = xs ++ Z ∧ Z.length = cap - n := by
  obtain ⟨h1, h⟩ := h
  rcases h with ⟨h, -⟩ | ⟨g', cap', cur, e', h2, h3, h4, h5, h6, h7⟩
  · cases h
  · cases e'
    refine ⟨cur, h3, h2, h4, h5, by omega, by simpa using h7, by omega, cur.toList.drop n, ?_, ?_⟩
    · rw [← h7, Nat.mul_one, List.take_append_drop]
    · rw [List.length_drop, Array.length_toList]; omega
theorem row_mk {w : World} {base : Nat} {e : TypeId} {n : Nat} {g cap : Nat} {xs Z : List Value} {cur : Array Value} (h : w.heap[g]? = some (.cells cur e (0, 0))) (hb : base ≤ g) (hn : n ≤ cap) (hm : cap ≤ maxLen) (hs : cur.size = cap) (hc : cur.toList = xs ++ Z) (hx : xs.length = n) : w.ownsRow base e 1 (.slice (some ⟨g, 0, none⟩) n cap) n xs :=
  ⟨by omega, .inr ⟨g, cap, cur, rfl, hb, h, hn, hm, by omega, by rw [hc, Nat.mul_one, ← hx, List.take_left]⟩⟩
/-- What an insertion answers. -/
def InsRow (e : TypeId) (base : Nat) (v : Value) (n : Nat) (xs : List Value) (w : World) (v' : Value) (w' : World) : Prop :=
  w'.ownsRow base e 1 v' (n + 1) xs ∧ Upd (fun k => v.ownBlock = some k) w w' ∧ ∀ k, v'.ownBlock = some k → v.ownBlock = some k ∨ w.heap.size ≤ k
theorem grow_lit {w : World} {e : TypeId} {base n : Nat} {xs : List Value} {cur : Array Value} {v : Value} {c : Nat} (hb : base ≤ w.heap.size) (hn : n + 1 ≤ maxLen) (T : Nat) (hT : T = grownCap w (n + 1) c e) (hs : cur.size = T) (hx : xs.length = n + 1) (Z : List Value) (hc : cur.toList = xs ++ Z) :
    InsRow e base v n xs w (.slice (some ⟨w.heap.size, 0, none⟩) (n + 1) T) (w.drew.alloc (.cells cur e)) := by
  have h1 := grownCap_ge w (n + 1) c e
  have h2 := grownCap_le_maxLen w (n + 1) c e hn
  refine ⟨row_mk (heap_alloc_new _ _) hb (by omega) (by omega) hs hc hx, ((Upd.refl _ _).drew).alloc _, fun k hk => .inr ?_⟩
  simp [Value.ownBlock] at hk; omega
theorem InsS_c (base n : Nat) (v : Value) (A B : List Value) (x : Value) (vb : Nat) (w : World) (h : w.ownsRow base 9 1 v n (A ++ B)) (hB : base ≤ w.heap.size) (hn : n ≤ 100000) (h1 : ∀ y ∈ A ++ B, y.oneCell' = true) (hx : x.oneCell' = true)
    (hvb : w.heap[vb]? = some (.cells #[x] 9 (0, 0))) (hne : v.ownBlock ≠ some vb) :
    Calls Tryz.prog 213 #[v, .int .i64 (A.length : Nat), .slice (some ⟨vb, 0, none⟩) 1 1] w fun e w' => ∃ v', e = .returned v' ∧ Hid (InsRow 9 base v n (A ++ x :: B) w v' w') := by
  have hlen : (A ++ B).length = n := by have := h.1; omega
  have hlen2 : (A ++ x :: B).length = n + 1 := by simp at hlen ⊢; omega
  have hml : n + 1 ≤ maxLen := by unfold maxLen; omega
  have hvs : ∀ j u, ([x] : List Value)[j]? = some u → w.cell? ⟨vb, 0 + j, none⟩ = some u := fun j u hj => by
    rw [Nat.zero_add]; exact cell_lit hvb (by simpa using hj)
  have h1v : ∀ u ∈ ([x] : List Value), u.oneCell' = true := fun u hu => by simp at hu; rw [hu]; exact hx
  rcases hB0 : B with _ | ⟨y, B'⟩
  · subst hB0
    have hA : A.length = n := by simpa using hlen
    rw [List.append_nil] at h h1 hlen
    rw [hA]
    rcases h.2 with ⟨rfl, h0⟩ | ⟨g, cap, cur0, rfl, -⟩
    · subst h0
      obtain rfl : A = [] := List.eq_nil_of_length_eq_zero hA
      refine (Any2.slices_Insert_string_end_grow Tryz.laysNm222 none 0 0 vb 0 1 1 [] [x] w (by omega) (by omega) (by omega) (by omega) rfl rfl (fun _ => rfl) (fun a e => by cases e) hvs h1v).mono ?_
      rintro e w' ⟨rfl, rfl⟩
      refine ⟨_, rfl, grow_lit hB (by unfold maxLen; omega) _ rfl ?_ (by simp) _ (by simp; rfl)⟩
      have := grownCap_ge w (0 + 1) 0 9
      simp only [Array.size_append, List.size_toArray, size_zeroCells, List.length_append, List.length_cons, List.length_nil]
      show 0 + (0 + 1) + (grownCap w (0 + 1) 0 9 - (0 + 1)) * 1 = grownCap w (0 + 1) 0 9
      omega
    · obtain ⟨cur, g1, g2, g3, g4, g5, g6, g7, Z, g8, g9⟩ := row_lit h
      have hcs : ∀ j u, A[j]? = some u → w.cell? ⟨g, 0 + j, none⟩ = some u := fun j u hj => by
        rw [Nat.zero_add]; refine cell_lit g1 ?_
        rw [← Array.getElem?_toList, g8, List.getElem?_append_left (List.getElem?_eq_some_iff.1 hj).1]; exact hj
      by_cases hroom : n + 1 ≤ cap
      · refine (Any2.slices_Insert_string_end_room Tryz.laysNm222 g 0 n cap vb 0 1 1 [x] w (by omega) hroom (by unfold maxLen at g4; omega) rfl (fun j hj => ?_) (fun j hj => frozen_lit g1 _) hvs h1v).mono ?_
        · obtain rfl : j = 0 := by omega
          have : n < cur.size := by omega
          simp [World.cell?, g1, this]
        · rintro e w' ⟨rfl, rfl⟩
          rw [Nat.zero_add]
          cases Z with
          | nil => simp at g9; omega
          | cons z Z =>
            refine ⟨_, rfl, row_mk (setCells_lit g [x] n w cur g1) g2 hroom g4 (by rw [wrA_size]; exact g5) (Z := Z) ?_ hlen2, Upd.setCells (S := fun k => (Value.slice (some (⟨g, 0, none⟩ : Addr)) n cap).ownBlock = some k) (b := g) (.inl rfl) _ _ (Upd.refl _ _), fun k hk => .inl hk⟩
            exact (wrA_toList [x] n cur A [z] Z (by rw [g8]; simp) hA rfl).trans (by simp)
      · refine (Any2.slices_Insert_string_end_grow Tryz.laysNm222 (some ⟨g, 0, none⟩) n cap vb 0 1 1 A [x] w (by omega) g3 (by omega) (by omega) hA rfl (fun e => by cases e) (fun a e j u hj => by cases e; rw [Addr.add_lit]; exact hcs j u hj) hvs h1v).mono ?_
        rintro e w' ⟨rfl, rfl⟩
        refine ⟨_, rfl, grow_lit hB hml _ rfl ?_ hlen2 _ (by simp; rfl)⟩
        have := grownCap_ge w (n + 1) cap 9
        simp only [Array.size_append, List.size_toArray, size_zeroCells, List.length_append, hA, List.length_cons, List.length_nil]
        show n + (0 + 1) + (grownCap w (n + 1) cap 9 - (n + 1)) * 1 = grownCap w (n + 1) cap 9
        omega
  · subst hB0
    have hi : A.length < n := by simp at hlen; omega
    rcases h.2 with ⟨rfl, h0⟩ | ⟨g, cap, cur0, rfl, -⟩
    · omega
    · obtain ⟨cur, g1, g2, g3, g4, g5, g6, g7, Z, g8, g9⟩ := row_lit h
      have hgv : vb ≠ g := fun e => hne (by rw [e]; rfl)
      have hcs : ∀ j u, (A ++ y :: B')[j]? = some u → w.cell? ⟨g, 0 + j, none⟩ = some u := fun j u hj => by
        rw [Nat.zero_add]; refine cell_lit g1 ?_
        rw [← Array.getElem?_toList, g8, List.getElem?_append_left (List.getElem?_eq_some_iff.1 hj).1]; exact hj
      have hdr : (A ++ y :: B').drop A.length = y :: B' := by simp
      have htk : (A ++ y :: B').take A.length = A := by simp
      by_cases hroom : n + 1 ≤ cap
      · refine (Any2.slices_Insert_string_shift Tryz.laysNm222 g 0 n cap A.length vb 0 1 1 (A ++ y :: B') [x] w hi (by omega) hroom (by unfold maxLen at g4; omega) hgv hlen rfl hcs (fun j hj => ?_) (fun j hj => frozen_lit g1 _) hvs h1 h1v _ _ _ _ (shape_lit hvb) (shape_lit g1) (by omega) (frozen_lit hvb _) (frozen_lit hvb _)).mono ?_
        · have : 0 + j < cur.size := by omega
          simp at this
          simp [World.cell?, g1, this]
        · rintro e w' ⟨rfl, rfl⟩
          rw [hdr, Nat.zero_add, Nat.zero_add]
          cases Z with
          | nil => simp at g9; omega
          | cons z Z =>
            have a1 : (w.drew.setCells g (A.length + 1) (y :: B')).heap[g]? = _ := setCells_lit g (y :: B') (A.length + 1) w.drew cur g1
            have a2 := setCells_lit g [x] A.length _ _ a1
            refine ⟨_, rfl, row_mk a2 g2 hroom g4 (by rw [wrA_size, wrA_size]; exact g5) (Z := Z) ?_ hlen2, Upd.setCells (S := fun k => (Value.slice (some (⟨g, 0, none⟩ : Addr)) n cap).ownBlock = some k) (b := g) (.inl rfl) _ _ (Upd.setCells (S := fun k => (Value.slice (some (⟨g, 0, none⟩ : Addr)) n cap).ownBlock = some k) (b := g) (.inl rfl) _ _ (Upd.refl _ _).drew), fun k hk => .inl hk⟩
            have b1 : (wrA cur (A.length + 1) (y :: B')).toList = (A ++ [y]) ++ (y :: B') ++ Z := by
              refine wrA_toList (y :: B') (A.length + 1) cur (A ++ [y]) (B' ++ [z]) Z (by rw [g8]; simp) (by simp) (by simp)
            exact (wrA_toList [x] A.length _ A [y] (y :: B' ++ Z) (by rw [b1]; simp) rfl rfl).trans (by simp)
      · refine (Any2.slices_Insert_string_grow Tryz.laysNm222 g 0 n cap A.length vb 0 1 1 (A ++ y :: B') [x] w hi (by omega) g3 (by omega) (by omega) hlen rfl hcs hvs h1 h1v).mono ?_
        rintro e w' ⟨rfl, rfl⟩
        rw [hdr, htk]
        have c1 := grownCap_ge w (n + 1) cap 9
        have c2 := grownCap_le_maxLen w (n + 1) cap 9 hml
        change ∃ v', _ = _ ∧ Hid (InsRow 9 base _ n _ w v' ((((w.alloc (.cells (A.toArray ++ Builtin.zeroCells (Value.string ⟨#[]⟩).cells (n + 1 - A.length) ++ Builtin.zeroCells (Value.string ⟨#[]⟩).cells (grownCap w (n + 1) cap 9 - (n + 1))) 9)).drew.setCells w.heap.size A.length [x]).drew).setCells w.heap.size (A.length + 1) (y :: B')))
        obtain ⟨Y, hY⟩ : ∃ Y, A.toArray ++ Builtin.zeroCells (Value.string ⟨#[]⟩).cells (n + 1 - A.length) ++ Builtin.zeroCells (Value.string ⟨#[]⟩).cells (grownCap w (n + 1) cap 9 - (n + 1)) = Y := ⟨_, rfl⟩
        have hY1 : Y.size = grownCap w (n + 1) cap 9 := by
          rw [← hY]
          simp only [Array.size_append, List.size_toArray, size_zeroCells]
          show A.length + (n + 1 - A.length) * 1 + (grownCap w (n + 1) cap 9 - (n + 1)) * 1 = _
          omega
        have hY2 : ∃ M Z', Y.toList = A ++ M ++ Z' ∧ M.length = n + 1 - A.length := by
          refine ⟨(Builtin.zeroCells (Value.string ⟨#[]⟩).cells (n + 1 - A.length)).toList, (Builtin.zeroCells (Value.string ⟨#[]⟩).cells (grownCap w (n + 1) cap 9 - (n + 1))).toList, by rw [← hY]; simp, ?_⟩
          rw [Array.length_toList, size_zeroCells]
          show (n + 1 - A.length) * 1 = _
          omega
        rw [hY]
        clear hY
        obtain ⟨M, Z', hM, hML⟩ := hY2
        have hBl : B'.length + 1 = n - A.length := by simp at hlen; omega
        cases M with
        | nil => simp at hML; omega
        | cons m0 M =>
          have a0 : ((w.alloc (.cells Y 9)).drew).heap[w.heap.size]? = some (.cells Y 9 (0, 0)) := heap_alloc_new _ _
          have a1 := setCells_lit w.heap.size [x] A.length _ _ a0
          have a2 := setCells_lit w.heap.size (y :: B') (A.length + 1) (((w.alloc (.cells Y 9)).drew.setCells w.heap.size A.length [x]).drew) _ a1
          refine ⟨_, rfl, row_mk a2 hB c1 c2 (by rw [wrA_size, wrA_size]; exact hY1) (Z := Z') ?_ hlen2, Upd.setCells (b := w.heap.size) (.inr (Nat.le_refl _)) _ _ (Upd.drew (Upd.setCells (b := w.heap.size) (.inr (Nat.le_refl _)) _ _ ((Upd.refl _ _).alloc _).drew)), fun k hk => .inr (by simp [Value.ownBlock] at hk; omega)⟩
          have b1 : (wrA Y A.length [x]).toList = A ++ [x] ++ (M ++ Z') := wrA_toList [x] A.length Y A [m0] (M ++ Z') (by rw [hM]; simp) rfl rfl
          exact (wrA_toList (y :: B') (A.length + 1) _ (A ++ [x]) M Z' (by rw [b1]; simp) (by simp) (by simp at hML ⊢; omega)).trans (by simp)
theorem InsI_c (base n : Nat) (v : Value) (A B : List Value) (x : Value) (vb : Nat) (w : World) (h : w.ownsRow base 3 1 v n (A ++ B)) (hB : base ≤ w.heap.size) (hn : n ≤ 100000) (h1 : ∀ y ∈ A ++ B, y.oneCell' = true) (hx : x.oneCell' = true)
    (hvb : w.heap[vb]? = some (.cells #[x] 3 (0, 0))) (hne : v.ownBlock ≠ some vb) :
    Calls Tryz.prog 214 #[v, .int .i64 (A.length : Nat), .slice (some ⟨vb, 0, none⟩) 1 1] w fun e w' => ∃ v', e = .returned v' ∧ Hid (InsRow 3 base v n (A ++ x :: B) w v' w') := by
  have hlen : (A ++ B).length = n := by have := h.1; omega
  have hlen2 : (A ++ x :: B).length = n + 1 := by simp at hlen ⊢; omega
  have hml : n + 1 ≤ maxLen := by unfold maxLen; omega
  have hvs : ∀ j u, ([x] : List Value)[j]? = some u → w.cell? ⟨vb, 0 + j, none⟩ = some u := fun j u hj => by
    rw [Nat.zero_add]; exact cell_lit hvb (by simpa using hj)
  have h1v : ∀ u ∈ ([x] : List Value), u.oneCell' = true := fun u hu => by simp at hu; rw [hu]; exact hx
  rcases hB0 : B with _ | ⟨y, B'⟩
  · subst hB0
    have hA : A.length = n := by simpa using hlen
    rw [List.append_nil] at h h1 hlen
    rw [hA]
    rcases h.2 with ⟨rfl, h0⟩ | ⟨g, cap, cur0, rfl, -⟩
    · subst h0
      obtain rfl : A = [] := List.eq_nil_of_length_eq_zero hA
      refine (Any2.slices_Insert_int_end_grow Tryz.laysNm221 none 0 0 vb 0 1 1 [] [x] w (by omega) (by omega) (by omega) (by omega) rfl rfl (fun _ => rfl) (fun a e => by cases e) hvs h1v).mono ?_
      rintro e w' ⟨rfl, rfl⟩
      refine ⟨_, rfl, grow_lit hB (by unfold maxLen; omega) _ rfl ?_ (by simp) _ (by simp; rfl)⟩
      have := grownCap_ge w (0 + 1) 0 3
      simp only [Array.size_append, List.size_toArray, size_zeroCells, List.length_append, List.length_cons, List.length_nil]
      show 0 + (0 + 1) + (grownCap w (0 + 1) 0 3 - (0 + 1)) * 1 = grownCap w (0 + 1) 0 3
      omega
    · obtain ⟨cur, g1, g2, g3, g4, g5, g6, g7, Z, g8, g9⟩ := row_lit h
      have hcs : ∀ j u, A[j]? = some u → w.cell? ⟨g, 0 + j, none⟩ = some u := fun j u hj => by
        rw [Nat.zero_add]; refine cell_lit g1 ?_
        rw [← Array.getElem?_toList, g8, List.getElem?_append_left (List.getElem?_eq_some_iff.1 hj).1]; exact hj
      by_cases hroom : n + 1 ≤ cap
      · refine (Any2.slices_Insert_int_end_room Tryz.laysNm221 g 0 n cap vb 0 1 1 [x] w (by omega) hroom (by unfold maxLen at g4; omega) rfl (fun j hj => ?_) (fun j hj => frozen_lit g1 _) hvs h1v).mono ?_
        · obtain rfl : j = 0 := by omega
          have : n < cur.size := by omega
          simp [World.cell?, g1, this]
        · rintro e w' ⟨rfl, rfl⟩
          rw [Nat.zero_add]
          cases Z with
          | nil => simp at g9; omega
          | cons z Z =>
            refine ⟨_, rfl, row_mk (setCells_lit g [x] n w cur g1) g2 hroom g4 (by rw [wrA_size]; exact g5) (Z := Z) ?_ hlen2, Upd.setCells (S := fun k => (Value.slice (some (⟨g, 0, none⟩ : Addr)) n cap).ownBlock = some k) (b := g) (.inl rfl) _ _ (Upd.refl _ _), fun k hk => .inl hk⟩
            exact (wrA_toList [x] n cur A [z] Z (by rw [g8]; simp) hA rfl).trans (by simp)
      · refine (Any2.slices_Insert_int_end_grow Tryz.laysNm221 (some ⟨g, 0, none⟩) n cap vb 0 1 1 A [x] w (by omega) g3 (by omega) (by omega) hA rfl (fun e => by cases e) (fun a e j u hj => by cases e; rw [Addr.add_lit]; exact hcs j u hj) hvs h1v).mono ?_
        rintro e w' ⟨rfl, rfl⟩
        refine ⟨_, rfl, grow_lit hB hml _ rfl ?_ hlen2 _ (by simp; rfl)⟩
        have := grownCap_ge w (n + 1) cap 3
        simp only [Array.size_append, List.size_toArray, size_zeroCells, List.length_append, hA, List.length_cons, List.length_nil]
        show n + (0 + 1) + (grownCap w (n + 1) cap 3 - (n + 1)) * 1 = grownCap w (n + 1) cap 3
        omega
  · subst hB0
    have hi : A.length < n := by simp at hlen; omega
    rcases h.2 with ⟨rfl, h0⟩ | ⟨g, cap, cur0, rfl, -⟩
    · omega
    · obtain ⟨cur, g1, g2, g3, g4, g5, g6, g7, Z, g8, g9⟩ := row_lit h
      have hgv : vb ≠ g := fun e => hne (by rw [e]; rfl)
      have hcs : ∀ j u, (A ++ y :: B')[j]? = some u → w.cell? ⟨g, 0 + j, none⟩ = some u := fun j u hj => by
        rw [Nat.zero_add]; refine cell_lit g1 ?_
        rw [← Array.getElem?_toList, g8, List.getElem?_append_left (List.getElem?_eq_some_iff.1 hj).1]; exact hj
      have hdr : (A ++ y :: B').drop A.length = y :: B' := by simp
      have htk : (A ++ y :: B').take A.length = A := by simp
      by_cases hroom : n + 1 ≤ cap
      · refine (Any2.slices_Insert_int_shift Tryz.laysNm221 g 0 n cap A.length vb 0 1 1 (A ++ y :: B') [x] w hi (by omega) hroom (by unfold maxLen at g4; omega) hgv hlen rfl hcs (fun j hj => ?_) (fun j hj => frozen_lit g1 _) hvs h1 h1v _ _ _ _ (shape_lit hvb) (shape_lit g1) (by omega) (frozen_lit hvb _) (frozen_lit hvb _)).mono ?_
        · have : 0 + j < cur.size := by omega
          simp at this
          simp [World.cell?, g1, this]
        · rintro e w' ⟨rfl, rfl⟩
          rw [hdr, Nat.zero_add, Nat.zero_add]
          cases Z with
          | nil => simp at g9; omega
          | cons z Z =>
            have a1 : (w.drew.setCells g (A.length + 1) (y :: B')).heap[g]? = _ := setCells_lit g (y :: B') (A.length + 1) w.drew cur g1
            have a2 := setCells_lit g [x] A.length _ _ a1
            refine ⟨_, rfl, row_mk a2 g2 hroom g4 (by rw [wrA_size, wrA_size]; exact g5) (Z := Z) ?_ hlen2, Upd.setCells (S := fun k => (Value.slice (some (⟨g, 0, none⟩ : Addr)) n cap).ownBlock = some k) (b := g) (.inl rfl) _ _ (Upd.setCells (S := fun k => (Value.slice (some (⟨g, 0, none⟩ : Addr)) n cap).ownBlock = some k) (b := g) (.inl rfl) _ _ (Upd.refl _ _).drew), fun k hk => .inl hk⟩
            have b1 : (wrA cur (A.length + 1) (y :: B')).toList = (A ++ [y]) ++ (y :: B') ++ Z := by
              refine wrA_toList (y :: B') (A.length + 1) cur (A ++ [y]) (B' ++ [z]) Z (by rw [g8]; simp) (by simp) (by simp)
            exact (wrA_toList [x] A.length _ A [y] (y :: B' ++ Z) (by rw [b1]; simp) rfl rfl).trans (by simp)
      · refine (Any2.slices_Insert_int_grow Tryz.laysNm221 g 0 n cap A.length vb 0 1 1 (A ++ y :: B') [x] w hi (by omega) g3 (by omega) (by omega) hlen rfl hcs hvs h1 h1v).mono ?_
        rintro e w' ⟨rfl, rfl⟩
        rw [hdr, htk]
        have c1 := grownCap_ge w (n + 1) cap 3
        have c2 := grownCap_le_maxLen w (n + 1) cap 3 hml
        change ∃ v', _ = _ ∧ Hid (InsRow 3 base _ n _ w v' ((((w.alloc (.cells (A.toArray ++ Builtin.zeroCells (Value.int .i64 0).cells (n + 1 - A.length) ++ Builtin.zeroCells (Value.int .i64 0).cells (grownCap w (n + 1) cap 3 - (n + 1))) 3)).drew.setCells w.heap.size A.length [x]).drew).setCells w.heap.size (A.length + 1) (y :: B')))
        obtain ⟨Y, hY⟩ : ∃ Y, A.toArray ++ Builtin.zeroCells (Value.int .i64 0).cells (n + 1 - A.length) ++ Builtin.zeroCells (Value.int .i64 0).cells (grownCap w (n + 1) cap 3 - (n + 1)) = Y := ⟨_, rfl⟩
        have hY1 : Y.size = grownCap w (n + 1) cap 3 := by
          rw [← hY]
          simp only [Array.size_append, List.size_toArray, size_zeroCells]
          show A.length + (n + 1 - A.length) * 1 + (grownCap w (n + 1) cap 3 - (n + 1)) * 1 = _
          omega
        have hY2 : ∃ M Z', Y.toList = A ++ M ++ Z' ∧ M.length = n + 1 - A.length := by
          refine ⟨(Builtin.zeroCells (Value.int .i64 0).cells (n + 1 - A.length)).toList, (Builtin.zeroCells (Value.int .i64 0).cells (grownCap w (n + 1) cap 3 - (n + 1))).toList, by rw [← hY]; simp, ?_⟩
          rw [Array.length_toList, size_zeroCells]
          show (n + 1 - A.length) * 1 = _
          omega
        rw [hY]
        clear hY
        obtain ⟨M, Z', hM, hML⟩ := hY2
        have hBl : B'.length + 1 = n - A.length := by simp at hlen; omega
        cases M with
        | nil => simp at hML; omega
        | cons m0 M =>
          have a0 : ((w.alloc (.cells Y 3)).drew).heap[w.heap.size]? = some (.cells Y 3 (0, 0)) := heap_alloc_new _ _
          have a1 := setCells_lit w.heap.size [x] A.length _ _ a0
          have a2 := setCells_lit w.heap.size (y :: B') (A.length + 1) (((w.alloc (.cells Y 3)).drew.setCells w.heap.size A.length [x]).drew) _ a1
          refine ⟨_, rfl, row_mk a2 hB c1 c2 (by rw [wrA_size, wrA_size]; exact hY1) (Z := Z') ?_ hlen2, Upd.setCells (b := w.heap.size) (.inr (Nat.le_refl _)) _ _ (Upd.drew (Upd.setCells (b := w.heap.size) (.inr (Nat.le_refl _)) _ _ ((Upd.refl _ _).alloc _).drew)), fun k hk => .inr (by simp [Value.ownBlock] at hk; omega)⟩
          have b1 : (wrA Y A.length [x]).toList = A ++ [x] ++ (M ++ Z') := wrA_toList [x] A.length Y A [m0] (M ++ Z') (by rw [hM]; simp) rfl rfl
          exact (wrA_toList (y :: B') (A.length + 1) _ (A ++ [x]) M Z' (by rw [b1]; simp) (by simp) (by simp at hML ⊢; omega)).trans (by simp)
end Go.Proofs.YtdcjhpafipbpkaaGreatDoor
namespace Go.Proofs.YtdcjhpafipbpkaaGreatDoor
set_option linter.unusedVariables false
set_option maxRecDepth 100000
set_option maxHeartbeats 1000000
open Go.RowKit
/-! ### the order of keys -/
def kless (a b : ByteArray) : Bool := Op.bytesLess a.toList b.toList
theorem kless_iff (a b : ByteArray) : kless a b = true ↔ a.data.toList < b.data.toList := by
  unfold kless; rw [bytesLess_eq, Lib.toList_data, Lib.toList_data]; simp
theorem kless_irrefl (a : ByteArray) : kless a a = false := by
  cases h : kless a a with
  | false => rfl
  | true => exact absurd ((kless_iff _ _).1 h) (List.lt_irrefl _)
theorem kless_trans {a b c : ByteArray} (h : kless a b = true) (g : kless b c = true) : kless a c = true :=
  (kless_iff _ _).2 (List.lt_trans ((kless_iff _ _).1 h) ((kless_iff _ _).1 g))
theorem kless_total {a b : ByteArray} (h : kless a b = false) (g : kless b a = false) : a = b := by
  have h1 : ¬ a.data.toList < b.data.toList := fun e => by rw [(kless_iff _ _).2 e] at h; cases h
  have g1 : ¬ b.data.toList < a.data.toList := fun e => by rw [(kless_iff _ _).2 e] at g; cases g
  have : a.data.toList = b.data.toList := List.le_antisymm (List.not_lt.1 g1) (List.not_lt.1 h1)
  exact ByteArray.ext (Array.toList_inj.1 this)
theorem kless_asymm {a b : ByteArray} (h : kless a b = true) : kless b a = false := by
  cases g : kless b a with
  | false => rfl
  | true => have k := kless_trans h g; rw [kless_irrefl] at k; cases k
theorem kless_of_le {a b c : ByteArray} (h : kless b a = false) (g : kless b c = true) : kless a c = true := by
  by_cases e : a = b
  · rw [e]; exact g
  · cases k : kless a b with
    | true => exact kless_trans k g
    | false => exact absurd (kless_total k h) e
theorem kless_of_lt_le {a b c : ByteArray} (h : kless a b = true) (g : kless c b = false) : kless a c = true := by
  by_cases e : b = c
  · rw [← e]; exact h
  · cases k : kless b c with
    | true => exact kless_trans h k
    | false => exact absurd (kless_total k g) e
theorem kless_ne {a b : ByteArray} (h : kless a b = true) : a ≠ b := fun e => by rw [e, kless_irrefl] at h; cases h
theorem kle_trans {a b c : ByteArray} (h : kless b a = false) (g : kless c b = false) : kless c a = false := by
  cases k : kless c a with
  | false => rfl
  | true => rw [kless_of_le g k] at h; cases h
/-! ### trees of a height -/
@[reducible] def PT : Nat → Type
  | 0 => List (ByteArray × ByteArray)
  | h + 1 => List (ByteArray × Nat × PT h)
def nd : (h : Nat) → PT h → Nd
  | 0, l => .leaf l
  | h + 1, l => .inner (List.map (fun x => (x.1, x.2.1)) l)
def ents : (h : Nat) → PT h → List (ByteArray × ByteArray)
  | 0, l => l
  | h + 1, l => List.flatMap (fun x => ents h x.2.2) l
def pgs : (h : Nat) → Nat → PT h → List Nat
  | 0, p, _ => [p]
  | h + 1, p, l => p :: List.flatMap (fun x => pgs h x.2.1 x.2.2) l
def sing : (h : Nat) → PT h → Nat
  | 0, _ => 0
  | h + 1, l => (if List.length l = 1 then 1 else 0) + (List.map (fun x => sing h x.2.2) l).sum
/-- Each key stands between those that part the pages. -/
def Seps (h : Nat) (l : List (ByteArray × Nat × PT h)) : Prop :=
  l.Pairwise (fun x y => ∀ e ∈ ents h x.2.2, kless e.1 y.1 = true) ∧ ∀ y ∈ l.tail, ∀ e ∈ ents h y.2.2, kless e.1 y.1 = false
/-- A tree, whatever its first node's size and number. -/
def Wf : (h : Nat) → PT h → Prop
  | 0, l => (∀ e ∈ (l : List (ByteArray × ByteArray)), e.1.size ≤ 96 ∧ e.2.size ≤ 56) ∧ List.Pairwise (fun a b : ByteArray × ByteArray => kless a.1 b.1 = true) l
  | h + 1, l => (∀ x ∈ (l : List (ByteArray × Nat × PT h)), x.1.size ≤ 96 ∧ x.2.1 < 65536 ∧ 0 < (nd h x.2.2).len ∧ (nd h x.2.2).size ≤ 512 ∧ Wf h x.2.2) ∧ Seps h l
/-- Where it stands. -/
def On (S : RS) : (h : Nat) → Nat → PT h → Prop
  | 0, p, l => S.used p = true ∧ S.cont p = pad (ofL (nd 0 l).bytes)
  | h + 1, p, l => (S.used p = true ∧ S.cont p = pad (ofL (nd (h + 1) l).bytes)) ∧ ∀ x ∈ (l : List (ByteArray × Nat × PT h)), On S h x.2.1 x.2.2
/-- A tree in pages. -/
structure Tr (S : RS) (h p : Nat) (t : PT h) : Prop where
  wf : Wf h t
  pos : 0 < (nd h t).len
  fit : (nd h t).size ≤ 512
  on : On S h p t
  nod : (pgs h p t).Nodup
theorem On.top {S : RS} {h p : Nat} {t : PT h} (H : On S h p t) : S.used p = true ∧ S.cont p = pad (ofL (nd h t).bytes) := by
  cases h with
  | zero => exact H
  | succ h => exact H.1
theorem On.used {S : RS} : ∀ {h p : Nat} {t : PT h}, On S h p t → ∀ q ∈ pgs h p t, S.used q = true
  | 0, p, t, H, q, hq => by simp [pgs] at hq; rw [hq]; exact H.1
  | h + 1, p, t, H, q, hq => by
    simp only [pgs, List.mem_cons, List.mem_flatMap] at hq
    rcases hq with rfl | ⟨x, hx, hq⟩
    · exact H.1.1
    · exact (H.2 x hx).used q hq
theorem On.frame {S S' : RS} : ∀ {h p : Nat} {t : PT h}, On S h p t → (∀ q ∈ pgs h p t, S'.used q = S.used q ∧ S'.cont q = S.cont q) → On S' h p t
  | 0, p, t, H, hq => by
    have := hq p (by simp [pgs])
    exact ⟨this.1.trans H.1, this.2.trans H.2⟩
  | h + 1, p, t, H, hq => by
    have := hq p (by simp [pgs])
    refine ⟨⟨this.1.trans H.1.1, this.2.trans H.1.2⟩, fun x hx => (H.2 x hx).frame fun q h' => hq q ?_⟩
    simp only [pgs, List.mem_cons, List.mem_flatMap]
    exact .inr ⟨x, hx, h'⟩
theorem Tr.frame {S S' : RS} {h p : Nat} {t : PT h} (H : Tr S h p t) (hq : ∀ q ∈ pgs h p t, S'.used q = S.used q ∧ S'.cont q = S.cont q) : Tr S' h p t := ⟨H.wf, H.pos, H.fit, H.on.frame hq, H.nod⟩
theorem Tr.kid {S : RS} {h p : Nat} {l : PT (h + 1)} (H : Tr S (h + 1) p l) {x : ByteArray × Nat × PT h} (hx : x ∈ (l : List (ByteArray × Nat × PT h))) : Tr S h x.2.1 x.2.2 := by
  obtain ⟨h1, h2, h3, h4, h5⟩ := H.wf.1 x hx
  refine ⟨h5, h3, h4, H.on.2 x hx, ?_⟩
  have := (List.nodup_cons.1 H.nod).2
  obtain ⟨A, B, rfl⟩ := List.append_of_mem hx
  rw [List.flatMap_append, List.flatMap_cons] at this
  exact (List.nodup_append.1 (List.nodup_append.1 this).2.1).1
theorem nd_leaf (l : PT 0) : nd 0 l = .leaf l := rfl
theorem nd_len0 (l : PT 0) : (nd 0 l).len = List.length l := by simp [nd, Nd.len, Nd.keys]
theorem nd_lenS (h : Nat) (l : PT (h + 1)) : (nd (h + 1) l).len = List.length l := by simp [nd, Nd.len, Nd.keys]
theorem ents_pos : ∀ {h : Nat} {t : PT h}, Wf h t → 0 < (nd h t).len → 0 < (ents h t).length
  | 0, t, _, hp => by rw [nd_len0] at hp; exact hp
  | h + 1, t, H, hp => by
    rw [nd_lenS] at hp
    cases t with
    | nil => simp at hp
    | cons x t =>
      obtain ⟨h1, h2, h3, h4, h5⟩ := H.1 x (by simp)
      have := ents_pos h5 h3
      simp only [ents, List.flatMap_cons, List.length_append]; omega
/-! ### sizes -/
def esL (e : ByteArray × ByteArray) : Nat := 2 + e.1.size + e.2.size
def esI (e : ByteArray × Nat) : Nat := 5 + e.1.size
theorem szUp_leaf (l : List (ByteArray × ByteArray)) (n : Nat) (hn : n ≤ l.length) : szUp true (l.map Prod.fst) (l.map Prod.snd) n = 3 + ((l.take n).map esL).sum := by
  induction n with
  | zero => simp [szUp]
  | succ n ih =>
    have hlt : n < l.length := hn
    rw [szUp, ih (by omega), List.take_succ_eq_append_getElem hlt, List.map_append, List.sum_append]
    simp only [esz, if_true, List.map_cons, List.map_nil, List.sum_cons, List.sum_nil, esL]
    rw [getD_at _ _ (by simpa using hlt), getD_at _ _ (by simpa using hlt)]
    simp; omega
theorem szUp_inner (l : List (ByteArray × Nat)) (V : List ByteArray) (n : Nat) (hn : n ≤ l.length) : szUp false (l.map Prod.fst) V n = 3 + ((l.take n).map esI).sum := by
  induction n with
  | zero => simp [szUp]
  | succ n ih =>
    have hlt : n < l.length := hn
    rw [szUp, ih (by omega), List.take_succ_eq_append_getElem hlt, List.map_append, List.sum_append]
    simp only [esz, Bool.false_eq_true, if_false, List.map_cons, List.map_nil, List.sum_cons, List.sum_nil, esI]
    rw [getD_at _ _ (by simpa using hlt)]
    simp; omega
theorem size_leaf (l : List (ByteArray × ByteArray)) : (Nd.leaf l).size = 3 + (l.map esL).sum := by
  have := szUp_leaf l l.length (Nat.le_refl _)
  rw [List.take_length] at this
  simpa [Nd.size, Nd.isLeaf, Nd.keys, Nd.vals, Nd.len] using this
theorem size_inner (l : List (ByteArray × Nat)) : (Nd.inner l).size = 3 + (l.map esI).sum := by
  have := szUp_inner l [] l.length (Nat.le_refl _)
  rw [List.take_length] at this
  simpa [Nd.size, Nd.isLeaf, Nd.keys, Nd.vals, Nd.len] using this
theorem sum_ge {α : Type} (f : α → Nat) (c : Nat) (l : List α) (h : ∀ x ∈ l, c ≤ f x) : c * l.length ≤ (l.map f).sum := by
  induction l with
  | nil => simp
  | cons x t ih =>
    have h1 := h x (by simp)
    have h2 := ih fun y hy => h y (by simp [hy])
    simp only [List.length_cons, List.map_cons, List.sum_cons, Nat.mul_add]; omega
theorem sum_le {α : Type} (f : α → Nat) (c : Nat) (l : List α) (h : ∀ x ∈ l, f x ≤ c) : (l.map f).sum ≤ c * l.length := by
  induction l with
  | nil => simp
  | cons x t ih =>
    have h1 := h x (by simp)
    have h2 := ih fun y hy => h y (by simp [hy])
    simp only [List.length_cons, List.map_cons, List.sum_cons, Nat.mul_add]; omega
theorem size_len (d : Nd) : 3 + 2 * d.len ≤ d.size := by
  cases d with
  | leaf l =>
    rw [size_leaf]
    have := sum_ge esL 2 l fun x _ => by unfold esL; omega
    simp [Nd.len, Nd.keys]; omega
  | inner l =>
    rw [size_inner]
    have := sum_ge esI 2 l fun x _ => by unfold esI; omega
    simp [Nd.len, Nd.keys]; omega
/-- A node of a tree is one that can be written. -/
theorem Wf.ok {h : Nat} {t : PT h} (H : Wf h t) (hp : 0 < (nd h t).len) (hs : (nd h t).size ≤ 100000) : (nd h t).Ok := by
  have hl := size_len (nd h t)
  cases h with
  | zero =>
    refine ⟨hp, by omega, fun k hk => ?_, fun v hv => ?_, fun c hc => ?_⟩
    · simp only [nd, Nd.keys, List.mem_map] at hk
      obtain ⟨e, he, rfl⟩ := hk
      exact (H.1 e he).1
    · simp only [nd, Nd.vals, List.mem_map] at hv
      obtain ⟨e, he, rfl⟩ := hv
      exact (H.1 e he).2
    · simp [nd, Nd.kids] at hc
  | succ h =>
    refine ⟨hp, by omega, fun k hk => ?_, fun v hv => ?_, fun c hc => ?_⟩
    · simp only [nd, Nd.keys, List.map_map, List.mem_map] at hk
      obtain ⟨e, he, rfl⟩ := hk
      exact (H.1 e he).1
    · simp [nd, Nd.vals] at hv
    · simp only [nd, Nd.kids, List.map_map, List.mem_map] at hc
      obtain ⟨e, he, rfl⟩ := hc
      have := (H.1 e he).2.1
      exact Nat.lt_trans this (by decide)
theorem Tr.ok {S : RS} {h p : Nat} {t : PT h} (H : Tr S h p t) : (nd h t).Ok := H.wf.ok H.pos (Nat.le_trans H.fit (by decide))
theorem bytes_len (d : Nd) : d.bytes.length = d.size := by
  cases d with
  | leaf l =>
    have e : (l.flatMap entL).length = (l.map esL).sum := by
      rw [List.length_flatMap]
      congr 1
      refine List.map_congr_left fun e _ => ?_
      simp only [entL, esL, List.length_append, List.length_cons, List.length_nil, Lib.size_eq]; omega
    rw [size_leaf, ← e]
    simp [Nd.bytes, Nd.body]; omega
  | inner l =>
    have e : (l.flatMap entI).length = (l.map esI).sum := by
      rw [List.length_flatMap]
      congr 1
      refine List.map_congr_left fun e _ => ?_
      simp only [entI, esI, be4, List.length_append, List.length_cons, List.length_nil, Lib.size_eq]; omega
    rw [size_inner, ← e]
    simp [Nd.bytes, Nd.body]; omega
end Go.Proofs.YtdcjhpafipbpkaaGreatDoor
namespace Go.Proofs.YtdcjhpafipbpkaaGreatDoor
set_option linter.unusedVariables false
set_option maxRecDepth 100000
set_option maxHeartbeats 1000000
open Go.RowKit
/-! ### pairs in order -/
def Srt (E : List (ByteArray × ByteArray)) : Prop := List.Pairwise (fun a b : ByteArray × ByteArray => kless a.1 b.1 = true) E
def Ins (key val : ByteArray) (E E' : List (ByteArray × ByteArray)) : Prop :=
  ∃ A B, E' = A ++ (key, val) :: B ∧ (E = A ++ B ∨ ∃ v, E = A ++ (key, v) :: B) ∧ (∀ a ∈ A, kless a.1 key = true) ∧ ∀ b ∈ B, kless key b.1 = true
theorem Ins.lift {key val : ByteArray} {E E' : List (ByteArray × ByteArray)} (H : Ins key val E E') (X Y : List (ByteArray × ByteArray)) (hX : ∀ a ∈ X, kless a.1 key = true) (hY : ∀ b ∈ Y, kless key b.1 = true) : Ins key val (X ++ (E ++ Y)) (X ++ (E' ++ Y)) := by
  obtain ⟨A, B, rfl, h, hA, hB⟩ := H
  refine ⟨X ++ A, B ++ Y, by simp, ?_, fun a ha => ?_, fun b hb => ?_⟩
  · rcases h with rfl | ⟨v, rfl⟩
    · exact .inl (by simp)
    · exact .inr ⟨v, by simp⟩
  · rcases List.mem_append.1 ha with h | h
    · exact hX a h
    · exact hA a h
  · rcases List.mem_append.1 hb with h | h
    · exact hB b h
    · exact hY b h
theorem Ins.mem {key val : ByteArray} {E E' : List (ByteArray × ByteArray)} (H : Ins key val E E') : ∀ e ∈ E', e.1 = key ∨ e ∈ E := by
  obtain ⟨A, B, rfl, h, hA, hB⟩ := H
  intro e he
  rcases List.mem_append.1 he with h1 | h1
  · right; rcases h with rfl | ⟨v, rfl⟩ <;> simp [h1]
  · rcases List.mem_cons.1 h1 with rfl | h1
    · exact .inl rfl
    · right; rcases h with rfl | ⟨v, rfl⟩ <;> simp [h1]
theorem Ins.len {key val : ByteArray} {E E' : List (ByteArray × ByteArray)} (H : Ins key val E E') : E'.length ≤ E.length + 1 := by
  obtain ⟨A, B, rfl, h, hA, hB⟩ := H
  rcases h with rfl | ⟨v, rfl⟩ <;> simp <;> omega
theorem srt_mid {A B : List (ByteArray × ByteArray)} {key val : ByteArray} (h : Srt (A ++ B)) (hA : ∀ a ∈ A, kless a.1 key = true) (hB : ∀ b ∈ B, kless key b.1 = true) : Srt (A ++ (key, val) :: B) := by
  obtain ⟨h1, h2, h3⟩ := List.pairwise_append.1 h
  refine List.pairwise_append.2 ⟨h1, List.pairwise_cons.2 ⟨hB, h2⟩, fun a ha b hb => ?_⟩
  rcases List.mem_cons.1 hb with rfl | hb
  · exact hA a ha
  · exact h3 a ha b hb
theorem srt_of {A B : List (ByteArray × ByteArray)} {e : ByteArray × ByteArray} (h : Srt (A ++ e :: B)) : Srt (A ++ B) ∧ (∀ a ∈ A, kless a.1 e.1 = true) ∧ ∀ b ∈ B, kless e.1 b.1 = true := by
  obtain ⟨h1, h2, h3⟩ := List.pairwise_append.1 h
  obtain ⟨h4, h5⟩ := List.pairwise_cons.1 h2
  exact ⟨List.pairwise_append.2 ⟨h1, h5, fun a ha b hb => h3 a ha b (by simp [hb])⟩, fun a ha => h3 a ha e (by simp), h4⟩
/-- A key's place in pairs in order. -/
theorem lb_split (l : List (ByteArray × ByteArray)) (key : ByteArray) (h : Srt l) : ∃ A B, l = A ++ B ∧ (∀ a ∈ A, kless a.1 key = true) ∧ (∀ b ∈ B, kless b.1 key = false) ∧ ((∃ v B', B = (key, v) :: B' ∧ ∀ b ∈ B', kless key b.1 = true) ∨ (∀ b ∈ B, kless key b.1 = true)) := by
  induction l with
  | nil => exact ⟨[], [], rfl, by simp, by simp, .inr (by simp)⟩
  | cons x t ih =>
    obtain ⟨hx, ht⟩ := List.pairwise_cons.1 h
    cases hk : kless x.1 key with
    | true =>
      obtain ⟨A, B, rfl, hA, hB, h3⟩ := ih ht
      exact ⟨x :: A, B, rfl, fun a ha => (by rcases List.mem_cons.1 ha with rfl | ha <;> first | exact hk | exact hA a ha), hB, h3⟩
    | false =>
      have hle : ∀ b ∈ x :: t, kless b.1 key = false := fun b hb => by
        rcases List.mem_cons.1 hb with rfl | hb
        · exact hk
        · cases g : kless b.1 key with
          | false => rfl
          | true => rw [kless_trans (hx b hb) g] at hk; cases hk
      refine ⟨[], x :: t, rfl, by simp, hle, ?_⟩
      cases g : kless key x.1 with
      | true =>
        refine .inr fun b hb => ?_
        rcases List.mem_cons.1 hb with rfl | hb
        · exact g
        · exact kless_trans g (hx b hb)
      | false =>
        have e : x.1 = key := kless_total hk g
        refine .inl ⟨x.2, t, by rw [← e], fun b hb => by rw [← e]; exact hx b hb⟩
/-! ### kids -/
abbrev Kid (h : Nat) := ByteArray × Nat × PT h
/-- The kid below which a key stands. -/
def Way (key : ByteArray) {h : Nat} (A : List (Kid h)) (x : Kid h) (B : List (Kid h)) : Prop := (A ≠ [] → kless key x.1 = false) ∧ ∀ y ∈ B, kless key y.1 = true
theorem seps_tail {h : Nat} {A : List (Kid h)} {x : Kid h} {B : List (Kid h)} : (∀ y ∈ (A ++ x :: B).tail, ∀ e ∈ ents h y.2.2, kless e.1 y.1 = false) ↔ (∀ y ∈ A.tail, ∀ e ∈ ents h y.2.2, kless e.1 y.1 = false) ∧ (A ≠ [] → ∀ e ∈ ents h x.2.2, kless e.1 x.1 = false) ∧ ∀ y ∈ B, ∀ e ∈ ents h y.2.2, kless e.1 y.1 = false := by
  cases A with
  | nil => simp
  | cons a A =>
    simp only [List.cons_append, List.tail_cons, List.mem_append, List.mem_cons]
    constructor
    · intro H; exact ⟨fun y hy => H y (.inl hy), fun _ => H x (.inr (.inl rfl)), fun y hy => H y (.inr (.inr hy))⟩
    · rintro ⟨h1, h2, h3⟩ y (hy | rfl | hy) <;> first | exact h1 y hy | exact h2 (by simp) | exact h3 y hy
theorem seps_pair {h : Nat} {A : List (Kid h)} {x : Kid h} {B : List (Kid h)} : ((A ++ x :: B).Pairwise (fun x y => ∀ e ∈ ents h x.2.2, kless e.1 y.1 = true)) ↔
    A.Pairwise (fun x y => ∀ e ∈ ents h x.2.2, kless e.1 y.1 = true) ∧ B.Pairwise (fun x y => ∀ e ∈ ents h x.2.2, kless e.1 y.1 = true) ∧ (∀ a ∈ A, ∀ e ∈ ents h a.2.2, kless e.1 x.1 = true) ∧ (∀ b ∈ B, ∀ e ∈ ents h x.2.2, kless e.1 b.1 = true) ∧ ∀ a ∈ A, ∀ b ∈ B, ∀ e ∈ ents h a.2.2, kless e.1 b.1 = true := by
  rw [List.pairwise_append, List.pairwise_cons]
  constructor
  · rintro ⟨h1, ⟨h2, h3⟩, h4⟩
    exact ⟨h1, h3, fun a ha => h4 a ha x (by simp), h2, fun a ha b hb => h4 a ha b (by simp [hb])⟩
  · rintro ⟨h1, h2, h3, h4, h5⟩
    refine ⟨h1, ⟨h4, h2⟩, fun a ha b hb => ?_⟩
    rcases List.mem_cons.1 hb with rfl | hb <;> first | exact h3 a ha | exact h5 a ha b hb
theorem Seps.way {h : Nat} {A B : List (Kid h)} {x : Kid h} {key : ByteArray} (H : Seps h (A ++ x :: B)) (W : Way key A x B) : (∀ a ∈ A, ∀ e ∈ ents h a.2.2, kless e.1 key = true) ∧ ∀ b ∈ B, ∀ e ∈ ents h b.2.2, kless key e.1 = true := by
  obtain ⟨-, -, h3, -, -⟩ := seps_pair.1 H.1
  obtain ⟨-, -, h6⟩ := seps_tail.1 H.2
  refine ⟨fun a ha e he => ?_, fun b hb e he => ?_⟩
  · exact kless_of_lt_le (h3 a ha e he) (W.1 (List.ne_nil_of_mem ha))
  · exact kless_of_lt_le (W.2 b hb) (h6 b hb e he)
/-- A kid changed: what is in it was there, or is the key. -/
theorem Seps.set {h : Nat} {A B : List (Kid h)} {x : Kid h} {key : ByteArray} (H : Seps h (A ++ x :: B)) (W : Way key A x B) (p : Nat) (t : PT h) (ht : ∀ e ∈ ents h t, e.1 = key ∨ e ∈ ents h x.2.2) : Seps h (A ++ (x.1, p, t) :: B) := by
  obtain ⟨h1, h2, h3, h4, h5⟩ := seps_pair.1 H.1
  obtain ⟨h6, h7, h8⟩ := seps_tail.1 H.2
  refine ⟨seps_pair.2 ⟨h1, h2, h3, fun b hb e he => ?_, h5⟩, seps_tail.2 ⟨h6, fun hA e he => ?_, h8⟩⟩
  · rcases ht e he with h | h
    · rw [h]; exact W.2 b hb
    · exact h4 b hb e h
  · rcases ht e he with h | h
    · rw [h]; exact W.1 hA
    · exact h7 hA e h
/-- A kid parted. -/
theorem Seps.part {h : Nat} {A B : List (Kid h)} {x : Kid h} {key k : ByteArray} (H : Seps h (A ++ x :: B)) (W : Way key A x B) (p q : Nat) (t u : PT h) (ht : ∀ e ∈ ents h t, e.1 = key ∨ e ∈ ents h x.2.2) (hu : ∀ e ∈ ents h u, e.1 = key ∨ e ∈ ents h x.2.2)
    (h0 : 0 < (ents h t).length) (hk : ∀ e ∈ ents h t, kless e.1 k = true) (hk2 : ∀ e ∈ ents h u, kless e.1 k = false) : Seps h (A ++ (x.1, p, t) :: (k, q, u) :: B) := by
  obtain ⟨h1, h2, h3, h4, h5⟩ := seps_pair.1 H.1
  obtain ⟨h6, h7, h8⟩ := seps_tail.1 H.2
  have T := H.set W p t ht
  obtain ⟨g1, g2, g3, g4, g5⟩ := seps_pair.1 T.1
  obtain ⟨g6, g7, g8⟩ := seps_tail.1 T.2
  have hu' : ∀ b ∈ B, ∀ e ∈ ents h u, kless e.1 b.1 = true := fun b hb e he => by
    rcases hu e he with h | h
    · rw [h]; exact W.2 b hb
    · exact h4 b hb e h
  obtain ⟨e0, he0⟩ : ∃ e0, e0 ∈ ents h t := ⟨_, List.getElem_mem h0⟩
  refine ⟨seps_pair.2 ⟨h1, List.pairwise_cons.2 ⟨hu', h2⟩, h3, fun b hb e he => ?_, fun a ha b hb e he => ?_⟩, seps_tail.2 ⟨h6, g7, fun y hy => ?_⟩⟩
  · rcases List.mem_cons.1 hb with rfl | hb
    · exact hk e he
    · exact g4 b hb e he
  · rcases List.mem_cons.1 hb with rfl | hb
    · exact kless_trans (kless_of_lt_le (h3 a ha e he) (g7 (List.ne_nil_of_mem ha) e0 he0)) (hk e0 he0)
    · exact h5 a ha b hb e he
  · rcases List.mem_cons.1 hy with rfl | hy
    · exact hk2
    · exact h8 y hy
/-- A kid away. -/
theorem Seps.away {h : Nat} {A B : List (Kid h)} {x : Kid h} (H : Seps h (A ++ x :: B)) : Seps h (A ++ B) := by
  obtain ⟨h6, h7, h8⟩ := seps_tail.1 H.2
  refine ⟨H.1.sublist (by simp), fun y hy => ?_⟩
  cases A with
  | nil => exact h8 y (List.mem_of_mem_tail hy)
  | cons a A =>
    simp only [List.cons_append, List.tail_cons, List.mem_append] at hy
    rcases hy with hy | hy
    · exact h6 y hy
    · exact h8 y hy
/-- Two kids put together. -/
theorem Seps.join {h : Nat} {A B : List (Kid h)} {x y : Kid h} (H : Seps h (A ++ x :: y :: B)) (p : Nat) (t : PT h) (ht : ents h t = ents h x.2.2 ++ ents h y.2.2) (h0 : 0 < (ents h x.2.2).length) : Seps h (A ++ (x.1, p, t) :: B) := by
  obtain ⟨h1, h2, h3, h4, h5⟩ := seps_pair.1 H.1
  obtain ⟨h6, h7, h8⟩ := seps_tail.1 H.2
  obtain ⟨h9, h10⟩ := List.pairwise_cons.1 h2
  obtain ⟨e0, he0⟩ : ∃ e0, e0 ∈ ents h x.2.2 := ⟨_, List.getElem_mem h0⟩
  refine ⟨seps_pair.2 ⟨h1, h10, h3, fun b hb e he => ?_, fun a ha b hb => h5 a ha b (by simp [hb])⟩, seps_tail.2 ⟨h6, fun hA e he => ?_, fun b hb => h8 b (by simp [hb])⟩⟩
  · simp only [ht, List.mem_append] at he
    rcases he with he | he
    · exact h4 b (by simp [hb]) e he
    · exact h9 b hb e he
  · simp only [ht, List.mem_append] at he
    rcases he with he | he
    · exact h7 hA e he
    · have a1 := h7 hA e0 he0
      have a2 := h4 y (by simp) e0 he0
      have a3 := h8 y (by simp) e he
      have := kless_of_lt_le a2 a3
      exact kle_trans a1 (kless_asymm this)
theorem ents_mid (h : Nat) (A B : List (Kid h)) (x : Kid h) : ents (h + 1) (A ++ x :: B) = ents (h + 1) A ++ (ents h x.2.2 ++ ents (h + 1) B) := by
  simp [ents]
theorem ents_app (h : Nat) (A B : List (Kid h)) : ents (h + 1) (A ++ B : List (Kid h)) = ents (h + 1) A ++ ents (h + 1) B := by
  simp [ents]
theorem ents_mem (h : Nat) (A : List (Kid h)) (e : ByteArray × ByteArray) : e ∈ ents (h + 1) A ↔ ∃ a ∈ A, e ∈ ents h a.2.2 := by
  simp [ents]
/-- All of a tree is in order. -/
theorem Wf.srt : ∀ {h : Nat} {t : PT h}, Wf h t → Srt (ents h t)
  | 0, t, H => H.2
  | h + 1, t, H => by
    show List.Pairwise _ (List.flatMap (fun x : Kid h => ents h x.2.2) t)
    rw [List.pairwise_flatMap]
    refine ⟨fun x hx => Wf.srt (H.1 x hx).2.2.2.2, ?_⟩
    have := H.2
    have hs : ∀ l : List (Kid h), Seps h l → l.Pairwise (fun x y => ∀ e ∈ ents h x.2.2, ∀ f ∈ ents h y.2.2, kless e.1 f.1 = true) := by
      intro l
      induction l with
      | nil => intro _; exact List.Pairwise.nil
      | cons x l ih =>
        intro hl
        obtain ⟨a1, a2⟩ := List.pairwise_cons.1 hl.1
        refine List.pairwise_cons.2 ⟨fun y hy e he f hf => kless_of_lt_le (a1 y hy e he) (hl.2 y hy f hf), ih ⟨a2, fun y hy => hl.2 y (List.mem_of_mem_tail hy)⟩⟩
    exact hs t this
/-- The way of a key in kids in order. -/
theorem way_split {h : Nat} (l : List (Kid h)) (key : ByteArray) (hs : l.tail.Pairwise (fun x y => kless x.1 y.1 = true)) (hp : 0 < l.length) : ∃ A x B, l = A ++ x :: B ∧ Way key A x B ∧ ∀ y ∈ A.tail, kless key y.1 = false := by
  cases l with
  | nil => simp at hp
  | cons x0 l =>
    simp only [List.tail_cons] at hs
    clear hp
    induction l generalizing x0 with
    | nil => exact ⟨[], x0, [], rfl, ⟨by simp, by simp⟩, by simp⟩
    | cons x1 l ih =>
      obtain ⟨a1, a2⟩ := List.pairwise_cons.1 hs
      cases hk : kless key x1.1 with
      | true =>
        refine ⟨[], x0, x1 :: l, rfl, ⟨by simp, fun y hy => ?_⟩, by simp⟩
        rcases List.mem_cons.1 hy with rfl | hy
        · exact hk
        · exact kless_trans hk (a1 y hy)
      | false =>
        obtain ⟨A, x, B, e, W, hA⟩ := ih x1 a2
        refine ⟨x0 :: A, x, B, by rw [e]; rfl, ⟨fun _ => ?_, W.2⟩, fun y hy => ?_⟩
        · cases A with
          | nil => simp at e; rw [← e.1]; exact hk
          | cons a A => exact W.1 (by simp)
        · cases A with
          | nil => simp at hy
          | cons a A =>
            simp at e
            rcases List.mem_cons.1 hy with rfl | hy
            · rw [← e.1]; exact hk
            · exact hA y hy
theorem Seps.keys {h : Nat} {l : List (Kid h)} (H : Seps h l) (hp : ∀ x ∈ l, 0 < (ents h x.2.2).length) : l.tail.Pairwise (fun x y => kless x.1 y.1 = true) := by
  cases l with
  | nil => exact List.Pairwise.nil
  | cons x l =>
    refine List.Pairwise.imp_of_mem (R := fun x y => ∀ e ∈ ents h x.2.2, kless e.1 y.1 = true) (fun {a b} ha hb hab => ?_) (List.pairwise_cons.1 H.1).2
    obtain ⟨e0, he0⟩ : ∃ e0, e0 ∈ ents h a.2.2 := ⟨_, List.getElem_mem (hp a (by simp at ha; simp [ha]))⟩
    exact kless_of_le (H.2 a ha e0 he0) (hab e0 he0)
end Go.Proofs.YtdcjhpafipbpkaaGreatDoor
namespace Go.Proofs.YtdcjhpafipbpkaaGreatDoor
set_option linter.unusedVariables false
set_option maxRecDepth 100000
set_option maxHeartbeats 1000000
open Go.RowKit
theorem Upd.drewN {S : Nat → Prop} {a w : World} (h : Upd S a w) (q : Nat) : Upd S a (w.drewN q) := ⟨h.os, h.tape, h.output, h.size, h.block⟩
/-- What a deletion answers. -/
def DelRow (e : TypeId) (base : Nat) (v : Value) (n : Nat) (xs : List Value) (w : World) (v' : Value) (w' : World) : Prop :=
  w'.ownsRow base e 1 v' n xs ∧ Upd (fun k => v.ownBlock = some k) w w' ∧ v'.ownBlock = v.ownBlock
theorem strs_map (K : List ByteArray) (d : ByteArray) : (Lib.strsOf (fun i => K.getD i d) K.length).map encStr = K.map Value.string := by
  apply List.ext_getElem
  · simp [Lib.strsOf]
  · intro i h1 h2
    have h3 : i < K.length := by simpa using h2
    simp [Lib.strsOf, encStr, getD_at _ _ h3]
    simp [h3]
theorem cut_mid {α : Type} (A B : List α) (x : α) : (A ++ x :: B).take A.length = A ∧ (A ++ x :: B).drop (A.length + 1) = B := by
  refine ⟨List.take_left, ?_⟩
  rw [show A ++ x :: B = (A ++ [x]) ++ B by simp]
  exact List.drop_left' (by simp)
theorem DelS_c (base : Nat) (v : Value) (A B : List ByteArray) (x : ByteArray) (w : World) (h : w.ownsRow base 9 1 v (A.length + 1 + B.length) ((A ++ x :: B).map Value.string)) :
    Calls Tryz.prog 217 #[v, .int .i64 (A.length : Nat), .int .i64 ((A.length : Int) + 1)] w fun e w' => ∃ v', e = .returned v' ∧ Hid (DelRow 9 base v (A.length + B.length) ((A ++ B).map Value.string) w v' w') := by
  rcases h.2 with ⟨rfl, h0⟩ | ⟨g, cap, cur0, rfl, -⟩
  · omega
  · obtain ⟨cur, g1, g2, g3, g4, g5, g6, g7, Z, g8, g9⟩ := row_lit h
    have hl : (A ++ x :: B).length = A.length + 1 + B.length := by simp; omega
    have hc : ∀ i, i < A.length + 1 + B.length → w.cell? ⟨g, 0 + i, none⟩ = some (.string ((A ++ x :: B).getD i ByteArray.empty)) := fun i hi => by
      rw [Nat.zero_add]; refine cell_lit g1 ?_
      have hi' : i < (A ++ x :: B).length := by omega
      rw [← Array.getElem?_toList, g8, List.getElem?_append_left (by simpa using hi'), getD_at _ _ hi', List.getElem?_map, List.getElem?_eq_getElem hi']
      rfl
    have e1 : ((A.length : Int) + 1) = ((A.length + 1 : Nat) : Int) := by omega
    rw [e1]
    refine (Any.slices_Delete_string_cells Tryz.laysNm224 g 0 (A.length + 1 + B.length) cap A.length (A.length + 1) (fun i => (A ++ x :: B).getD i ByteArray.empty) w g3 (by unfold maxLen at g4; omega) (by omega) (by omega) hc (fun j hj => frozen_lit g1 _)).mono ?_
    rintro e w' ⟨rfl, q, rfl⟩
    have e2 : (Lib.strsOf (fun i => (A ++ x :: B).getD i ByteArray.empty) (A.length + 1 + B.length)).map encStr = (A ++ x :: B).map Value.string := by rw [← hl]; exact strs_map _ _
    have hlA : A.length = (A.map Value.string).length := by simp
    have e3 : (((Lib.strsOf (fun i => (A ++ x :: B).getD i ByteArray.empty) (A.length + 1 + B.length)).take A.length ++ (Lib.strsOf (fun i => (A ++ x :: B).getD i ByteArray.empty) (A.length + 1 + B.length)).drop (A.length + 1) ++ List.replicate (A.length + 1 - A.length) []).map encStr) = (A ++ B).map Value.string ++ [Value.string ⟨#[]⟩] := by
      rw [List.map_append, List.map_append, List.map_take, List.map_drop, e2, List.map_append, List.map_cons, hlA, (cut_mid _ _ _).1, (cut_mid _ _ _).2, List.map_append, Nat.add_sub_cancel_left]
      rfl
    rw [e3, show A.length + 1 + B.length - (A.length + 1 - A.length) = A.length + B.length by omega]
    have a1 := setCells_lit g ((A ++ B).map Value.string ++ [Value.string ⟨#[]⟩]) 0 (w.drewN q) cur g1
    refine ⟨_, rfl, row_mk a1 g2 (by omega) g4 (by rw [wrA_size]; exact g5) (Z := Value.string ⟨#[]⟩ :: Z) ?_ (by simp), Upd.setCells (S := fun k => (Value.slice (some (⟨g, 0, none⟩ : Addr)) (A.length + 1 + B.length) cap).ownBlock = some k) (b := g) (.inl rfl) _ _ ((Upd.refl _ _).drewN q), rfl⟩
    exact (wrA_toList ((A ++ B).map Value.string ++ [Value.string ⟨#[]⟩]) 0 cur [] ((A ++ x :: B).map Value.string) Z (by rw [g8]; rfl) rfl (by simp)).trans (by rw [List.nil_append, List.append_assoc]; rfl)
theorem DelI_c (base : Nat) (v : Value) (A B : List Nat) (x : Nat) (w : World) (h : w.ownsRow base 3 1 v (A.length + 1 + B.length) ((A ++ x :: B).map fun c : Nat => Value.int .i64 (c : Int))) :
    Calls Tryz.prog 218 #[v, .int .i64 (A.length : Nat), .int .i64 ((A.length : Int) + 1)] w fun e w' => ∃ v', e = .returned v' ∧ Hid (DelRow 3 base v (A.length + B.length) ((A ++ B).map fun c : Nat => Value.int .i64 (c : Int)) w v' w') := by
  rcases h.2 with ⟨rfl, h0⟩ | ⟨g, cap, cur0, rfl, -⟩
  · omega
  · obtain ⟨cur, g1, g2, g3, g4, g5, g6, g7, Z, g8, g9⟩ := row_lit h
    have hl : ((A ++ x :: B).map fun c : Nat => (c : Int)).length = A.length + 1 + B.length := by simp; omega
    have hc : ∀ i, i < ((A ++ x :: B).map fun c : Nat => (c : Int)).length → w.cell? ⟨g, 0 + i, none⟩ = some (.int .i64 (((A ++ x :: B).map fun c : Nat => (c : Int)).getD i 0)) := fun i hi => by
      rw [Nat.zero_add]; refine cell_lit g1 ?_
      have hi' : i < (A ++ x :: B).length := by simpa using hi
      rw [← Array.getElem?_toList, g8, List.getElem?_append_left (by simpa using hi'), getD_at _ _ hi, List.getElem?_map, List.getElem?_eq_getElem hi', List.getElem_map]
      rfl
    have e1 : ((A.length : Int) + 1) = ((A.length + 1 : Nat) : Int) := by omega
    rw [e1]
    refine (Any.slices_Delete_int_cells Tryz.laysNm223 g 0 (A.length + 1 + B.length) cap A.length (A.length + 1) ((A ++ x :: B).map fun c : Nat => (c : Int)) w (by omega) g3 (by unfold maxLen at g4; omega) (by omega) (by omega) hc (fun j hj => frozen_lit g1 _)).mono ?_
    rintro e w' ⟨rfl, q, rfl⟩
    have hlA : A.length = (A.map fun c : Nat => (c : Int)).length := by simp
    have e3 : ((((((A ++ x :: B).map fun c : Nat => (c : Int)).take (A.length + 1 + B.length)).take A.length) ++ ((((A ++ x :: B).map fun c : Nat => (c : Int)).take (A.length + 1 + B.length)).drop (A.length + 1)) ++ List.replicate (A.length + 1 - A.length) 0).map (Value.int .i64)) = ((A ++ B).map fun c : Nat => Value.int .i64 (c : Int)) ++ [Value.int .i64 0] := by
      rw [List.take_of_length_le (by omega : ((A ++ x :: B).map fun c : Nat => (c : Int)).length ≤ A.length + 1 + B.length), show ((A ++ x :: B).map fun c : Nat => (c : Int)) = (A.map fun c : Nat => (c : Int)) ++ (x : Int) :: (B.map fun c : Nat => (c : Int)) by simp, hlA, (cut_mid _ _ _).1, (cut_mid _ _ _).2, Nat.add_sub_cancel_left, List.map_append, List.map_append, List.map_append, List.map_map, List.map_map]
      rfl
    rw [e3, show A.length + 1 + B.length - (A.length + 1 - A.length) = A.length + B.length by omega]
    have a1 := setCells_lit g (((A ++ B).map fun c : Nat => Value.int .i64 (c : Int)) ++ [Value.int .i64 0]) 0 (w.drewN q) cur g1
    refine ⟨_, rfl, row_mk a1 g2 (by omega) g4 (by rw [wrA_size]; exact g5) (Z := Value.int .i64 0 :: Z) ?_ (by simp), Upd.setCells (S := fun k => (Value.slice (some (⟨g, 0, none⟩ : Addr)) (A.length + 1 + B.length) cap).ownBlock = some k) (b := g) (.inl rfl) _ _ ((Upd.refl _ _).drewN q), rfl⟩
    exact (wrA_toList (((A ++ B).map fun c : Nat => Value.int .i64 (c : Int)) ++ [Value.int .i64 0]) 0 cur [] ((A ++ x :: B).map fun c : Nat => Value.int .i64 (c : Int)) Z (by rw [g8]; rfl) rfl (by simp)).trans (by rw [List.nil_append, List.append_assoc]; rfl)
/-! ### find -/
theorem bs_spec (less : Nat → Bool) (n k : Nat) (hk : k ≤ n) (h1 : ∀ t, t < k → less t = true) (h2 : ∀ t, k ≤ t → less t = false) : Lib.bsGo less n 0 n = k := Lib.bsGo_spec less k h1 h2 n 0 n (by omega) (by omega) hk
theorem find_c (there : Bool) (p : Nat) (d : Nd) (vk vv vi : Value) (A B : List ByteArray) (key : ByteArray) (w : World) (h : NdV w p d vk vv vi) (hd : d.keys = A ++ B) (hp : 0 < d.len) (hl : d.len ≤ 1000000) (hA : ∀ a ∈ A, kless a key = true) (hB : ∀ b ∈ B, kless b key = false) (hth : there = true ↔ ∃ B', B = key :: B') :
    Calls Tryz.prog 165 #[.pointer (some ⟨p, 0, none⟩), .string key] w fun e w' => e = .returned (.tuple #[.int .i64 (A.length : Nat), .bool there]) ∧ ∃ q, w' = w.drewN q := by
  obtain ⟨g, off, cap, ev, hcap, hc⟩ := h.ks.lit (by simpa [Nd.len] using hp)
  have hlen : d.keys.length = A.length + B.length := by rw [hd]; simp
  have hlt : d.keys.length ≤ 1000000 := hl
  have hp' : 0 < d.keys.length := hp
  rw [List.length_map] at ev hcap
  subst ev
  have HC := strs_at hc
  have BS := Any2.slices_BinarySearch_string Tryz.laysNm226 g off d.keys.length cap (fun t => d.keys.getD t key) key w (by omega) (fun j hj => by rw [HC j hj, getD_at _ _ hj, getD_at _ _ hj])
  have e1 : Lib.bsGo (fun t => Op.bytesLess (d.keys.getD t key).toList key.toList) d.keys.length 0 d.keys.length = A.length := by
    refine bs_spec _ _ _ (by omega) (fun t ht => ?_) fun t ht => ?_
    · rw [getD_at _ _ (by omega)]
      have : d.keys[t]'(by omega) = A[t] := by simp only [hd]; exact List.getElem_append_left ht
      rw [this]; exact hA _ (List.getElem_mem ht)
    · by_cases hx : t < d.keys.length
      · rw [getD_at _ _ hx]
        have : d.keys[t] = B[t - A.length]'(by omega) := by simp only [hd]; exact List.getElem_append_right ht
        rw [this]; exact hB _ (List.getElem_mem _)
      · rw [getD_out _ _ (by omega)]; exact kless_irrefl key
  rw [e1] at BS
  have e2 : (decide (A.length < d.keys.length ∧ d.keys.getD A.length key = key)) = there := by
    cases B with
    | nil =>
      have : there = false := by cases there with | false => rfl | true => obtain ⟨B', e⟩ := hth.1 rfl; cases e
      rw [this, decide_eq_false_iff_not]
      simp at hlen; omega
    | cons b B =>
      have h1 : A.length < d.keys.length := by rw [hlen]; simp
      rw [getD_at _ _ h1]
      have h2 : d.keys[A.length] = b := by simp only [hd]; simp
      rw [h2]
      cases there with
      | true => obtain ⟨B', e⟩ := hth.1 rfl; cases e; simp [h1]
      | false =>
        rw [decide_eq_false_iff_not]
        rintro ⟨-, rfl⟩
        exact absurd (hth.2 ⟨B, rfl⟩) (by simp)
  rw [e2] at BS
  have BS' : Hid (Calls Tryz.prog 204 #[.slice (some ⟨g, off, none⟩) (d.keys.length : Nat) cap, .string key] w fun e w' => e = .returned (.tuple #[.int .i64 (A.length : Nat), .bool there]) ∧ ∃ q, w' = w.drewN q) := Lib.hid BS
  have c1 : w.cell? ⟨p, 1, none⟩ = some (.slice (some ⟨g, off, none⟩) d.keys.length cap) := cell_lit h.blk rfl
  generalize d.keys.length = nn at *
  clear BS e1 e2 HC hc hA hB hd h hth hlen hlt hl hp hp' hcap
  go_enter Tryz.func165, Tryz.ntmps165
  go_wp2_with fail
  refine BS'.out.mono ?_
  rintro e w' ⟨rfl, hq⟩
  have HQ := Lib.hid hq
  clear hq BS' c1
  go_wp2_with fail
  go_ret2
  exact ⟨rfl, HQ.out⟩
end Go.Proofs.YtdcjhpafipbpkaaGreatDoor
namespace Go.Proofs.YtdcjhpafipbpkaaGreatDoor
set_option linter.unusedVariables false
set_option maxRecDepth 100000
set_option maxHeartbeats 2000000
open Go.RowKit
/-- The blocks of a node. -/
def NdF (p : Nat) (vk vv vi : Value) (k : Nat) : Prop := k = p ∨ vk.ownBlock = some k ∨ vv.ownBlock = some k ∨ vi.ownBlock = some k
def encN (c : Nat) : Value := Value.int .i64 (c : Int)
/-- A node in memory, part by part. -/
structure NdP (w : World) (p : Nat) (leaf : Bool) (K V : List ByteArray) (C : List Nat) (vk vv vi : Value) : Prop where
  blk : w.heap[p]? = some (.cells #[.bool leaf, vk, vv, vi] 222 (0, 0))
  ks : w.ownsRow 0 9 1 vk K.length (K.map Value.string)
  vs : w.ownsRow 0 9 1 vv V.length (V.map Value.string)
  is : w.ownsRow 0 3 1 vi C.length (C.map encN)
  pk : vk.ownBlock ≠ some p
  pv : vv.ownBlock ≠ some p
  pi : vi.ownBlock ≠ some p
  kv : ∀ k, vk.ownBlock = some k → vv.ownBlock ≠ some k
  ki : ∀ k, vk.ownBlock = some k → vi.ownBlock ≠ some k
  vi' : ∀ k, vv.ownBlock = some k → vi.ownBlock ≠ some k
theorem NdO.parts {w : World} {F : Nat → Prop} {p : Nat} {d : Nd} {vk vv vi : Value} (h : NdO w F p d vk vv vi) : NdP w p d.isLeaf d.keys d.vals d.kids vk vv vi :=
  ⟨h.blk, h.ks, h.vs, h.is, h.pk, h.pv, h.pi, h.kv, h.ki, h.vi'⟩
theorem NdP.nd {w : World} {p : Nat} {d : Nd} {vk vv vi : Value} (h : NdP w p d.isLeaf d.keys d.vals d.kids vk vv vi) : NdO w (NdF p vk vv vi) p d vk vv vi :=
  ⟨h.blk, h.ks, h.vs, h.is, h.pk, h.pv, h.pi, h.kv, h.ki, h.vi', fun _ => Iff.rfl⟩
section
variable {w W : World} {p : Nat} {leaf : Bool} {K V : List ByteArray} {C : List Nat} {vk vv vi : Value}
theorem NdP.ltp (h : NdP w p leaf K V C vk vv vi) : p < w.heap.size := lt_of_heap h.blk
theorem NdP.lt (h : NdP w p leaf K V C vk vv vi) : ∀ k, NdF p vk vv vi k → k < w.heap.size := by
  intro k hk
  rcases hk with rfl | e | e | e
  · exact h.ltp
  · exact (h.ks.lt k e).2
  · exact (h.vs.lt k e).2
  · exact (h.is.lt k e).2
theorem NdP.below (h : NdP w p leaf K V C vk vv vi) (hb : Below w.heap.size w W) : NdP W p leaf K V C vk vv vi :=
  ⟨(hb.block p h.ltp).trans h.blk, ownsRow_of h.ks fun k e => hb.block k (h.ks.lt k e).2, ownsRow_of h.vs fun k e => hb.block k (h.vs.lt k e).2, ownsRow_of h.is fun k e => hb.block k (h.is.lt k e).2, h.pk, h.pv, h.pi, h.kv, h.ki, h.vi'⟩
theorem row_other {e : TypeId} {v : Value} {n : Nat} {xs : List Value} {S : Nat → Prop} (h : w.ownsRow 0 e 1 v n xs) (hu : Upd S w W) (hS : ∀ k, v.ownBlock = some k → ¬ S k) : W.ownsRow 0 e 1 v n xs :=
  ownsRow_of h fun k e => hu.block k (h.lt k e).2 (hS k e)
theorem row_set {e : TypeId} {v : Value} {n : Nat} {xs : List Value} (h : W.ownsRow 0 e 1 v n xs) (i : Nat) (u : Value) (hp : v.ownBlock ≠ some p) : (W.setCell ⟨p, i, none⟩ u).ownsRow 0 e 1 v n xs :=
  ownsRow_of h fun k e => heap_set_ne u fun e' => hp (by rw [← e']; exact e)
theorem NdP.setK (h : NdP w p leaf K V C vk vv vi) {vk' : Value} {K' : List ByteArray} (hu : Upd (fun k => vk.ownBlock = some k) w W) (ho : W.ownsRow 0 9 1 vk' K'.length (K'.map Value.string)) (hn : ∀ k, vk'.ownBlock = some k → vk.ownBlock = some k ∨ w.heap.size ≤ k) :
    NdP (W.setCell ⟨p, 1, none⟩ vk') p leaf K' V C vk' vv vi ∧ Upd (NdF p vk vv vi) w (W.setCell ⟨p, 1, none⟩ vk') ∧ ∀ k, NdF p vk' vv vi k → NdF p vk vv vi k ∨ w.heap.size ≤ k := by
  have hp : vk'.ownBlock ≠ some p := fun e => by rcases hn p e with a | a <;> first | exact h.pk a | exact by have := h.ltp; omega
  refine ⟨⟨heap_set_lit (hu.at h.blk h.pk) vk', row_set ho 1 vk' hp, row_set (row_other h.vs hu fun k e e' => h.kv k e' e) 1 vk' h.pv, row_set (row_other h.is hu fun k e e' => h.ki k e' e) 1 vk' h.pi, hp, h.pv, h.pi, fun k e e' => ?_, fun k e e' => ?_, h.vi'⟩, Upd.setCell (hu.mono fun k _ e => .inr (.inl e)) (p := ⟨p, 1, none⟩) (.inl (.inl rfl)) vk', fun k hk => ?_⟩
  · rcases hn k e with a | a
    · exact h.kv k a e'
    · have := (h.vs.lt k e').2; omega
  · rcases hn k e with a | a
    · exact h.ki k a e'
    · have := (h.is.lt k e').2; omega
  · rcases hk with e | e | e | e
    · exact .inl (.inl e)
    · exact (hn k e).imp (fun a => .inr (.inl a)) id
    · exact .inl (.inr (.inr (.inl e)))
    · exact .inl (.inr (.inr (.inr e)))
theorem NdP.setV (h : NdP w p leaf K V C vk vv vi) {vv' : Value} {V' : List ByteArray} (hu : Upd (fun k => vv.ownBlock = some k) w W) (ho : W.ownsRow 0 9 1 vv' V'.length (V'.map Value.string)) (hn : ∀ k, vv'.ownBlock = some k → vv.ownBlock = some k ∨ w.heap.size ≤ k) :
    NdP (W.setCell ⟨p, 2, none⟩ vv') p leaf K V' C vk vv' vi ∧ Upd (NdF p vk vv vi) w (W.setCell ⟨p, 2, none⟩ vv') ∧ ∀ k, NdF p vk vv' vi k → NdF p vk vv vi k ∨ w.heap.size ≤ k := by
  have hp : vv'.ownBlock ≠ some p := fun e => by rcases hn p e with a | a <;> first | exact h.pv a | exact by have := h.ltp; omega
  refine ⟨⟨heap_set_lit (hu.at h.blk h.pv) vv', row_set (row_other h.ks hu fun k e e' => h.kv k e e') 2 vv' h.pk, row_set ho 2 vv' hp, row_set (row_other h.is hu fun k e e' => h.vi' k e' e) 2 vv' h.pi, h.pk, hp, h.pi, fun k e e' => ?_, h.ki, fun k e e' => ?_⟩, Upd.setCell (hu.mono fun k _ e => .inr (.inr (.inl e))) (p := ⟨p, 2, none⟩) (.inl (.inl rfl)) vv', fun k hk => ?_⟩
  · rcases hn k e' with a | a
    · exact h.kv k e a
    · have := (h.ks.lt k e).2; omega
  · rcases hn k e with a | a
    · exact h.vi' k a e'
    · have := (h.is.lt k e').2; omega
  · rcases hk with e | e | e | e
    · exact .inl (.inl e)
    · exact .inl (.inr (.inl e))
    · exact (hn k e).imp (fun a => .inr (.inr (.inl a))) id
    · exact .inl (.inr (.inr (.inr e)))
theorem NdP.setI (h : NdP w p leaf K V C vk vv vi) {vi' : Value} {C' : List Nat} (hu : Upd (fun k => vi.ownBlock = some k) w W) (ho : W.ownsRow 0 3 1 vi' C'.length (C'.map encN)) (hn : ∀ k, vi'.ownBlock = some k → vi.ownBlock = some k ∨ w.heap.size ≤ k) :
    NdP (W.setCell ⟨p, 3, none⟩ vi') p leaf K V C' vk vv vi' ∧ Upd (NdF p vk vv vi) w (W.setCell ⟨p, 3, none⟩ vi') ∧ ∀ k, NdF p vk vv vi' k → NdF p vk vv vi k ∨ w.heap.size ≤ k := by
  have hp : vi'.ownBlock ≠ some p := fun e => by rcases hn p e with a | a <;> first | exact h.pi a | exact by have := h.ltp; omega
  refine ⟨⟨heap_set_lit (hu.at h.blk h.pi) vi', row_set (row_other h.ks hu fun k e e' => h.ki k e e') 3 vi' h.pk, row_set (row_other h.vs hu fun k e e' => h.vi' k e e') 3 vi' h.pv, row_set ho 3 vi' hp, h.pk, h.pv, hp, h.kv, fun k e e' => ?_, fun k e e' => ?_⟩, Upd.setCell (hu.mono fun k _ e => .inr (.inr (.inr e))) (p := ⟨p, 3, none⟩) (.inl (.inl rfl)) vi', fun k hk => ?_⟩
  · rcases hn k e' with a | a
    · exact h.ki k e a
    · have := (h.ks.lt k e).2; omega
  · rcases hn k e' with a | a
    · exact h.vi' k e a
    · have := (h.vs.lt k e).2; omega
  · rcases hk with e | e | e | e
    · exact .inl (.inl e)
    · exact .inl (.inr (.inl e))
    · exact .inl (.inr (.inr (.inl e)))
    · exact (hn k e).imp (fun a => .inr (.inr (.inr a))) id
end
theorem str_one (l : List ByteArray) : ∀ y ∈ l.map Value.string, y.oneCell' = true := by
  intro y hy
  obtain ⟨x, -, rfl⟩ := List.mem_map.1 hy
  rfl
theorem int_one (l : List Nat) : ∀ y ∈ l.map encN, y.oneCell' = true := by
  intro y hy
  obtain ⟨x, -, rfl⟩ := List.mem_map.1 hy
  rfl
/-- A node that goes on: other blocks of its own, or new ones. -/
def NdGo (w w' : World) (F : Nat → Prop) (p : Nat) (d : Nd) : Prop := ∃ F', IsNd w' F' p d ∧ (∀ k, F' k → F k ∨ w.heap.size ≤ k) ∧ Upd F w w'
/-- Part of a node that goes on. -/
structure NdS (w w' : World) (F : Nat → Prop) (p : Nat) (leaf : Bool) (K V : List ByteArray) (C : List Nat) (vk vv vi : Value) : Prop where
  nd : NdP w' p leaf K V C vk vv vi
  sub : ∀ k, NdF p vk vv vi k → F k ∨ w.heap.size ≤ k
  upd : Upd F w w'
section
variable {w w' W : World} {F : Nat → Prop} {p : Nat} {leaf : Bool} {K V : List ByteArray} {C : List Nat} {vk vv vi : Value}
theorem NdS.start {d : Nd} (h : NdO w F p d vk vv vi) : NdS w w F p d.isLeaf d.keys d.vals d.kids vk vv vi :=
  ⟨h.parts, fun k hk => .inl ((h.own k).2 hk), Upd.refl _ _⟩
theorem NdS.go {d : Nd} (h : NdS w w' F p d.isLeaf d.keys d.vals d.kids vk vv vi) : NdGo w w' F p d := ⟨_, ⟨_, _, _, h.nd.nd⟩, h.sub, h.upd⟩
theorem NdS.below (h : NdS w w' F p leaf K V C vk vv vi) (hb : Below w'.heap.size w' W) : NdS w W F p leaf K V C vk vv vi :=
  ⟨h.nd.below hb, h.sub, h.upd.trans' (hb.upd' (Nat.le_refl _)) fun j _ e => False.elim e⟩
theorem NdS.alloc (h : NdS w w' F p leaf K V C vk vv vi) (o : Obj) : NdS w (w'.alloc o) F p leaf K V C vk vv vi :=
  h.below ((Below.refl _ _).alloc (Nat.le_refl _) o)
theorem NdS.step {vk' vv' vi' : Value} {K' V' : List ByteArray} {C' : List Nat} (h : NdS w w' F p leaf K V C vk vv vi) (hn : NdP W p leaf K' V' C' vk' vv' vi') (hu : Upd (NdF p vk vv vi) w' W) (hs : ∀ k, NdF p vk' vv' vi' k → NdF p vk vv vi k ∨ w'.heap.size ≤ k) : NdS w W F p leaf K' V' C' vk' vv' vi' := by
  refine ⟨hn, fun k hk => ?_, h.upd.trans' hu fun j hj e => ?_⟩
  · rcases hs k hk with a | a
    · exact h.sub k a
    · have := h.upd.size; exact .inr (by omega)
  · rcases h.sub j e with a | a
    · exact a
    · omega
theorem NdS.setK (h : NdS w w' F p leaf K V C vk vv vi) {vk' : Value} {K' : List ByteArray} (hu : Upd (fun k => vk.ownBlock = some k) w' W) (ho : W.ownsRow 0 9 1 vk' K'.length (K'.map Value.string)) (hn : ∀ k, vk'.ownBlock = some k → vk.ownBlock = some k ∨ w'.heap.size ≤ k) : NdS w (W.setCell ⟨p, 1, none⟩ vk') F p leaf K' V C vk' vv vi := by
  obtain ⟨a, b, c⟩ := h.nd.setK hu ho hn; exact h.step a b c
theorem NdS.setV (h : NdS w w' F p leaf K V C vk vv vi) {vv' : Value} {V' : List ByteArray} (hu : Upd (fun k => vv.ownBlock = some k) w' W) (ho : W.ownsRow 0 9 1 vv' V'.length (V'.map Value.string)) (hn : ∀ k, vv'.ownBlock = some k → vv.ownBlock = some k ∨ w'.heap.size ≤ k) : NdS w (W.setCell ⟨p, 2, none⟩ vv') F p leaf K V' C vk vv' vi := by
  obtain ⟨a, b, c⟩ := h.nd.setV hu ho hn; exact h.step a b c
theorem NdS.setI (h : NdS w w' F p leaf K V C vk vv vi) {vi' : Value} {C' : List Nat} (hu : Upd (fun k => vi.ownBlock = some k) w' W) (ho : W.ownsRow 0 3 1 vi' C'.length (C'.map encN)) (hn : ∀ k, vi'.ownBlock = some k → vi.ownBlock = some k ∨ w'.heap.size ≤ k) : NdS w (W.setCell ⟨p, 3, none⟩ vi') F p leaf K V C' vk vv vi' := by
  obtain ⟨a, b, c⟩ := h.nd.setI hu ho hn; exact h.step a b c
theorem NdP.cells (h : NdP w p leaf K V C vk vv vi) : w.cell? ⟨p, 0, none⟩ = some (.bool leaf) ∧ w.cell? ⟨p, 1, none⟩ = some vk ∧ w.cell? ⟨p, 2, none⟩ = some vv ∧ w.cell? ⟨p, 3, none⟩ = some vi ∧ (∀ i, w.frozen? ⟨p, i, none⟩ = false) ∧ p < w.heap.size :=
  ⟨cell_lit h.blk rfl, cell_lit h.blk rfl, cell_lit h.blk rfl, cell_lit h.blk rfl, fun i => frozen_lit h.blk i, h.ltp⟩
/-- The cells of the node behind a change of one of its rows. -/
theorem NdP.cellsU (h : NdP w p leaf K V C vk vv vi) {v : Value} (hu : Upd (fun k => v.ownBlock = some k) w W) (hv : v.ownBlock ≠ some p) : W.cell? ⟨p, 0, none⟩ = some (.bool leaf) ∧ W.cell? ⟨p, 1, none⟩ = some vk ∧ W.cell? ⟨p, 2, none⟩ = some vv ∧ W.cell? ⟨p, 3, none⟩ = some vi ∧ (∀ i, W.frozen? ⟨p, i, none⟩ = false) ∧ p < W.heap.size :=
  have hb := hu.at h.blk hv
  ⟨cell_lit hb rfl, cell_lit hb rfl, cell_lit hb rfl, cell_lit hb rfl, fun i => frozen_lit hb i, lt_of_heap hb⟩
end
theorem insert_leaf (F : Nat → Prop) (p : Nat) (A B : List (ByteArray × ByteArray)) (key val : ByteArray) (kid : Int) (w : World) (h : IsNd w F p (.leaf (A ++ B))) (hl : (A ++ B).length ≤ 90000) :
    Calls Tryz.prog 177 #[.pointer (some ⟨p, 0, none⟩), .int .i64 (A.length : Nat), .string key, .string val, .int .i64 kid] w fun e w' => e = .returned (.tuple #[]) ∧ Hid (NdGo w w' F p (.leaf (A ++ (key, val) :: B))) := by
  obtain ⟨vk, vv, vi, hO⟩ := h
  have S0 : Hid (NdS w w F p true ((A ++ B).map Prod.fst) ((A ++ B).map Prod.snd) [] vk vv vi) := Lib.hid (NdS.start hO)
  have I1 : Hid (∀ W K V C vk vv vi, NdP W p true K V C vk vv vi → K = (A ++ B).map Prod.fst → Calls Tryz.prog 213 #[vk, .int .i64 (A.length : Nat), .slice (some ⟨W.heap.size, 0, none⟩) 1 1] (W.alloc (.cells #[.string key] 9)) fun e w' => ∃ v', e = .returned v' ∧ Hid (w'.ownsRow 0 9 1 v' ((A ++ (key, val) :: B).map Prod.fst).length (((A ++ (key, val) :: B).map Prod.fst).map Value.string) ∧ Upd (fun k => vk.ownBlock = some k) (W.alloc (.cells #[.string key] 9)) w' ∧ ∀ k, v'.ownBlock = some k → vk.ownBlock = some k ∨ (W.alloc (.cells #[.string key] 9)).heap.size ≤ k)) := Lib.hid fun W K V C vk vv vi hW hK => by
    subst hK
    have hW2 := hW.below ((Below.refl W.heap.size W).alloc (Nat.le_refl _) (.cells #[.string key] 9))
    have := InsS_c 0 ((A ++ B).map Prod.fst).length vk ((A.map Prod.fst).map Value.string) ((B.map Prod.fst).map Value.string) (.string key) W.heap.size (W.alloc (.cells #[.string key] 9)) (by simpa using hW2.ks) (Nat.zero_le _) (by simpa using Nat.le_trans hl (by omega)) (by rw [← List.map_append]; exact str_one _) rfl (heap_alloc_new _ _) (fun e => by have := (hW.ks.lt _ e).2; omega)
    rw [List.length_map, List.length_map] at this
    simpa [InsRow, Nat.add_assoc] using this
  have I2 : Hid (∀ W K V C vk vv vi, NdP W p true K V C vk vv vi → V = (A ++ B).map Prod.snd → Calls Tryz.prog 213 #[vv, .int .i64 (A.length : Nat), .slice (some ⟨W.heap.size, 0, none⟩) 1 1] (W.alloc (.cells #[.string val] 9)) fun e w' => ∃ v', e = .returned v' ∧ Hid (w'.ownsRow 0 9 1 v' ((A ++ (key, val) :: B).map Prod.snd).length (((A ++ (key, val) :: B).map Prod.snd).map Value.string) ∧ Upd (fun k => vv.ownBlock = some k) (W.alloc (.cells #[.string val] 9)) w' ∧ ∀ k, v'.ownBlock = some k → vv.ownBlock = some k ∨ (W.alloc (.cells #[.string val] 9)).heap.size ≤ k)) := Lib.hid fun W K V C vk vv vi hW hK => by
    subst hK
    have hW2 := hW.below ((Below.refl W.heap.size W).alloc (Nat.le_refl _) (.cells #[.string val] 9))
    have := InsS_c 0 ((A ++ B).map Prod.snd).length vv ((A.map Prod.snd).map Value.string) ((B.map Prod.snd).map Value.string) (.string val) W.heap.size (W.alloc (.cells #[.string val] 9)) (by simpa using hW2.vs) (Nat.zero_le _) (by simpa using Nat.le_trans hl (by omega)) (by rw [← List.map_append]; exact str_one _) rfl (heap_alloc_new _ _) (fun e => by have := (hW.vs.lt _ e).2; omega)
    rw [List.length_map, List.length_map] at this
    simpa [InsRow, Nat.add_assoc] using this
  clear hO hl
  obtain ⟨c0, c1, c2, c3, cf, cl⟩ := S0.out.nd.cells
  go_enter Tryz.func177, Tryz.ntmps177
  go_wp2_with fail
  refine (I1.out w _ _ _ _ _ _ S0.out.nd rfl).mono ?_
  rintro e w1 ⟨v1, rfl, hR⟩
  have HR := Lib.hid hR
  obtain ⟨xa, xm, xc, rfl⟩ := slice_form hR.1
  clear hR I1
  have S1 := Lib.hid (NdS.setK (S0.out.alloc (.cells #[.string key] 9)) HR.out.2.1 HR.out.1 HR.out.2.2)
  obtain ⟨d0, d1, d2, d3, df, dl⟩ := (S0.out.alloc (.cells #[.string key] 9)).nd.cellsU HR.out.2.1 S0.out.nd.pk
  have d1f := df 1
  clear S0 HR c0 c1 c2 c3 cf cl
  have J2 := I2.out _ _ _ _ _ _ _ S1.out.nd rfl
  simp only [World.size_setCell] at J2
  have K2 := Lib.hid J2
  clear J2 I2
  go_wp2_with fail
  refine K2.out.mono ?_
  rintro e w2 ⟨v2, rfl, hR⟩
  have HR := Lib.hid hR
  obtain ⟨ya, ym, yc, rfl⟩ := slice_form hR.1
  clear hR K2
  have S1' := Lib.hid (S1.out.alloc (.cells #[.string val] 9))
  have S2 := Lib.hid (NdS.setV S1'.out HR.out.2.1 HR.out.1 (fun k hk => (HR.out.2.2 k hk).imp id fun h => by simpa using h))
  obtain ⟨g0, g1, g2, g3, gf, gl⟩ := S1'.out.nd.cellsU HR.out.2.1 S1'.out.nd.pv
  have g2f := gf 2
  clear S1 S1' HR d0 d1 d2 d3 df dl d1f
  go_wp2_with fail
  go_end0
  exact ⟨rfl, NdS.go (d := .leaf (A ++ (key, val) :: B)) S2.out⟩
end Go.Proofs.YtdcjhpafipbpkaaGreatDoor
namespace Go.Proofs.YtdcjhpafipbpkaaGreatDoor
set_option linter.unusedVariables false
set_option maxRecDepth 100000
set_option maxHeartbeats 2000000
open Go.RowKit
theorem insert_inner (F : Nat → Prop) (p : Nat) (A B : List (ByteArray × Nat)) (key val : ByteArray) (kid : Nat) (w : World) (h : IsNd w F p (.inner (A ++ B))) (hl : (A ++ B).length ≤ 90000) :
    Calls Tryz.prog 177 #[.pointer (some ⟨p, 0, none⟩), .int .i64 (A.length : Nat), .string key, .string val, .int .i64 (kid : Int)] w fun e w' => e = .returned (.tuple #[]) ∧ Hid (NdGo w w' F p (.inner (A ++ (key, kid) :: B))) := by
  obtain ⟨vk, vv, vi, hO⟩ := h
  have S0 : Hid (NdS w w F p false ((A ++ B).map Prod.fst) [] ((A ++ B).map Prod.snd) vk vv vi) := Lib.hid (NdS.start hO)
  have I1 : Hid (∀ W K V C vk vv vi, NdP W p false K V C vk vv vi → K = (A ++ B).map Prod.fst → Calls Tryz.prog 213 #[vk, .int .i64 (A.length : Nat), .slice (some ⟨W.heap.size, 0, none⟩) 1 1] (W.alloc (.cells #[.string key] 9)) fun e w' => ∃ v', e = .returned v' ∧ Hid (w'.ownsRow 0 9 1 v' ((A ++ (key, kid) :: B).map Prod.fst).length (((A ++ (key, kid) :: B).map Prod.fst).map Value.string) ∧ Upd (fun k => vk.ownBlock = some k) (W.alloc (.cells #[.string key] 9)) w' ∧ ∀ k, v'.ownBlock = some k → vk.ownBlock = some k ∨ (W.alloc (.cells #[.string key] 9)).heap.size ≤ k)) := Lib.hid fun W K V C vk vv vi hW hK => by
    subst hK
    have hW2 := hW.below ((Below.refl W.heap.size W).alloc (Nat.le_refl _) (.cells #[.string key] 9))
    have := InsS_c 0 ((A ++ B).map Prod.fst).length vk ((A.map Prod.fst).map Value.string) ((B.map Prod.fst).map Value.string) (.string key) W.heap.size (W.alloc (.cells #[.string key] 9)) (by simpa using hW2.ks) (Nat.zero_le _) (by simpa using Nat.le_trans hl (by omega)) (by rw [← List.map_append]; exact str_one _) rfl (heap_alloc_new _ _) (fun e => by have := (hW.ks.lt _ e).2; omega)
    rw [List.length_map, List.length_map] at this
    simpa [InsRow, Nat.add_assoc] using this
  have I2 : Hid (∀ W K V C vk vv vi, NdP W p false K V C vk vv vi → C = (A ++ B).map Prod.snd → Calls Tryz.prog 214 #[vi, .int .i64 (A.length : Nat), .slice (some ⟨W.heap.size, 0, none⟩) 1 1] (W.alloc (.cells #[.int .i64 (kid : Int)] 3)) fun e w' => ∃ v', e = .returned v' ∧ Hid (w'.ownsRow 0 3 1 v' ((A ++ (key, kid) :: B).map Prod.snd).length (((A ++ (key, kid) :: B).map Prod.snd).map encN) ∧ Upd (fun k => vi.ownBlock = some k) (W.alloc (.cells #[.int .i64 (kid : Int)] 3)) w' ∧ ∀ k, v'.ownBlock = some k → vi.ownBlock = some k ∨ (W.alloc (.cells #[.int .i64 (kid : Int)] 3)).heap.size ≤ k)) := Lib.hid fun W K V C vk vv vi hW hK => by
    subst hK
    have hW2 := hW.below ((Below.refl W.heap.size W).alloc (Nat.le_refl _) (.cells #[.int .i64 (kid : Int)] 3))
    have := InsI_c 0 ((A ++ B).map Prod.snd).length vi ((A.map Prod.snd).map encN) ((B.map Prod.snd).map encN) (encN kid) W.heap.size (W.alloc (.cells #[.int .i64 (kid : Int)] 3)) (by simpa using hW2.is) (Nat.zero_le _) (by simpa using Nat.le_trans hl (by omega)) (by rw [← List.map_append]; exact int_one _) rfl (heap_alloc_new _ _) (fun e => by have := (hW.is.lt _ e).2; omega)
    rw [List.length_map, List.length_map] at this
    simpa [InsRow, Nat.add_assoc] using this
  clear hO hl
  obtain ⟨c0, c1, c2, c3, cf, cl⟩ := S0.out.nd.cells
  go_enter Tryz.func177, Tryz.ntmps177
  go_wp2_with fail
  refine (I1.out w _ _ _ _ _ _ S0.out.nd rfl).mono ?_
  rintro e w1 ⟨v1, rfl, hR⟩
  have HR := Lib.hid hR
  obtain ⟨xa, xm, xc, rfl⟩ := slice_form hR.1
  clear hR I1
  have S1 := Lib.hid (NdS.setK (S0.out.alloc (.cells #[.string key] 9)) HR.out.2.1 HR.out.1 HR.out.2.2)
  obtain ⟨d0, d1, d2, d3, df, dl⟩ := (S0.out.alloc (.cells #[.string key] 9)).nd.cellsU HR.out.2.1 S0.out.nd.pk
  have d1f := df 1
  clear S0 HR c0 c1 c2 c3 cf cl
  have J2 := I2.out _ _ _ _ _ _ _ S1.out.nd rfl
  simp only [World.size_setCell] at J2
  have K2 := Lib.hid J2
  clear J2 I2
  go_wp2_with fail
  refine K2.out.mono ?_
  rintro e w2 ⟨v2, rfl, hR⟩
  have HR := Lib.hid hR
  obtain ⟨ya, ym, yc, rfl⟩ := slice_form hR.1
  clear hR K2
  have S1' := Lib.hid (S1.out.alloc (.cells #[.int .i64 (kid : Int)] 3))
  have S2 := Lib.hid (NdS.setI S1'.out HR.out.2.1 HR.out.1 (fun k hk => (HR.out.2.2 k hk).imp id fun h => by simpa using h))
  obtain ⟨g0, g1, g2, g3, gf, gl⟩ := S1'.out.nd.cellsU HR.out.2.1 S1'.out.nd.pi
  have g3f := gf 3
  clear S1 S1' HR d0 d1 d2 d3 df dl d1f
  go_wp2_with fail
  go_end0
  exact ⟨rfl, NdS.go (d := .inner (A ++ (key, kid) :: B)) S2.out⟩
end Go.Proofs.YtdcjhpafipbpkaaGreatDoor
namespace Go.Proofs.YtdcjhpafipbpkaaGreatDoor
set_option linter.unusedVariables false
set_option maxRecDepth 100000
set_option maxHeartbeats 300000
open Go.RowKit
theorem DelN_c (base : Nat) (v : Value) (A B : List Nat) (x : Nat) (w : World) (h : w.ownsRow base 3 1 v (A.length + 1 + B.length) ((A ++ x :: B).map encN)) :
    Calls Tryz.prog 218 #[v, .int .i64 (A.length : Nat), .int .i64 ((A.length : Int) + 1)] w fun e w' => ∃ v', e = .returned v' ∧ Hid (DelRow 3 base v (A.length + B.length) ((A ++ B).map encN) w v' w') :=
  DelI_c base v A B x w h
theorem remove_leaf (F : Nat → Prop) (p : Nat) (A B : List (ByteArray × ByteArray)) (x : ByteArray × ByteArray) (w : World) (h : IsNd w F p (.leaf (A ++ x :: B))) (hl : A.length ≤ 90000) :
    Calls Tryz.prog 180 #[.pointer (some ⟨p, 0, none⟩), .int .i64 (A.length : Nat)] w fun e w' => e = .returned (.tuple #[]) ∧ Hid (NdGo w w' F p (.leaf (A ++ B))) := by
  obtain ⟨vk, vv, vi, hO⟩ := h
  have S0 : Hid (NdS w w F p true ((A ++ x :: B).map Prod.fst) ((A ++ x :: B).map Prod.snd) [] vk vv vi) := Lib.hid (NdS.start hO)
  have I1 : Hid (∀ W K V C vk vv vi, NdP W p true K V C vk vv vi → K = (A ++ x :: B).map Prod.fst → Calls Tryz.prog 217 #[vk, .int .i64 (A.length : Nat), .int .i64 ((A.length : Int) + 1)] W fun e w' => ∃ v', e = .returned v' ∧ Hid (w'.ownsRow 0 9 1 v' ((A ++ B).map Prod.fst).length (((A ++ B).map Prod.fst).map Value.string) ∧ Upd (fun k => vk.ownBlock = some k) W w' ∧ ∀ k, v'.ownBlock = some k → vk.ownBlock = some k ∨ W.heap.size ≤ k)) := Lib.hid fun W K V C vk vv vi hW hK => by
    subst hK
    have := DelS_c 0 vk (A.map Prod.fst) (B.map Prod.fst) x.1 W (by have := hW.ks; simpa [Nat.add_assoc, Nat.add_comm 1] using this)
    rw [List.length_map, List.length_map] at this
    refine this.mono ?_
    rintro e w' ⟨v', rfl, a, b, c⟩
    exact ⟨v', rfl, by simpa using a, b, fun k hk => .inl (by rw [← c]; exact hk)⟩
  have I2 : Hid (∀ W K V C vk vv vi, NdP W p true K V C vk vv vi → V = (A ++ x :: B).map Prod.snd → Calls Tryz.prog 217 #[vv, .int .i64 (A.length : Nat), .int .i64 ((A.length : Int) + 1)] W fun e w' => ∃ v', e = .returned v' ∧ Hid (w'.ownsRow 0 9 1 v' ((A ++ B).map Prod.snd).length (((A ++ B).map Prod.snd).map Value.string) ∧ Upd (fun k => vv.ownBlock = some k) W w' ∧ ∀ k, v'.ownBlock = some k → vv.ownBlock = some k ∨ W.heap.size ≤ k)) := Lib.hid fun W K V C vk vv vi hW hK => by
    subst hK
    have := DelS_c 0 vv (A.map Prod.snd) (B.map Prod.snd) x.2 W (by have := hW.vs; simpa [Nat.add_assoc, Nat.add_comm 1] using this)
    rw [List.length_map, List.length_map] at this
    refine this.mono ?_
    rintro e w' ⟨v', rfl, a, b, c⟩
    exact ⟨v', rfl, by simpa using a, b, fun k hk => .inl (by rw [← c]; exact hk)⟩
  clear hO
  obtain ⟨c0, c1, c2, c3, cf, cl⟩ := S0.out.nd.cells
  go_enter Tryz.func180, Tryz.ntmps180
  go_wp2_with fail
  refine (I1.out w _ _ _ _ _ _ S0.out.nd rfl).mono ?_
  rintro e w1 ⟨v1, rfl, hR⟩
  have HR := Lib.hid hR
  obtain ⟨xa, xm, xc, rfl⟩ := slice_form hR.1
  clear hR I1
  have S1 := Lib.hid (NdS.setK S0.out HR.out.2.1 HR.out.1 HR.out.2.2)
  obtain ⟨d0, d1, d2, d3, df, dl⟩ := S0.out.nd.cellsU HR.out.2.1 S0.out.nd.pk
  have d1f := df 1
  clear S0 HR c0 c1 c2 c3 cf cl
  go_wp2_with fail
  refine (I2.out _ _ _ _ _ _ _ S1.out.nd rfl).mono ?_
  rintro e w2 ⟨v2, rfl, hR⟩
  have HR := Lib.hid hR
  obtain ⟨ya, ym, yc, rfl⟩ := slice_form hR.1
  clear hR I2
  have S2 := Lib.hid (NdS.setV S1.out HR.out.2.1 HR.out.1 HR.out.2.2)
  obtain ⟨g0, g1, g2, g3, gf, gl⟩ := S1.out.nd.cellsU HR.out.2.1 S1.out.nd.pv
  have g2f := gf 2
  clear S1 HR d0 d1 d2 d3 df dl d1f
  go_wp2_with fail
  go_end0
  exact ⟨rfl, NdS.go (d := .leaf (A ++ B)) S2.out⟩
theorem remove_inner (F : Nat → Prop) (p : Nat) (A B : List (ByteArray × Nat)) (x : ByteArray × Nat) (w : World) (h : IsNd w F p (.inner (A ++ x :: B))) (hl : A.length ≤ 90000) :
    Calls Tryz.prog 180 #[.pointer (some ⟨p, 0, none⟩), .int .i64 (A.length : Nat)] w fun e w' => e = .returned (.tuple #[]) ∧ Hid (NdGo w w' F p (.inner (A ++ B))) := by
  obtain ⟨vk, vv, vi, hO⟩ := h
  have S0 : Hid (NdS w w F p false ((A ++ x :: B).map Prod.fst) [] ((A ++ x :: B).map Prod.snd) vk vv vi) := Lib.hid (NdS.start hO)
  have I1 : Hid (∀ W K V C vk vv vi, NdP W p false K V C vk vv vi → K = (A ++ x :: B).map Prod.fst → Calls Tryz.prog 217 #[vk, .int .i64 (A.length : Nat), .int .i64 ((A.length : Int) + 1)] W fun e w' => ∃ v', e = .returned v' ∧ Hid (w'.ownsRow 0 9 1 v' ((A ++ B).map Prod.fst).length (((A ++ B).map Prod.fst).map Value.string) ∧ Upd (fun k => vk.ownBlock = some k) W w' ∧ ∀ k, v'.ownBlock = some k → vk.ownBlock = some k ∨ W.heap.size ≤ k)) := Lib.hid fun W K V C vk vv vi hW hK => by
    subst hK
    have := DelS_c 0 vk (A.map Prod.fst) (B.map Prod.fst) x.1 W (by have := hW.ks; simpa [Nat.add_assoc, Nat.add_comm 1] using this)
    rw [List.length_map, List.length_map] at this
    refine this.mono ?_
    rintro e w' ⟨v', rfl, a, b, c⟩
    exact ⟨v', rfl, by simpa using a, b, fun k hk => .inl (by rw [← c]; exact hk)⟩
  have I2 : Hid (∀ W K V C vk vv vi, NdP W p false K V C vk vv vi → C = (A ++ x :: B).map Prod.snd → Calls Tryz.prog 218 #[vi, .int .i64 (A.length : Nat), .int .i64 ((A.length : Int) + 1)] W fun e w' => ∃ v', e = .returned v' ∧ Hid (w'.ownsRow 0 3 1 v' ((A ++ B).map Prod.snd).length (((A ++ B).map Prod.snd).map encN) ∧ Upd (fun k => vi.ownBlock = some k) W w' ∧ ∀ k, v'.ownBlock = some k → vi.ownBlock = some k ∨ W.heap.size ≤ k)) := Lib.hid fun W K V C vk vv vi hW hK => by
    subst hK
    have := DelN_c 0 vi (A.map Prod.snd) (B.map Prod.snd) x.2 W (by have := hW.is; simpa [Nat.add_assoc, Nat.add_comm 1] using this)
    rw [List.length_map, List.length_map] at this
    refine this.mono ?_
    rintro e w' ⟨v', rfl, a, b, c⟩
    exact ⟨v', rfl, by simpa using a, b, fun k hk => .inl (by rw [← c]; exact hk)⟩
  clear hO
  obtain ⟨c0, c1, c2, c3, cf, cl⟩ := S0.out.nd.cells
  go_enter Tryz.func180, Tryz.ntmps180
  go_wp2_with fail
  refine (I1.out w _ _ _ _ _ _ S0.out.nd rfl).mono ?_
  rintro e w1 ⟨v1, rfl, hR⟩
  have HR := Lib.hid hR
  obtain ⟨xa, xm, xc, rfl⟩ := slice_form hR.1
  clear hR I1
  have S1 := Lib.hid (NdS.setK S0.out HR.out.2.1 HR.out.1 HR.out.2.2)
  obtain ⟨d0, d1, d2, d3, df, dl⟩ := S0.out.nd.cellsU HR.out.2.1 S0.out.nd.pk
  have d1f := df 1
  clear S0 HR c0 c1 c2 c3 cf cl
  go_wp2_with fail
  refine (I2.out _ _ _ _ _ _ _ S1.out.nd rfl).mono ?_
  rintro e w2 ⟨v2, rfl, hR⟩
  have HR := Lib.hid hR
  obtain ⟨ya, ym, yc, rfl⟩ := slice_form hR.1
  clear hR I2
  have S2 := Lib.hid (NdS.setI S1.out HR.out.2.1 HR.out.1 HR.out.2.2)
  obtain ⟨g0, g1, g2, g3, gf, gl⟩ := S1.out.nd.cellsU HR.out.2.1 S1.out.nd.pi
  have g3f := gf 3
  clear S1 HR d0 d1 d2 d3 df dl d1f
  go_wp2_with fail
  go_end0
  exact ⟨rfl, NdS.go (d := .inner (A ++ B)) S2.out⟩
end Go.Proofs.YtdcjhpafipbpkaaGreatDoor
namespace Go.Proofs.YtdcjhpafipbpkaaGreatDoor
set_option linter.unusedVariables false
set_option maxRecDepth 100000
set_option maxHeartbeats 400000
open Go.RowKit
theorem gtr_eq (c key : ByteArray) : (!Op.bytesLess c.toList key.toList && !c.toList == key.toList) = kless key c := by
  show (!kless c key && !c.toList == key.toList) = kless key c
  cases h : kless c key with
  | true => rw [kless_asymm h]; rfl
  | false =>
    by_cases e : c = key
    · subst e; rw [kless_irrefl]; simp
    · cases g : kless key c with
      | false => exact absurd (kless_total h g) e
      | true =>
        have : (c.toList == key.toList) = false := by
          rw [beq_eq_false_iff_ne, Lib.toList_data, Lib.toList_data]
          exact fun e' => e (ByteArray.ext (Array.toList_inj.1 e'))
        rw [this]; rfl
/-- The closure of way, and its search. -/
theorem way1_c (K : List ByteArray) (p b1 b2 i : Nat) (g off cap nn : Nat) (leaf : Bool) (vv vi : Value) (key c : ByteArray) (w : World) (fr : Nat × Nat) (hb : w.heap[p]? = some (.cells #[.bool leaf, .slice (some ⟨g, off, none⟩) nn cap, vv, vi] 222 fr))
    (h1 : w.cell? ⟨b1, 0, none⟩ = some (.pointer (some ⟨p, 0, none⟩))) (h2 : w.cell? ⟨b2, 0, none⟩ = some (.string key)) (hi : i < nn) (hc : w.cell? ⟨g, off + i, none⟩ = some (.string c)) :
    Calls Tryz.prog 206 #[.int .i64 (i : Int), .pointer (some ⟨b1, 0, none⟩), .pointer (some ⟨b2, 0, none⟩)] w fun e w' => e = .returned (.bool (kless key c)) ∧ ∃ q, w' = w.drewN q := by
  have c1 : w.cell? ⟨p, 1, none⟩ = some (.slice (some ⟨g, off, none⟩) nn cap) := cell_lit hb rfl
  have hlt : (i : Int) < (nn : Int) := by omega
  have hk : Op.bytesLess key.toList c.toList = kless key c := rfl
  clear hb
  go_enter Tryz.func206, Tryz.ntmps206
  go_wp2_with fail
  go_quiet (fail)
  go_wp2_with fail
  go_ret
  exact ⟨by rw [gtr_eq]; rfl, nq, rfl⟩
theorem Below.drewN {B : Nat} {a w : World} (h : Below B a w) (q : Nat) : Below B a (w.drewN q) := ⟨h.os, h.tape, h.output, h.size, h.block⟩
theorem search_c (n m : Nat) (f : Nat → Bool) (b1 b2 : Nat) (w : World) (hn : n ≤ 1000000) (hm : m < n) (h1 : ∀ t, 1 ≤ t → t ≤ m → f t = false) (h2 : ∀ t, m < t → t < n → f t = true)
    (CL : Hid (∀ (i : Nat) W, i < n → Below w.heap.size w W → Calls Tryz.prog 206 #[.int .i64 (i : Int), .pointer (some ⟨b1, 0, none⟩), .pointer (some ⟨b2, 0, none⟩)] W fun e w' => e = .returned (.bool (f i)) ∧ Hid (Below w.heap.size w w'))) :
    Calls Tryz.prog 205 #[.int .i64 (n : Int), .func (Fn.func 206) #[] #[.pointer (some ⟨b1, 0, none⟩), .pointer (some ⟨b2, 0, none⟩)]] w fun e w' => ∃ r : Nat, e = .returned (.int .i64 (r : Int)) ∧ Hid ((r = m + 1 ∨ (r = 0 ∧ m = 0)) ∧ Below w.heap.size w w') := by
  have H1 := Lib.hid h1
  have H2 := Lib.hid h2
  have hnot : ∀ (x : Bool) (w : World), (Op.unary .not (.bool x)).run Tryz.prog w = .ok (.bool (!x)) w := fun _ _ => rfl
  clear h1 h2
  go_enter Tryz.func205, Tryz.ntmps205
  go_wp2_with fail
  go_loopg [5, 6] n (fun g s5 s6 wr => ∃ lo hi : Nat, g = hi - lo ∧ s5 = .int .i64 (lo : Int) ∧ s6 = .int .i64 (hi : Int) ∧ lo ≤ hi ∧ hi ≤ n ∧ lo ≤ m + 1 ∧ (m + 1 ≤ hi ∨ (hi = 0 ∧ m = 0)) ∧ Hid (Below w.heap.size w wr))
  case atStart => exact ⟨0, n, rfl, rfl, rfl, Nat.zero_le _, Nat.le_refl _, Nat.zero_le _, .inl hm, Lib.hid (Below.refl _ _)⟩
  case round =>
    obtain ⟨lo, hi, rfl, rfl, rfl, hlh, hin, hlm, hhm, HB⟩ := hrel
    by_cases hlt : lo < hi
    · have hmid : (lo + hi) / 2 < n := by omega
      have C1 := CL.out ((lo + hi) / 2) wr hmid HB.out
      rw [show (((lo + hi) / 2 : Nat) : Int) = ((lo : Int) + (hi : Int)) / 2 by omega] at C1
      have C2 := Lib.hid C1
      clear C1 CL
      cases hf : f ((lo + hi) / 2) with
      | false =>
        have q1 : (lo + hi) / 2 ≤ m := by
          by_cases h : (lo + hi) / 2 ≤ m
          · exact h
          · have := H2.out _ (by omega : m < (lo + hi) / 2) hmid; rw [hf] at this; cases this
        rw [hf] at C2
        go_wp2_with fail
        refine C2.out.mono ?_
        rintro e w1 ⟨rfl, HB1⟩
        clear C2
        go_wp2_with fail
        go_roundg (hi - ((lo + hi) / 2 + 1))
        case measure => omega
        case rel => exact ⟨(lo + hi) / 2 + 1, hi, rfl, by congr 1, rfl, by omega, hin, by omega, hhm, HB1⟩
      | true =>
        have q1 : m < (lo + hi) / 2 ∨ (lo + hi) / 2 = 0 := by
          by_cases h : m < (lo + hi) / 2
          · exact .inl h
          · by_cases h0 : (lo + hi) / 2 = 0
            · exact .inr h0
            · have := H1.out ((lo + hi) / 2) (by omega) (by omega); rw [hf] at this; cases this
        rw [hf] at C2
        go_wp2_with fail
        refine C2.out.mono ?_
        rintro e w1 ⟨rfl, HB1⟩
        clear C2
        go_wp2_with fail
        go_roundg ((lo + hi) / 2 - lo)
        case measure => omega
        case rel => exact ⟨lo, (lo + hi) / 2, rfl, rfl, by congr 1, by omega, by omega, hlm, by omega, HB1⟩
    · obtain rfl : lo = hi := by omega
      clear CL
      go_wp2_with fail
      go_ret
      exact ⟨lo, rfl, (by omega), HB.out⟩
theorem max_dec (r m : Nat) (h : r = m + 1 ∨ (r = 0 ∧ m = 0)) : max ((r : Int) - 1) 0 = (m : Int) := by omega
/-- The kid of a key. -/
theorem way_c (p : Nat) (d : Nd) (vk vv vi : Value) (A B : List ByteArray) (x key : ByteArray) (w : World) (h : NdV w p d vk vv vi) (hd : d.keys = A ++ x :: B) (hl : d.len ≤ 1000000) (hA : ∀ y ∈ (A ++ [x]).tail, kless key y = false) (hB : ∀ b ∈ B, kless key b = true) :
    Calls Tryz.prog 166 #[.pointer (some ⟨p, 0, none⟩), .string key] w fun e w' => e = .returned (.int .i64 (A.length : Nat)) ∧ Hid (Below w.heap.size w w') := by
  have hlen : d.keys.length = A.length + 1 + B.length := by rw [hd]; simp; omega
  obtain ⟨g, off, cap, ev, hcap, hc⟩ := h.ks.lit (by simp; omega)
  have hlt : d.keys.length ≤ 1000000 := hl
  rw [List.length_map] at ev hcap
  subst ev
  have HC := strs_at hc
  have hk2 : w.heap[p]? = some (.cells #[.bool d.isLeaf, .slice (some ⟨g, off, none⟩) d.keys.length cap, vv, vi] 222 (0, 0)) := h.blk
  have hlt' := lt_of_heap hk2
  have HS : Hid (∀ W, Below w.heap.size w W → W.heap.size ≥ w.heap.size + 2 → W.cell? ⟨w.heap.size, 0, none⟩ = some (.pointer (some ⟨p, 0, none⟩)) → W.cell? ⟨w.heap.size + 1, 0, none⟩ = some (.string key) →
      Calls Tryz.prog 205 #[.int .i64 (d.keys.length : Int), .func (Fn.func 206) #[] #[.pointer (some ⟨w.heap.size, 0, none⟩), .pointer (some ⟨w.heap.size + 1, 0, none⟩)]] W fun e w' => ∃ r : Nat, e = .returned (.int .i64 (r : Int)) ∧ Hid ((r = A.length + 1 ∨ (r = 0 ∧ A.length = 0)) ∧ Below w.heap.size w w')) := Lib.hid fun W hW hWs b1 b2 => by
    refine (search_c d.keys.length A.length (fun i => kless key (d.keys.getD i ByteArray.empty)) w.heap.size (w.heap.size + 1) W hlt (by omega) (fun t h1 h2 => ?_) (fun t h1 h2 => ?_) (Lib.hid fun i W' hi hW' => ?_)).mono ?_
    · rw [getD_at _ _ (by omega)]
      refine hA _ ?_
      have : d.keys[t]'(by omega) = (A ++ [x]).tail[t - 1]'(by simp; omega) := by
        have e : d.keys = (A ++ [x]) ++ B := by rw [hd]; simp
        simp only [e]
        rw [List.getElem_append_left (by simp; omega), List.getElem_tail]
        congr 1; omega
      rw [this]; exact List.getElem_mem _
    · rw [getD_at _ _ (by omega)]
      refine hB _ ?_
      have : d.keys[t]'(by omega) = B[t - (A.length + 1)]'(by omega) := by
        have e : d.keys = (A ++ [x]) ++ B := by rw [hd]; simp
        simp only [e]
        rw [List.getElem_append_right (by simp; omega)]
        simp
      rw [this]; exact List.getElem_mem _
    · have k1 : W'.heap[p]? = _ := (hW'.block p (by omega)).trans ((hW.block p hlt').trans hk2)
      have k2 : W'.cell? ⟨g, off + i, none⟩ = some (.string (d.keys.getD i ByteArray.empty)) := by
        have := HC i hi
        have hb := World.block_lt_of_cell? w _ this
        exact (World.cell?_of_block ((hW'.block _ (Nat.lt_of_lt_of_le hb (by omega))).trans (hW.block _ hb))).trans this
      refine (way1_c [] p _ _ i g off cap d.keys.length d.isLeaf vv vi key _ W' (0, 0) k1 ?_ ?_ hi k2).mono ?_
      · exact (World.cell?_of_block (hW'.block _ (by show w.heap.size < _; omega))).trans b1
      · exact (World.cell?_of_block (hW'.block _ (by show w.heap.size + 1 < _; omega))).trans b2
      · rintro e w' ⟨rfl, q, rfl⟩
        exact ⟨rfl, Below.drewN hW' q⟩
    · rintro e w' ⟨r, rfl, a, b⟩
      exact ⟨r, rfl, a, hW.trans (b.mono (by omega))⟩
  have hmf : ∀ (fn : Fn) (first cap : Array Value) (w : World), (Instr.makeFunc fn first cap).run Tryz.prog w = .ok (.func fn first cap) w := fun _ _ _ _ => rfl
  have c1 : w.cell? ⟨p, 1, none⟩ = some (.slice (some ⟨g, off, none⟩) d.keys.length cap) := cell_lit hk2 rfl
  have hAl : A.length ≤ 1000000 := by omega
  have b1 : ((w.alloc (.cells #[.pointer (some ⟨p, 0, none⟩)] 220)).alloc (.cells #[.string key] 9)).cell? ⟨w.heap.size, 0, none⟩ = some (.pointer (some ⟨p, 0, none⟩)) := by
    have h1 := heap_alloc_new w (.cells #[.pointer (some ⟨p, 0, none⟩)] 220)
    exact cell_lit ((((Below.refl (w.heap.size + 1) (w.alloc (.cells #[.pointer (some ⟨p, 0, none⟩)] 220))).alloc (by simp) (.cells #[.string key] 9)).block _ (by omega)).trans h1) rfl
  have b2 : ((w.alloc (.cells #[.pointer (some ⟨p, 0, none⟩)] 220)).alloc (.cells #[.string key] 9)).cell? ⟨w.heap.size + 1, 0, none⟩ = some (.string key) := by
    have h1 := heap_alloc_new (w.alloc (.cells #[.pointer (some ⟨p, 0, none⟩)] 220)) (.cells #[.string key] 9)
    rw [World.size_alloc] at h1
    exact cell_lit h1 rfl
  have S1 := Lib.hid (HS.out _ (((Below.refl w.heap.size w).alloc (Nat.le_refl _) _).alloc (by simp) _) (by simp) b1 b2)
  generalize d.keys.length = nn at *
  clear h hd hl hA hB hcap hlen hlt hc HC hk2 HS b1 b2
  go_enter Tryz.func166, Tryz.ntmps166
  go_wp2_with fail
  refine S1.out.mono ?_
  rintro e w1 ⟨r, rfl, hr⟩
  have HR := Lib.hid hr
  have hr1 : r ≤ 1000001 := by have := hr.1; omega
  clear hr S1
  have HM := max_dec r A.length HR.out.1
  go_wp2_with fail
  go_ret
  exact ⟨rfl, HR.out.2⟩
end Go.Proofs.YtdcjhpafipbpkaaGreatDoor
