/- Parts of the proof of TreeMany, joined: TreeD, TreeE, TreeF, TreeG, TreeH, TreeP, TreeQ, TreeI. No condition. -/
import Derived.Test.YtaibjcjphmhgmaaGreatDoorTm3
import Derived.BigQuiet
import Derived.Shelf.Spec.SlicesInsertGrow
import Derived.Sort.Walk0
import Derived.Shelf.Spec.SearchS
set_option linter.unusedSimpArgs false
set_option linter.unusedVariables false
set_option linter.unusedSectionVars false
namespace Go.Proofs.YtaibjcjphmhgmaaGreatDoor
set_option linter.unusedVariables false
set_option maxRecDepth 100000
set_option maxHeartbeats 2000000
open Go.RowKit
def entL (p : ByteArray × ByteArray) : List UInt8 := [UInt8.ofNat p.1.size] ++ (p.1.data.toList ++ ([UInt8.ofNat p.2.size] ++ p.2.data.toList))
def be4 (c : Nat) : List UInt8 := [UInt8.ofNat (c / 16777216), UInt8.ofNat (c / 65536), UInt8.ofNat (c / 256), UInt8.ofNat c]
def entI (p : ByteArray × Nat) : List UInt8 := [UInt8.ofNat p.1.size] ++ (p.1.data.toList ++ be4 p.2)
def Nd.body : Nd → List UInt8
  | .leaf l => l.flatMap entL
  | .inner l => l.flatMap entI
def Nd.kind : Nd → UInt8
  | .leaf _ => 76
  | .inner _ => 78
def Nd.bytes (d : Nd) : List UInt8 := [d.kind] ++ ([UInt8.ofNat (d.len / 256), UInt8.ofNat d.len] ++ d.body)
theorem beL_be4 (c : Nat) (h : c < 4294967296) : beL (be4 c) = c := by
  simp only [beL, be4, List.foldl_cons, List.foldl_nil, UInt8.toNat_ofNat']
  omega
theorem beL_two (n : Nat) (h : n < 65536) : beL [UInt8.ofNat (n / 256), UInt8.ofNat n] = n := by
  simp only [beL, List.foldl_cons, List.foldl_nil, UInt8.toNat_ofNat']
  omega
/-- Parsing: the reader r, the node p as far as it is read. -/
structure PS (w wr : World) (r p : Nat) (lf : Bool) (vk vv vi : Value) (K V : List ByteArray) (C : List Nat) (rest : List UInt8) : Prop where
  blk : wr.heap[p]? = some (.cells #[.bool lf, vk, vv, vi] 139 (0, 0))
  ks : wr.ownsRow (p + 1) 9 1 vk K.length (K.map Value.string)
  vs : wr.ownsRow (p + 1) 9 1 vv V.length (V.map Value.string)
  is : wr.ownsRow (p + 1) 3 1 vi C.length (C.map fun c : Nat => Value.int .i64 (c : Int))
  kv : ∀ k, vk.ownBlock = some k → vv.ownBlock ≠ some k
  ki : ∀ k, vk.ownBlock = some k → vi.ownBlock ≠ some k
  vi' : ∀ k, vv.ownBlock = some k → vi.ownBlock ≠ some k
  rd : Rd wr r rest
  low : w.heap.size ≤ r
  rp : r < p
  bel : Below w.heap.size w wr
theorem ownsRow_mono {w : World} {b b' : Nat} {e : TypeId} {n : Nat} {v : Value} {xs : List Value} (h : w.ownsRow b e 1 v n xs) (hb : b' ≤ b) : w.ownsRow b' e 1 v n xs := by
  refine ⟨h.1, ?_⟩
  rcases h.2 with hn | ⟨g, cap, cur, rfl, hg, rest⟩
  · exact .inl hn
  · exact .inr ⟨g, cap, cur, rfl, by omega, rest⟩
theorem PS.nd {w wr : World} {r p : Nat} {d : Nd} {vk vv vi : Value} {rest : List UInt8} (h : PS w wr r p d.isLeaf vk vv vi d.keys d.vals d.kids rest) : ∃ F, IsNd wr F p d ∧ (∀ k, F k → w.heap.size ≤ k) ∧ Below w.heap.size w wr := by
  refine ⟨fun k => k = p ∨ vk.ownBlock = some k ∨ vv.ownBlock = some k ∨ vi.ownBlock = some k, ⟨vk, vv, vi, h.blk, ownsRow_mono h.ks (Nat.zero_le _), ownsRow_mono h.vs (Nat.zero_le _), ownsRow_mono h.is (Nat.zero_le _), fun e => ?_, fun e => ?_, fun e => ?_, h.kv, h.ki, h.vi', fun _ => Iff.rfl⟩, fun k hk => ?_, h.bel⟩
  · have := (h.ks.lt p e).1; omega
  · have := (h.vs.lt p e).1; omega
  · have := (h.is.lt p e).1; omega
  · have := h.low; have := h.rp
    rcases hk with rfl | e | e | e
    · omega
    · have := (h.ks.lt k e).1; omega
    · have := (h.vs.lt k e).1; omega
    · have := (h.is.lt k e).1; omega
theorem ps_key {w wr W1 W3 : World} {r p : Nat} {lf : Bool} {vk vv vi vk' : Value} {K V : List ByteArray} {C : List Nat} {rest rest2 : List UInt8} {s : ByteArray} {o : Obj} (h : PS w wr r p lf vk vv vi K V C rest) (h1 : Rd W1 r rest2 ∧ Upd (fun k => k = r) wr W1)
    (ho : W3.ownsRow (p + 1) 9 1 vk' (K.length + 1) (K.map Value.string ++ [Value.string s])) (hg : (W1.alloc o).grownBy W3 vk.ownBlock) (ha : vk'.ownBlock = vk.ownBlock ∨ vk'.ownBlock = some (W1.alloc o).heap.size) :
    PS w (W3.setCell ⟨p, 1, none⟩ vk') r p lf vk' vv vi (K ++ [s]) V C rest2 ∧ W3.heap[p]? = some (.cells #[.bool lf, vk, vv, vi] 139 (0, 0)) := by
  obtain ⟨hr1, hu⟩ := h1
  have hrp := h.rp
  have hsz := hu.size
  have hsa : (W1.alloc o).heap.size = W1.heap.size + 1 := by simp
  have keep : ∀ k, k < wr.heap.size → k ≠ r → vk.ownBlock ≠ some k → W3.heap[k]? = wr.heap[k]? := fun k hk hn hv =>
    (hg.block k (by omega) (fun e => hv e.symm)).trans ((heap_alloc_lt o (by omega)).trans (hu.block k hk hn))
  have hp := lt_of_heap h.blk
  have hvp : ∀ k, vk.ownBlock = some k → p + 1 ≤ k ∧ k < wr.heap.size := fun k e => h.ks.lt k e
  have b3 : W3.heap[p]? = some (.cells #[.bool lf, vk, vv, vi] 139 (0, 0)) := (keep p hp (by omega) (fun e => by have := (hvp p e).1; omega)).trans h.blk
  have hv' : ∀ k, vk'.ownBlock = some k → vk.ownBlock = some k ∨ wr.heap.size ≤ k := fun k e => by
    rcases ha with a | a
    · exact .inl (a ▸ e)
    · rw [a] at e; cases e; exact .inr (by omega)
  refine ⟨⟨(heap_set_lit b3 _).trans (by simp), ?_, ?_, ?_, ?_, ?_, ?_, ?_, h.low, h.rp, ?_⟩, b3⟩
  · have := ownsRow_of (w' := W3.setCell ⟨p, 1, none⟩ vk') ho (fun k e => heap_set_ne _ (by have := (ho.lt k e).1; omega))
    simpa using this
  · refine ownsRow_of h.vs fun k e => ?_
    have hk := h.vs.lt k e
    exact (heap_set_ne _ (by omega)).trans (keep k hk.2 (by omega) (fun e2 => h.kv k e2 e))
  · refine ownsRow_of h.is fun k e => ?_
    have hk := h.is.lt k e
    exact (heap_set_ne _ (by omega)).trans (keep k hk.2 (by omega) (fun e2 => h.ki k e2 e))
  · intro k e e2
    rcases hv' k e with a | a
    · exact h.kv k a e2
    · have := (h.vs.lt k e2).2; omega
  · intro k e e2
    rcases hv' k e with a | a
    · exact h.ki k a e2
    · have := (h.is.lt k e2).2; omega
  · exact h.vi'
  · refine (heap_set_ne _ (by omega)).trans ((hg.block r ?_ (fun e => ?_)).trans ((heap_alloc_lt o (lt_of_heap hr1)).trans hr1))
    · have := lt_of_heap hr1; omega
    · have := (hvp r e.symm).1; omega
  · have hlow := h.low
    refine ((Below.trans h.bel ((hu.below (B := w.heap.size) h.bel.size (fun k hk e => by omega)).alloc (Nat.le_trans h.bel.size hu.size) o)).grown hg (by have := h.bel.size; omega) (fun k e => ?_)).setCell (show w.heap.size ≤ p by omega) _
    have := (hvp k e).1; omega
theorem ps_val {w wr W1 W3 : World} {r p : Nat} {lf : Bool} {vk vv vi vv' : Value} {K V : List ByteArray} {C : List Nat} {rest rest2 : List UInt8} {s : ByteArray} {o : Obj} (h : PS w wr r p lf vk vv vi K V C rest) (h1 : Rd W1 r rest2 ∧ Upd (fun k => k = r) wr W1)
    (ho : W3.ownsRow (p + 1) 9 1 vv' (V.length + 1) (V.map Value.string ++ [Value.string s])) (hg : (W1.alloc o).grownBy W3 vv.ownBlock) (ha : vv'.ownBlock = vv.ownBlock ∨ vv'.ownBlock = some (W1.alloc o).heap.size) :
    PS w (W3.setCell ⟨p, 2, none⟩ vv') r p lf vk vv' vi K (V ++ [s]) C rest2 ∧ W3.heap[p]? = some (.cells #[.bool lf, vk, vv, vi] 139 (0, 0)) := by
  obtain ⟨hr1, hu⟩ := h1
  have hrp := h.rp
  have hsz := hu.size
  have hsa : (W1.alloc o).heap.size = W1.heap.size + 1 := by simp
  have keep : ∀ k, k < wr.heap.size → k ≠ r → vv.ownBlock ≠ some k → W3.heap[k]? = wr.heap[k]? := fun k hk hn hv =>
    (hg.block k (by omega) (fun e => hv e.symm)).trans ((heap_alloc_lt o (by omega)).trans (hu.block k hk hn))
  have hp := lt_of_heap h.blk
  have hvp : ∀ k, vv.ownBlock = some k → p + 1 ≤ k ∧ k < wr.heap.size := fun k e => h.vs.lt k e
  have b3 : W3.heap[p]? = some (.cells #[.bool lf, vk, vv, vi] 139 (0, 0)) := (keep p hp (by omega) (fun e => by have := (hvp p e).1; omega)).trans h.blk
  have hv' : ∀ k, vv'.ownBlock = some k → vv.ownBlock = some k ∨ wr.heap.size ≤ k := fun k e => by
    rcases ha with a | a
    · exact .inl (a ▸ e)
    · rw [a] at e; cases e; exact .inr (by omega)
  refine ⟨⟨(heap_set_lit b3 _).trans (by simp), ?_, ?_, ?_, ?_, ?_, ?_, ?_, h.low, h.rp, ?_⟩, b3⟩
  · refine ownsRow_of h.ks fun k e => ?_
    have hk := h.ks.lt k e
    exact (heap_set_ne _ (by omega)).trans (keep k hk.2 (by omega) (fun e2 => h.kv k e e2))
  · have := ownsRow_of (w' := W3.setCell ⟨p, 2, none⟩ vv') ho (fun k e => heap_set_ne _ (by have := (ho.lt k e).1; omega))
    simpa using this
  · refine ownsRow_of h.is fun k e => ?_
    have hk := h.is.lt k e
    exact (heap_set_ne _ (by omega)).trans (keep k hk.2 (by omega) (fun e2 => h.vi' k e2 e))
  · intro k e e2
    rcases hv' k e2 with a | a
    · exact h.kv k e a
    · have := (h.ks.lt k e).2; omega
  · exact h.ki
  · intro k e e2
    rcases hv' k e with a | a
    · exact h.vi' k a e2
    · have := (h.is.lt k e2).2; omega
  · refine (heap_set_ne _ (by omega)).trans ((hg.block r ?_ (fun e => ?_)).trans ((heap_alloc_lt o (lt_of_heap hr1)).trans hr1))
    · have := lt_of_heap hr1; omega
    · have := (hvp r e.symm).1; omega
  · have hlow := h.low
    refine ((Below.trans h.bel ((hu.below (B := w.heap.size) h.bel.size (fun k hk e => by omega)).alloc (Nat.le_trans h.bel.size hu.size) o)).grown hg (by have := h.bel.size; omega) (fun k e => ?_)).setCell (show w.heap.size ≤ p by omega) _
    have := (hvp k e).1; omega
theorem ps_kid {w wr W1 W3 : World} {r p : Nat} {lf : Bool} {vk vv vi vi' : Value} {K V : List ByteArray} {C : List Nat} {rest rest2 : List UInt8} {c : Nat} {o : Obj} (h : PS w wr r p lf vk vv vi K V C rest) (h1 : Rd W1 r rest2 ∧ Upd (fun k => k = r) wr W1)
    (ho : W3.ownsRow (p + 1) 3 1 vi' (C.length + 1) ((C.map fun c : Nat => Value.int .i64 (c : Int)) ++ [Value.int .i64 (c : Int)])) (hg : (W1.alloc o).grownBy W3 vi.ownBlock) (ha : vi'.ownBlock = vi.ownBlock ∨ vi'.ownBlock = some (W1.alloc o).heap.size) :
    PS w (W3.setCell ⟨p, 3, none⟩ vi') r p lf vk vv vi' K V (C ++ [c]) rest2 ∧ W3.heap[p]? = some (.cells #[.bool lf, vk, vv, vi] 139 (0, 0)) := by
  obtain ⟨hr1, hu⟩ := h1
  have hrp := h.rp
  have hsz := hu.size
  have hsa : (W1.alloc o).heap.size = W1.heap.size + 1 := by simp
  have keep : ∀ k, k < wr.heap.size → k ≠ r → vi.ownBlock ≠ some k → W3.heap[k]? = wr.heap[k]? := fun k hk hn hv =>
    (hg.block k (by omega) (fun e => hv e.symm)).trans ((heap_alloc_lt o (by omega)).trans (hu.block k hk hn))
  have hp := lt_of_heap h.blk
  have hvp : ∀ k, vi.ownBlock = some k → p + 1 ≤ k ∧ k < wr.heap.size := fun k e => h.is.lt k e
  have b3 : W3.heap[p]? = some (.cells #[.bool lf, vk, vv, vi] 139 (0, 0)) := (keep p hp (by omega) (fun e => by have := (hvp p e).1; omega)).trans h.blk
  have hv' : ∀ k, vi'.ownBlock = some k → vi.ownBlock = some k ∨ wr.heap.size ≤ k := fun k e => by
    rcases ha with a | a
    · exact .inl (a ▸ e)
    · rw [a] at e; cases e; exact .inr (by omega)
  refine ⟨⟨(heap_set_lit b3 _).trans (by simp), ?_, ?_, ?_, ?_, ?_, ?_, ?_, h.low, h.rp, ?_⟩, b3⟩
  · refine ownsRow_of h.ks fun k e => ?_
    have hk := h.ks.lt k e
    exact (heap_set_ne _ (by omega)).trans (keep k hk.2 (by omega) (fun e2 => h.ki k e e2))
  · refine ownsRow_of h.vs fun k e => ?_
    have hk := h.vs.lt k e
    exact (heap_set_ne _ (by omega)).trans (keep k hk.2 (by omega) (fun e2 => h.vi' k e e2))
  · have := ownsRow_of (w' := W3.setCell ⟨p, 3, none⟩ vi') ho (fun k e => heap_set_ne _ (by have := (ho.lt k e).1; omega))
    simpa using this
  · exact h.kv
  · intro k e e2
    rcases hv' k e2 with a | a
    · exact h.ki k e a
    · have := (h.ks.lt k e).2; omega
  · intro k e e2
    rcases hv' k e2 with a | a
    · exact h.vi' k e a
    · have := (h.vs.lt k e).2; omega
  · refine (heap_set_ne _ (by omega)).trans ((hg.block r ?_ (fun e => ?_)).trans ((heap_alloc_lt o (lt_of_heap hr1)).trans hr1))
    · have := lt_of_heap hr1; omega
    · have := (hvp r e.symm).1; omega
  · have hlow := h.low
    refine ((Below.trans h.bel ((hu.below (B := w.heap.size) h.bel.size (fun k hk e => by omega)).alloc (Nat.le_trans h.bel.size hu.size) o)).grown hg (by have := h.bel.size; omega) (fun k e => ?_)).setCell (show w.heap.size ≤ p by omega) _
    have := (hvp k e).1; omega
theorem drop_cons {α : Type} {l : List α} {i : Nat} (h : i < l.length) : l.drop i = l[i] :: l.drop (i + 1) := (List.getElem_cons_drop h).symm
theorem ps_start {w w1 : World} {rest : List UInt8} {o : Obj} {lf : Bool} (h : Rd w1 w.heap.size rest ∧ Upd (fun k => k = w.heap.size) (w.alloc o) w1) :
    PS w (w1.alloc (.cells #[.bool lf, .slice none 0 0, .slice none 0 0, .slice none 0 0] 139)) w.heap.size w1.heap.size lf (.slice none 0 0) (.slice none 0 0) (.slice none 0 0) [] [] [] rest := by
  have hs := h.2.size
  simp at hs
  exact ⟨heap_alloc_new _ _, World.ownsRow_nil _ _ _ _, World.ownsRow_nil _ _ _ _, World.ownsRow_nil _ _ _ _, fun k e => by simp [Value.ownBlock] at e, fun k e => by simp [Value.ownBlock] at e, fun k e => by simp [Value.ownBlock] at e, (heap_alloc_lt _ (lt_of_heap h.1)).trans h.1, Nat.le_refl _, by omega,
    ((((Below.refl w.heap.size w).alloc (Nat.le_refl _) o).trans (h.2.below (by simp) (fun k hk e => by omega)))).alloc (by omega) _⟩
theorem ps_rd {w wr W1 : World} {r p : Nat} {lf : Bool} {vk vv vi : Value} {K V : List ByteArray} {C : List Nat} {rest rest2 : List UInt8} (h : PS w wr r p lf vk vv vi K V C rest) (h1 : Rd W1 r rest2 ∧ Upd (fun k => k = r) wr W1) : PS w W1 r p lf vk vv vi K V C rest2 := by
  have hrp := h.rp
  have hlow := h.low
  have keep : ∀ k, k < wr.heap.size → k ≠ r → W1.heap[k]? = wr.heap[k]? := fun k hk hn => h1.2.block k hk hn
  refine ⟨(keep p (lt_of_heap h.blk) (by omega)).trans h.blk, ownsRow_of h.ks fun k e => ?_, ownsRow_of h.vs fun k e => ?_, ownsRow_of h.is fun k e => ?_, h.kv, h.ki, h.vi', h1.1, hlow, hrp, h.bel.trans (h1.2.below h.bel.size (fun k hk e => by omega))⟩
  · have := h.ks.lt k e; exact keep k this.2 (by omega)
  · have := h.vs.lt k e; exact keep k this.2 (by omega)
  · have := h.is.lt k e; exact keep k this.2 (by omega)
theorem len_row {n : Nat} (h : n < 65536) : n + 1 ≤ maxLen ∧ (n + 1) * 16 ≤ 140737488355328 ∧ (n + 1) * 8 ≤ 140737488355328 := by unfold maxLen; omega
theorem infoS : (Tryz.prog.info? 9).map (fun i => (i.zero, i.size, i.bytes)) = some (some (.string ⟨#[]⟩), 1, 16) := by kernel_rfl
theorem base_ge {w wr : World} {r p : Nat} {lf : Bool} {vk vv vi : Value} {K V : List ByteArray} {C : List Nat} {rest : List UInt8} (h : PS w wr r p lf vk vv vi K V C rest) (o : Obj) : p + 1 ≤ (wr.alloc o).heap.size := by
  have := lt_of_heap h.blk; simp; omega
theorem nd_drewN {w wr : World} {p : Nat} {d : Nd} (h : Hid (∃ F, IsNd wr F p d ∧ (∀ k, F k → w.heap.size ≤ k) ∧ Below w.heap.size w wr)) (q : Nat) : Hid (∃ F, IsNd (wr.drewN q) F p d ∧ (∀ k, F k → w.heap.size ≤ k) ∧ Below w.heap.size w (wr.drewN q)) := by
  obtain ⟨F, h1, h2, h3⟩ := h.out
  exact Lib.hid ⟨F, h1.of fun k _ => rfl, h2, ⟨h3.os, h3.tape, h3.output, h3.size, h3.block⟩⟩
def LRel (w : World) (r p : Nat) (l : List (ByteArray × ByteArray)) (pad : List UInt8) (g : Nat) (s18 : Value) (wr : World) : Prop :=
  ∃ i vk vv vi, g = l.length - i ∧ i ≤ l.length ∧ s18 = .int .i64 (i : Nat) ∧ Hid (PS w wr r p true vk vv vi ((l.take i).map Prod.fst) ((l.take i).map Prod.snd) [] ((l.drop i).flatMap entL ++ pad)) ∧ Hid (((l.drop i).flatMap entL ++ pad).length ≤ 1000000)
theorem parse_leaf (l : List (ByteArray × ByteArray)) (pad : List UInt8) (w : World) (hd : (Nd.leaf l).Ok) (hl : ((Nd.leaf l).bytes ++ pad).length ≤ 1000000) :
    Calls Tryz.prog 121 #[.string (ofL ((Nd.leaf l).bytes ++ pad))] w fun e w' => ∃ p, e = .returned (.tuple #[.pointer (some ⟨p, 0, none⟩), .bool true]) ∧ Hid (∃ F, IsNd w' F p (.leaf l) ∧ (∀ k, F k → w.heap.size ≤ k) ∧ Below w.heap.size w w') := by
  have hlen : (Nd.leaf l).len = l.length := by simp [Nd.len, Nd.keys]
  have hn0 := hd.pos
  have hn1 := hd.few
  rw [hlen] at hn0 hn1
  have he : (Nd.leaf l).bytes ++ pad = [76] ++ ([UInt8.ofNat (l.length / 256), UInt8.ofNat l.length] ++ (l.flatMap entL ++ pad)) := by simp [Nd.bytes, Nd.kind, Nd.body, hlen]
  have hK : Hid (∀ p ∈ l, p.1.size ≤ 96 ∧ p.2.size ≤ 56) := Lib.hid fun p hp => ⟨hd.key _ (by simp [Nd.keys]; exact ⟨_, hp⟩), hd.val _ (by simp [Nd.vals]; exact ⟨_, hp⟩)⟩
  rw [he] at hl ⊢
  obtain ⟨jS, hjS, hS0, hS1, hS2⟩ := info_parts infoS
  have TK := Lib.hid (take_c w.heap.size [76] _ (w.alloc (.cells #[.string (ofL ([76] ++ ([UInt8.ofNat (l.length / 256), UInt8.ofNat l.length] ++ (l.flatMap entL ++ pad)))), .bool false] 218)) (heap_alloc_new _ _) hl)
  rw [List.length_singleton, show ((1 : Nat) : Int) = 1 from rfl, show ofL [76] = ⟨#[76]⟩ from rfl] at TK
  have HL1 : Hid (([UInt8.ofNat (l.length / 256), UInt8.ofNat l.length] ++ (l.flatMap entL ++ pad)).length ≤ 1000000) := Lib.hid (by rw [List.length_append] at hl; omega)
  have HL2 : Hid ((l.flatMap entL ++ pad).length ≤ 1000000) := Lib.hid (by have := HL1.out; rw [List.length_append] at this; omega)
  have HB2 : Hid (beL [UInt8.ofNat (l.length / 256), UInt8.ofNat l.length] = l.length) := Lib.hid (beL_two _ hn1)
  clear hl he hlen hd
  generalize ofL ([76] ++ ([UInt8.ofNat (l.length / 256), UInt8.ofNat l.length] ++ (l.flatMap entL ++ pad))) = s0 at *
  go_enter Tryz.func121, Tryz.ntmps121
  go_wp2_with fail
  refine (TK.out).mono ?_
  rintro e w1 ⟨rfl, H1⟩
  have P1 := Lib.hid (ps_start (lf := true) H1.out)
  have NM := Lib.hid (num_c w.heap.size [UInt8.ofNat (l.length / 256), UInt8.ofNat l.length] (l.flatMap entL ++ pad) _ P1.out.rd HL1.out (by simp))
  rw [HB2.out, show ([UInt8.ofNat (l.length / 256), UInt8.ofNat l.length].length : Nat) = 2 from rfl, show ((2 : Nat) : Int) = 2 from rfl] at NM
  clear TK H1 HL1 HB2
  go_wp2_with fail
  refine (NM.out).mono ?_
  rintro e w2 ⟨rfl, H2⟩
  have P2 := Lib.hid (ps_rd P1.out H2.out)
  clear NM H2 P1
  generalize w1.heap.size = p at *
  generalize w.heap.size = r at *
  go_wp2_with fail
  go_loopg [18] l.length (fun g s18 wr => LRel w r p l pad g s18 wr)
  case atStart => exact ⟨0, _, _, _, rfl, Nat.zero_le _, rfl, by simpa using P2, by simpa using HL2⟩
  case round =>
    obtain ⟨i, vk, vv, vi, rfl, hi, rfl, HP, HLN⟩ := hrel
    clear P2 HL2
    by_cases hlt : i < l.length
    · obtain ⟨kk, vv0, hx⟩ : ∃ a b, l[i] = (a, b) := ⟨_, _, rfl⟩
      have hsz := hK.out _ (List.getElem_mem hlt)
      rw [hx] at hsz; dsimp only at hsz
      have hrest : (l.drop i).flatMap entL ++ pad = [UInt8.ofNat kk.size] ++ (kk.data.toList ++ ([UInt8.ofNat vv0.size] ++ (vv0.data.toList ++ ((l.drop (i + 1)).flatMap entL ++ pad)))) := by rw [drop_cons hlt, hx]; simp [entL]
      rw [hrest] at HP HLN
      have hk1 : ((l.take i).map Prod.fst).length < 65536 := by simp; omega
      have hk2 : ((l.take i).map Prod.snd).length < 65536 := by simp; omega
      have HN1 : Hid ((l.take (i + 1)).map Prod.fst = (l.take i).map Prod.fst ++ [kk] ∧ (l.take (i + 1)).map Prod.snd = (l.take i).map Prod.snd ++ [vv0]) := Lib.hid (by rw [List.take_succ_eq_append_getElem hlt, hx]; simp)
      have TX1 := Lib.hid (text_c r _ _ _ wr.drew HP.out.rd HLN.out (by rw [UInt8.toNat_ofNat', ← Lib.size_eq]; omega))
      rw [show ofL kk.data.toList = kk from rfl] at TX1
      have HLN2 : Hid (([UInt8.ofNat vv0.size] ++ (vv0.data.toList ++ ((l.drop (i + 1)).flatMap entL ++ pad))).length ≤ 1000000) := Lib.hid (by have := HLN.out; simp only [List.length_append] at this ⊢; omega)
      have HLN3 : Hid (((l.drop (i + 1)).flatMap entL ++ pad).length ≤ 1000000) := Lib.hid (by have := HLN.out; simp only [List.length_append] at this ⊢; omega)
      have HA2 : Hid (vv0.data.toList.length = (UInt8.ofNat vv0.size).toNat) := Lib.hid (by rw [UInt8.toNat_ofNat', ← Lib.size_eq]; omega)
      have HLN_key := Lib.hid (And.intro (len_row hk1).1 (len_row hk1).2.1)
      have HLN_val := Lib.hid (And.intro (len_row hk2).1 (len_row hk2).2.1)
      clear hrest hsz hk1 hk2 HLN hx hK
      generalize (l.take i).map Prod.fst = K at *
      generalize (l.take i).map Prod.snd = V at *
      have r1 : wr.cell? ⟨r, 1, none⟩ = some (.bool false) := cell_lit HP.out.rd rfl
      obtain ⟨a_, m_, c_, ev⟩ := slice_form HP.out.ks
      subst ev
      have d1 : wr.cell? ⟨p, 1, none⟩ = some (.slice a_ m_ c_) := cell_lit HP.out.blk rfl
      have lp := lt_of_heap HP.out.blk
      go_wp2_with fail
      go_region_law ((first
        | (refine step_append_y (by rfl) _ _ _ (by rfl) (p + 1) 9 jS _ 1 16 Tryz.underlying64 hjS hS0 hS1 hS2 rfl (by decide) _ _ _ (by rfl) (PA.out.ks.alloc _) _ 1 _ (by rfl) (yields_boxL _ #[.string kk] _ 1 1) rfl (one1 _ rfl) HLN_key.out.1 HLN_key.out.2 (base_ge PA.out _) ?_
           intro px W5 ho5 hg5 ha5
           obtain ⟨xa, xm, xc, rfl⟩ := slice_form ho5
           have PK := Lib.hid (ps_key HP.out HU.out ho5 hg5 ha5)
           have g1 : W5.cell? ⟨p, 1, none⟩ = some (.slice a_ m_ c_) := cell_lit PK.out.2 rfl
           have g2 := frozen_lit PK.out.2 1
           clear ho5 hg5 ha5)
        | (go_simp; go_at_call 158; refine Calls.at_args TX1.out (by with_reducible rfl) ?_; rintro e W3 ⟨rfl, H3⟩
           have HU := Lib.hid (And.intro H3.out.1 H3.out.2.drew_left)
           have PA := Lib.hid (ps_rd HP.out HU.out)
           have e3 : W3.cell? ⟨p, 1, none⟩ = some (.slice a_ m_ c_) := cell_lit PA.out.blk rfl
           have l3 := lt_of_heap PA.out.blk
           clear H3)))
      all_goals (
        have P3 := Lib.hid PK.out.1
        clear PK PA HU HP d1 lp TX1
        generalize W5.setCell ⟨p, 1, none⟩ (.slice xa xm xc) = W6 at *
        have d0 : W6.cell? ⟨p, 0, none⟩ = some (.bool true) := cell_lit P3.out.blk rfl
        have TX2 := Lib.hid (text_c r _ _ _ W6.drew P3.out.rd HLN2.out HA2.out)
        rw [show ofL vv0.data.toList = vv0 from rfl] at TX2
        clear r1 g1 g2
        obtain ⟨a_, m_, c_, ev⟩ := slice_form P3.out.vs
        subst ev
        have d1 : W6.cell? ⟨p, 2, none⟩ = some (.slice a_ m_ c_) := cell_lit P3.out.blk rfl
        have lp := lt_of_heap P3.out.blk
        go_wp2_with fail
        go_region_law ((first
          | (refine step_append_y (by rfl) _ _ _ (by rfl) (p + 1) 9 jS _ 1 16 Tryz.underlying64 hjS hS0 hS1 hS2 rfl (by decide) _ _ _ (by rfl) (PA.out.vs.alloc _) _ 1 _ (by rfl) (yields_boxL _ #[.string vv0] _ 1 1) rfl (one1 _ rfl) HLN_val.out.1 HLN_val.out.2 (base_ge PA.out _) ?_
             intro px W5 ho5 hg5 ha5
             obtain ⟨xa, xm, xc, rfl⟩ := slice_form ho5
             have PK := Lib.hid (ps_val P3.out HU.out ho5 hg5 ha5)
             have g1 : W5.cell? ⟨p, 2, none⟩ = some (.slice a_ m_ c_) := cell_lit PK.out.2 rfl
             have g2 := frozen_lit PK.out.2 2
             clear ho5 hg5 ha5)
          | (go_simp; go_at_call 158; refine Calls.at_args TX2.out (by with_reducible rfl) ?_; rintro e W3 ⟨rfl, H3⟩
             have HU := Lib.hid (And.intro H3.out.1 H3.out.2.drew_left)
             have PA := Lib.hid (ps_rd P3.out HU.out)
             have e3 : W3.cell? ⟨p, 2, none⟩ = some (.slice a_ m_ c_) := cell_lit PA.out.blk rfl
             have l3 := lt_of_heap PA.out.blk
             clear H3))))
      all_goals (
        have P4 := Lib.hid PK.out.1
        clear PK PA HU P3 d1 lp TX2
        go_wp2_with fail
        go_roundg (l.length - (i + 1)))
      all_goals (first | omega | exact ⟨i + 1, _, _, _, rfl, by omega, by simp, by rw [HN1.out.1, HN1.out.2]; exact P4, HLN3⟩)
    · obtain rfl : i = l.length := by omega
      have P5 : PS w wr r p (Nd.leaf l).isLeaf vk vv vi (Nd.leaf l).keys (Nd.leaf l).vals (Nd.leaf l).kids (([] : List (ByteArray × ByteArray)).flatMap entL ++ pad) := by
        have := HP.out
        rw [List.take_length, List.drop_length] at this
        exact this
      have HE := Lib.hid P5.nd
      obtain ⟨a_, c_, ev⟩ := (RRow.of_own P5.ks).form
      rw [List.length_map, show (Nd.leaf l).keys.length = l.length by simp [Nd.keys]] at ev
      subst ev
      have d0 : wr.cell? ⟨p, 0, none⟩ = some (.bool true) := cell_lit P5.blk rfl
      have d1 : wr.cell? ⟨p, 1, none⟩ = some (.slice a_ l.length c_) := cell_lit P5.blk rfl
      have r1 : wr.cell? ⟨r, 1, none⟩ = some (.bool false) := cell_lit P5.rd rfl
      have hn2 : (0 : Int) < (l.length : Int) := by omega
      have hn3 : decide ((l.length : Int) > 0) = true := by simpa using hn2
      have hn4 : decide ((0 : Int) < (l.length : Int)) = true := by simpa using hn2
      clear HP HLN hK P5
      go_wp2_with fail
      go_quiet (fail)
      go_wp2_with fail
      go_ret2
      exact ⟨p, rfl, nd_drewN HE _⟩
end Go.Proofs.YtaibjcjphmhgmaaGreatDoor
namespace Go.Proofs.YtaibjcjphmhgmaaGreatDoor
set_option linter.unusedVariables false
set_option maxRecDepth 100000
set_option maxHeartbeats 2000000
open Go.RowKit
def IRel (w : World) (r p : Nat) (l : List (ByteArray × Nat)) (pad : List UInt8) (g : Nat) (s18 : Value) (wr : World) : Prop :=
  ∃ i vk vv vi, g = l.length - i ∧ i ≤ l.length ∧ s18 = .int .i64 (i : Nat) ∧ Hid (PS w wr r p false vk vv vi ((l.take i).map Prod.fst) [] ((l.take i).map Prod.snd) ((l.drop i).flatMap entI ++ pad)) ∧ Hid (((l.drop i).flatMap entI ++ pad).length ≤ 1000000)
theorem parse_inner (l : List (ByteArray × Nat)) (pad : List UInt8) (w : World) (hd : (Nd.inner l).Ok) (hl : ((Nd.inner l).bytes ++ pad).length ≤ 1000000) :
    Calls Tryz.prog 121 #[.string (ofL ((Nd.inner l).bytes ++ pad))] w fun e w' => ∃ p, e = .returned (.tuple #[.pointer (some ⟨p, 0, none⟩), .bool true]) ∧ Hid (∃ F, IsNd w' F p (.inner l) ∧ (∀ k, F k → w.heap.size ≤ k) ∧ Below w.heap.size w w') := by
  have hlen : (Nd.inner l).len = l.length := by simp [Nd.len, Nd.keys]
  have hn0 := hd.pos
  have hn1 := hd.few
  rw [hlen] at hn0 hn1
  have he : (Nd.inner l).bytes ++ pad = [78] ++ ([UInt8.ofNat (l.length / 256), UInt8.ofNat l.length] ++ (l.flatMap entI ++ pad)) := by simp [Nd.bytes, Nd.kind, Nd.body, hlen]
  have hK : Hid (∀ p ∈ l, p.1.size ≤ 96 ∧ p.2 < 4294967296) := Lib.hid fun p hp => ⟨hd.key _ (by simp [Nd.keys]; exact ⟨_, hp⟩), hd.kid _ (by simp [Nd.kids]; exact ⟨_, hp⟩)⟩
  rw [he] at hl ⊢
  obtain ⟨jS, hjS, hS0, hS1, hS2⟩ := info_parts infoS
  obtain ⟨jN, hjN, hN0, hN1, hN2⟩ := info_parts infoI
  have TK := Lib.hid (take_c w.heap.size [78] _ (w.alloc (.cells #[.string (ofL ([78] ++ ([UInt8.ofNat (l.length / 256), UInt8.ofNat l.length] ++ (l.flatMap entI ++ pad)))), .bool false] 218)) (heap_alloc_new _ _) hl)
  rw [List.length_singleton, show ((1 : Nat) : Int) = 1 from rfl, show ofL [78] = ⟨#[78]⟩ from rfl] at TK
  have HL1 : Hid (([UInt8.ofNat (l.length / 256), UInt8.ofNat l.length] ++ (l.flatMap entI ++ pad)).length ≤ 1000000) := Lib.hid (by rw [List.length_append] at hl; omega)
  have HL2 : Hid ((l.flatMap entI ++ pad).length ≤ 1000000) := Lib.hid (by have := HL1.out; rw [List.length_append] at this; omega)
  have HB2 : Hid (beL [UInt8.ofNat (l.length / 256), UInt8.ofNat l.length] = l.length) := Lib.hid (beL_two _ hn1)
  clear hl he hlen hd
  generalize ofL ([78] ++ ([UInt8.ofNat (l.length / 256), UInt8.ofNat l.length] ++ (l.flatMap entI ++ pad))) = s0 at *
  go_enter Tryz.func121, Tryz.ntmps121
  go_wp2_with fail
  refine (TK.out).mono ?_
  rintro e w1 ⟨rfl, H1⟩
  have P1 := Lib.hid (ps_start (lf := false) H1.out)
  have NM := Lib.hid (num_c w.heap.size [UInt8.ofNat (l.length / 256), UInt8.ofNat l.length] (l.flatMap entI ++ pad) _ P1.out.rd HL1.out (by simp))
  rw [HB2.out, show ([UInt8.ofNat (l.length / 256), UInt8.ofNat l.length].length : Nat) = 2 from rfl, show ((2 : Nat) : Int) = 2 from rfl] at NM
  clear TK H1 HL1 HB2
  go_wp2_with fail
  refine (NM.out).mono ?_
  rintro e w2 ⟨rfl, H2⟩
  have P2 := Lib.hid (ps_rd P1.out H2.out)
  clear NM H2 P1
  generalize w1.heap.size = p at *
  generalize w.heap.size = r at *
  go_wp2_with fail
  go_loopg [18] l.length (fun g s18 wr => IRel w r p l pad g s18 wr)
  case atStart => exact ⟨0, _, _, _, rfl, Nat.zero_le _, rfl, by simpa using P2, by simpa using HL2⟩
  case round =>
    obtain ⟨i, vk, vv, vi, rfl, hi, rfl, HP, HLN⟩ := hrel
    clear P2 HL2
    by_cases hlt : i < l.length
    · obtain ⟨kk, cc, hx⟩ : ∃ a b, l[i] = (a, b) := ⟨_, _, rfl⟩
      have hsz := hK.out _ (List.getElem_mem hlt)
      rw [hx] at hsz; dsimp only at hsz
      have hrest : (l.drop i).flatMap entI ++ pad = [UInt8.ofNat kk.size] ++ (kk.data.toList ++ (be4 cc ++ ((l.drop (i + 1)).flatMap entI ++ pad))) := by rw [drop_cons hlt, hx]; simp [entI]
      rw [hrest] at HP HLN
      have hk1 : ((l.take i).map Prod.fst).length < 65536 := by simp; omega
      have hk2 : ((l.take i).map Prod.snd).length < 65536 := by simp; omega
      have HN1 : Hid ((l.take (i + 1)).map Prod.fst = (l.take i).map Prod.fst ++ [kk] ∧ (l.take (i + 1)).map Prod.snd = (l.take i).map Prod.snd ++ [cc]) := Lib.hid (by rw [List.take_succ_eq_append_getElem hlt, hx]; simp)
      have TX1 := Lib.hid (text_c r _ _ _ wr.drew HP.out.rd HLN.out (by rw [UInt8.toNat_ofNat', ← Lib.size_eq]; omega))
      rw [show ofL kk.data.toList = kk from rfl] at TX1
      have HLN2 : Hid ((be4 cc ++ ((l.drop (i + 1)).flatMap entI ++ pad)).length ≤ 1000000) := Lib.hid (by have := HLN.out; simp only [List.length_append] at this ⊢; omega)
      have HLN3 : Hid (((l.drop (i + 1)).flatMap entI ++ pad).length ≤ 1000000) := Lib.hid (by have := HLN.out; simp only [List.length_append] at this ⊢; omega)
      have HA2 : Hid (beL (be4 cc) = cc) := Lib.hid (beL_be4 cc hsz.2)
      have HLN_key := Lib.hid (And.intro (len_row hk1).1 (len_row hk1).2.1)
      have HLN_kid := Lib.hid (And.intro (len_row hk2).1 (len_row hk2).2.2)
      clear hrest hsz hk1 hk2 HLN hx hK
      generalize (l.take i).map Prod.fst = K at *
      generalize (l.take i).map Prod.snd = C at *
      have r1 : wr.cell? ⟨r, 1, none⟩ = some (.bool false) := cell_lit HP.out.rd rfl
      obtain ⟨a_, m_, c_, ev⟩ := slice_form HP.out.ks
      subst ev
      have d1 : wr.cell? ⟨p, 1, none⟩ = some (.slice a_ m_ c_) := cell_lit HP.out.blk rfl
      have lp := lt_of_heap HP.out.blk
      go_wp2_with fail
      go_region_law ((first
        | (refine step_append_y (by rfl) _ _ _ (by rfl) (p + 1) 9 jS _ 1 16 Tryz.underlying64 hjS hS0 hS1 hS2 rfl (by decide) _ _ _ (by rfl) (PA.out.ks.alloc _) _ 1 _ (by rfl) (yields_boxL _ #[.string kk] _ 1 1) rfl (one1 _ rfl) HLN_key.out.1 HLN_key.out.2 (base_ge PA.out _) ?_
           intro px W5 ho5 hg5 ha5
           obtain ⟨xa, xm, xc, rfl⟩ := slice_form ho5
           have PK := Lib.hid (ps_key HP.out HU.out ho5 hg5 ha5)
           have g1 : W5.cell? ⟨p, 1, none⟩ = some (.slice a_ m_ c_) := cell_lit PK.out.2 rfl
           have g2 := frozen_lit PK.out.2 1
           clear ho5 hg5 ha5)
        | (go_simp; go_at_call 158; refine Calls.at_args TX1.out (by with_reducible rfl) ?_; rintro e W3 ⟨rfl, H3⟩
           have HU := Lib.hid (And.intro H3.out.1 H3.out.2.drew_left)
           have PA := Lib.hid (ps_rd HP.out HU.out)
           have e3 : W3.cell? ⟨p, 1, none⟩ = some (.slice a_ m_ c_) := cell_lit PA.out.blk rfl
           have l3 := lt_of_heap PA.out.blk
           clear H3)))
      all_goals (
        have P3 := Lib.hid PK.out.1
        clear PK PA HU HP d1 lp TX1
        generalize W5.setCell ⟨p, 1, none⟩ (.slice xa xm xc) = W6 at *
        have d0 : W6.cell? ⟨p, 0, none⟩ = some (.bool false) := cell_lit P3.out.blk rfl
        have TX2 := Lib.hid (num_c r (be4 cc) _ W6.drew P3.out.rd HLN2.out (by simp [be4]))
        rw [HA2.out, show ((be4 cc).length : Nat) = 4 from rfl, show ((4 : Nat) : Int) = 4 from rfl] at TX2
        clear r1 g1 g2
        obtain ⟨a_, m_, c_, ev⟩ := slice_form P3.out.is
        subst ev
        have d1 : W6.cell? ⟨p, 3, none⟩ = some (.slice a_ m_ c_) := cell_lit P3.out.blk rfl
        have lp := lt_of_heap P3.out.blk
        go_wp2_with fail
        go_region_law ((first
          | (refine step_append_y (by rfl) _ _ _ (by rfl) (p + 1) 3 jN _ 1 8 Tryz.underlying100 hjN hN0 hN1 hN2 rfl (by decide) _ _ _ (by rfl) (PA.out.is.alloc _) _ 1 _ (by rfl) (yields_boxL _ #[.int .i64 (cc : Int)] _ 1 1) rfl (one1 _ rfl) HLN_kid.out.1 HLN_kid.out.2 (base_ge PA.out _) ?_
             intro px W5 ho5 hg5 ha5
             obtain ⟨xa, xm, xc, rfl⟩ := slice_form ho5
             have PK := Lib.hid (ps_kid P3.out HU.out ho5 hg5 ha5)
             have g1 : W5.cell? ⟨p, 3, none⟩ = some (.slice a_ m_ c_) := cell_lit PK.out.2 rfl
             have g2 := frozen_lit PK.out.2 3
             clear ho5 hg5 ha5)
          | (go_simp; go_at_call 157; refine Calls.at_args TX2.out (by with_reducible rfl) ?_; rintro e W3 ⟨rfl, H3⟩
             have HU := Lib.hid (And.intro H3.out.1 H3.out.2.drew_left)
             have PA := Lib.hid (ps_rd P3.out HU.out)
             have e3 : W3.cell? ⟨p, 3, none⟩ = some (.slice a_ m_ c_) := cell_lit PA.out.blk rfl
             have l3 := lt_of_heap PA.out.blk
             clear H3))))
      all_goals (
        have P4 := Lib.hid PK.out.1
        clear PK PA HU P3 d1 lp TX2
        go_wp2_with fail
        go_roundg (l.length - (i + 1)))
      all_goals (first | omega | exact ⟨i + 1, _, _, _, rfl, by omega, by simp, by rw [HN1.out.1, HN1.out.2]; exact P4, HLN3⟩)
    · obtain rfl : i = l.length := by omega
      have P5 : PS w wr r p (Nd.inner l).isLeaf vk vv vi (Nd.inner l).keys (Nd.inner l).vals (Nd.inner l).kids (([] : List (ByteArray × Nat)).flatMap entI ++ pad) := by
        have := HP.out
        rw [List.take_length, List.drop_length] at this
        exact this
      have HE := Lib.hid P5.nd
      obtain ⟨a_, c_, ev⟩ := (RRow.of_own P5.ks).form
      rw [List.length_map, show (Nd.inner l).keys.length = l.length by simp [Nd.keys]] at ev
      subst ev
      have d0 : wr.cell? ⟨p, 0, none⟩ = some (.bool false) := cell_lit P5.blk rfl
      have d1 : wr.cell? ⟨p, 1, none⟩ = some (.slice a_ l.length c_) := cell_lit P5.blk rfl
      have r1 : wr.cell? ⟨r, 1, none⟩ = some (.bool false) := cell_lit P5.rd rfl
      have hn2 : (0 : Int) < (l.length : Int) := by omega
      have hn3 : decide ((l.length : Int) > 0) = true := by simpa using hn2
      have hn4 : decide ((0 : Int) < (l.length : Int)) = true := by simpa using hn2
      clear HP HLN hK P5
      go_wp2_with fail
      go_quiet (fail)
      go_wp2_with fail
      go_ret2
      exact ⟨p, rfl, nd_drewN HE _⟩
end Go.Proofs.YtaibjcjphmhgmaaGreatDoor
namespace Go.Proofs.YtaibjcjphmhgmaaGreatDoor
set_option linter.unusedVariables false
set_option maxRecDepth 100000
set_option maxHeartbeats 2000000
open Go.RowKit
theorem parse_c (d : Nd) (pad : List UInt8) (w : World) (hd : d.Ok) (hl : (d.bytes ++ pad).length ≤ 1000000) :
    Calls Tryz.prog 121 #[.string (ofL (d.bytes ++ pad))] w fun e w' => ∃ p, e = .returned (.tuple #[.pointer (some ⟨p, 0, none⟩), .bool true]) ∧ Hid (∃ F, IsNd w' F p d ∧ (∀ k, F k → w.heap.size ≤ k) ∧ Below w.heap.size w w') := by
  cases d with
  | leaf l => exact parse_leaf l pad w hd hl
  | inner l => exact parse_inner l pad w hd hl
theorem RRow.below {w w' : World} {v : Value} {xs : List Value} (h : RRow w v xs) (hb : Below w.heap.size w w') : RRow w' v xs := by
  rcases h with h | ⟨g, off, cap, rfl, hn, hc⟩
  · exact .inl h
  · refine .inr ⟨g, off, cap, rfl, hn, fun i hi => ?_⟩
    have := hc i hi
    exact (World.cell?_of_block (hb.block _ (World.block_lt_of_cell? w _ this))).trans this
theorem NdV.below {w w' : World} {p : Nat} {d : Nd} {vk vv vi : Value} (h : NdV w p d vk vv vi) (hb : Below w.heap.size w w') : NdV w' p d vk vv vi :=
  ⟨(hb.block p (lt_of_heap h.blk)).trans h.blk, h.ks.below hb, h.vs.below hb, h.is.below hb⟩
def bytesC (l : List UInt8) : List Value := l.map fun c => Value.int .u8 (c.toNat : Int)
theorem bytesC_append (a b : List UInt8) : bytesC (a ++ b) = bytesC a ++ bytesC b := by simp [bytesC]
theorem strCells_bytes (s : ByteArray) : Lib.strCells s = bytesC s.data.toList := by rw [Lib.strCells_eq]; rfl
theorem u8_wrap_nat (n : Nat) : IntKind.u8.wrap (n : Int) = ((UInt8.ofNat n).toNat : Int) := by
  rw [UInt8.toNat_ofNat']
  simp [IntKind.wrap, IntKind.bits, IntKind.signed]
theorem conv_rowC {w : World} {base : Nat} {v : Value} {n : Nat} {l : List UInt8} (h : w.ownsRow base 5 1 v n (bytesC l)) :
    (convert 72 9 v).run Tryz.prog w = .ok (.string (ofL l)) w := by
  have hl : l.length = n := by have := h.1; simpa [bytesC] using this
  rcases h.2 with ⟨rfl, h0⟩ | ⟨g, cap, cur, rfl, -⟩
  · have : l = [] := List.eq_nil_of_length_eq_zero (by omega)
    subst this
    exact run_convert_bytes_nil w 72 5 Tryz.underlying72 Tryz.underlying5 0 0 9 Tryz.underlying9
  · have := run_convert_bytes_arg (P := Tryz.prog) w 72 5 Tryz.underlying72 Tryz.underlying5 g 0 n cap (l.map fun c => (c.toNat : Int)) (by simpa using hl) (fun i hi => by
      rw [Nat.zero_add, h.cellAt i (by omega)]
      simp [bytesC, hl, hi]) 9 Tryz.underlying9
    rw [this]
    congr 2
    apply ByteArray.ext
    simp only [strOfNums, List.map_map, ofL]
    rw [show ((fun n : Int => UInt8.ofNat n.toNat) ∘ fun c : UInt8 => (c.toNat : Int)) = id from funext fun c => by simp]
    simp
/-- The bytes so far. -/
structure TR (w wr : World) (v : Value) (l : List UInt8) : Prop where
  row : wr.ownsRow w.heap.size 5 1 v l.length (bytesC l)
  bel : Below w.heap.size w wr
theorem tr_next {w wr W W' : World} {v v' : Value} {l m : List UInt8} (h : TR w wr v l) (hw : Below wr.heap.size wr W) (ho : W'.ownsRow w.heap.size 5 1 v' (l.length + m.length) (bytesC l ++ bytesC m)) (hg : W.grownBy W' v.ownBlock) : TR w W' v' (l ++ m) := by
  refine ⟨by rw [List.length_append, bytesC_append]; exact ho, ?_⟩
  have h1 := h.bel.trans (hw.mono h.bel.size)
  exact h1.grown hg h1.size (fun k e => (h.row.lt k e).1)
theorem tr_row {w wr W : World} {v : Value} {l : List UInt8} (h : TR w wr v l) (hw : Below wr.heap.size wr W) : W.ownsRow w.heap.size 5 1 v l.length (bytesC l) := ownsRow_of h.row fun k e => hw.block k (h.row.lt k e).2
theorem len_b {n m : Nat} (h : n ≤ 19000000) (h2 : m ≤ 100) : n + m ≤ maxLen ∧ (n + m) * 1 ≤ 140737488355328 ∧ n + m ≤ 140737488355328 := by unfold maxLen; omega
theorem entL_len (l : List (ByteArray × ByteArray)) (h : ∀ p ∈ l, p.1.size ≤ 96 ∧ p.2.size ≤ 56) : (l.flatMap entL).length ≤ 154 * l.length := by
  induction l with
  | nil => simp
  | cons p t ih =>
    have h1 := h p (by simp)
    have h2 := ih fun q hq => h q (by simp [hq])
    rw [Lib.size_eq, Lib.size_eq] at h1
    simp only [List.flatMap_cons, List.length_append, List.length_cons, entL, List.length_nil]
    omega
theorem byte_small {n : Nat} (h : n ≤ 96) : ((UInt8.ofNat n).toNat : Int) = (n : Int) := by rw [UInt8.toNat_ofNat']; omega
theorem tr_start {w wr : World} {a b c : Nat} {x y z : Int} (hb : Below w.heap.size w wr) (hx : x = ((UInt8.ofNat a).toNat : Int)) (hy : y = ((UInt8.ofNat b).toNat : Int)) (hz : z = ((UInt8.ofNat c).toNat : Int)) :
    TR w (wr.alloc (.cells #[.int .u8 x, .int .u8 y, .int .u8 z] 5)) (.slice (some ⟨wr.heap.size, 0, none⟩) 3 3) [UInt8.ofNat a, UInt8.ofNat b, UInt8.ofNat c] := by
  subst hx hy hz
  refine ⟨?_, hb.alloc hb.size _⟩
  have := World.ownsRow_lit (base := w.heap.size) (e := 5) (size := 1) wr #[.int .u8 ((UInt8.ofNat a).toNat : Int), .int .u8 ((UInt8.ofNat b).toNat : Int), .int .u8 ((UInt8.ofNat c).toNat : Int)] 3 hb.size (by unfold maxLen; omega) rfl
  exact this
theorem tr_drew {w wr : World} {v : Value} {l : List UInt8} (h : TR w wr v l) : TR w wr.drew v l := ⟨h.row, h.bel.drew⟩
theorem chkA (t u : TypeId) {P : Program} {w : World} {ops : Array Oper} {rest : List Oper} {o : Oper} {a : Act} {Q : Exit → Act → World → Prop}
    (ho : ∃ s x, o.op = .call { callee := .builtin .append, args := #[s, x], argTypes := #[t, u] }) (h : wpList P ops Q (o :: rest) a w) : wpList P ops Q (o :: rest) a w := h
theorem text_leaf (l : List (ByteArray × ByteArray)) (p : Nat) (vk vv vi : Value) (w : World) (hd : (Nd.leaf l).Ok) (h : NdV w p (.leaf l) vk vv vi) :
    Calls Tryz.prog 148 #[.pointer (some ⟨p, 0, none⟩)] w fun e w' => e = .returned (.string (ofL (Nd.leaf l).bytes)) ∧ Below w.heap.size w w' := by
  have hlen : (Nd.leaf l).len = l.length := by simp [Nd.len, Nd.keys]
  have hn0 := hd.pos
  have hn1 := hd.few
  rw [hlen] at hn0 hn1
  have hK : Hid (∀ p ∈ l, p.1.size ≤ 96 ∧ p.2.size ≤ 56) := Lib.hid fun p hp => ⟨hd.key _ (by simp [Nd.keys]; exact ⟨_, hp⟩), hd.val _ (by simp [Nd.vals]; exact ⟨_, hp⟩)⟩
  obtain ⟨g1, o1, cap1, ev1, hc1, hk1⟩ := h.ks.lit (by simp [Nd.keys]; omega)
  obtain ⟨g2, o2, cap2, ev2, hc2, hv1⟩ := h.vs.lit (by simp [Nd.vals]; omega)
  rw [List.length_map, show (Nd.leaf l).keys.length = l.length by simp [Nd.keys]] at ev1
  rw [List.length_map, show (Nd.leaf l).vals.length = l.length by simp [Nd.vals]] at ev2
  subst ev1 ev2
  have HB : Hid ((Nd.leaf l).bytes = [UInt8.ofNat 76, UInt8.ofNat (l.length / 256), UInt8.ofNat l.length] ++ l.flatMap entL) := Lib.hid (by simp [Nd.bytes, Nd.kind, Nd.body, hlen])
  have HC : Hid (∀ W, Below w.heap.size w W → W.cell? ⟨p, 0, none⟩ = some (.bool true) ∧ W.cell? ⟨p, 1, none⟩ = some (.slice (some ⟨g1, o1, none⟩) l.length cap1) ∧ W.cell? ⟨p, 2, none⟩ = some (.slice (some ⟨g2, o2, none⟩) l.length cap2)) :=
    Lib.hid fun W hW => ⟨cell_lit (h.below hW).blk rfl, cell_lit (h.below hW).blk rfl, cell_lit (h.below hW).blk rfl⟩
  have HKC : Hid (∀ W i (hi : i < l.length), Below w.heap.size w W → W.cell? ⟨g1, o1 + i, none⟩ = some (.string l[i].1) ∧ W.cell? ⟨g2, o2 + i, none⟩ = some (.string l[i].2)) :=
    Lib.hid fun W i hi hW => by
      have a := hk1 i (by simpa [Nd.keys] using hi)
      have b := hv1 i (by simpa [Nd.vals] using hi)
      refine ⟨((World.cell?_of_block (hW.block _ (World.block_lt_of_cell? w _ a))).trans a).trans ?_, ((World.cell?_of_block (hW.block _ (World.block_lt_of_cell? w _ b))).trans b).trans ?_⟩
      · simp [Nd.keys]
      · simp [Nd.vals]
  obtain ⟨jB, hjB, hB0, hB1, hB2⟩ := info_parts infoB
  obtain ⟨c0, c1, c2⟩ := HC.out w (Below.refl _ _)
  have W1 := Lib.hid (u8_wrap_nat (l.length / 256))
  have W2 := Lib.hid (u8_wrap_nat l.length)
  rw [HB.out]
  clear h hk1 hv1 hc1 hc2 hd hlen
  go_enter Tryz.func148, Tryz.ntmps148
  go_wp2_with fail
  go_region_held3 (fun w' => w'.cell? ⟨p, 1, none⟩ = some (.slice (some ⟨g1, o1, none⟩) l.length cap1)) (go_keep) (fail)
  have T0 := Lib.hid (tr_drew (tr_start (w := w) (wr := w) (a := 76) (b := l.length / 256) (c := l.length) (x := 76) (y := IntKind.u8.wrap ((l.length : Int) / 256)) (z := IntKind.u8.wrap (l.length : Int)) (Below.refl _ _) rfl (by rw [← W1.out]; rfl) W2.out))
  generalize (w.alloc (.cells #[.int .u8 76, .int .u8 (IntKind.u8.wrap ((l.length : Int) / 256)), .int .u8 (IntKind.u8.wrap (l.length : Int))] 5)).drew = W0 at *
  obtain ⟨c0', c1', c2'⟩ := HC.out W0 T0.out.bel
  clear W1 W2
  generalize IntKind.u8.wrap ((l.length : Int) / 256) = z1 at *
  generalize IntKind.u8.wrap (l.length : Int) = z2 at *
  go_wp2_with fail
  go_loopg [4, 32] l.length (fun g s4 s32 wr => ∃ i, g = l.length - i ∧ i ≤ l.length ∧ s32 = .int .i64 (i : Nat) ∧ Hid (TR w wr s4 ([UInt8.ofNat 76, UInt8.ofNat (l.length / 256), UInt8.ofNat l.length] ++ (l.take i).flatMap entL)))
  case atStart => exact ⟨0, rfl, Nat.zero_le _, rfl, by simpa using T0⟩
  case round =>
    obtain ⟨i, rfl, hi, rfl, HT⟩ := hrel
    clear T0 c0 c1 c2 c0' c1' c2'
    by_cases hlt : i < l.length
    · have hsz := hK.out _ (List.getElem_mem hlt)
      obtain ⟨d0, d1, d2⟩ := HC.out wr HT.out.bel
      obtain ⟨d3, d4⟩ := HKC.out wr i hlt HT.out.bel
      obtain ⟨x1, hx1⟩ : ∃ x1, l[i].1 = x1 := ⟨_, rfl⟩
      obtain ⟨x2, hx2⟩ : ∃ x2, l[i].2 = x2 := ⟨_, rfl⟩
      have HX2 := Lib.hid hx2
      rw [hx1] at d3 hsz
      rw [hx2] at d4 hsz
      have HQ : Hid (([UInt8.ofNat 76, UInt8.ofNat (l.length / 256), UInt8.ofNat l.length] ++ (l.take i).flatMap entL).length ≤ 18000000) := Lib.hid (by
        have := entL_len (l.take i) fun q hq => hK.out q (List.mem_of_mem_take hq)
        simp at this ⊢; omega)
      have HN : Hid ([UInt8.ofNat 76, UInt8.ofNat (l.length / 256), UInt8.ofNat l.length] ++ (l.take (i + 1)).flatMap entL = ([UInt8.ofNat 76, UInt8.ofNat (l.length / 256), UInt8.ofNat l.length] ++ (l.take i).flatMap entL) ++ [UInt8.ofNat x1.size] ++ x1.data.toList ++ [UInt8.ofNat x2.size] ++ x2.data.toList) := Lib.hid (by
        rw [List.take_succ_eq_append_getElem hlt, List.flatMap_append, ← hx1, ← hx2]; simp [entL])
      have E1 := Lib.hid (byte_small hsz.1)
      have E2 := Lib.hid (byte_small (show x2.size ≤ 96 by omega))
      have s1 := hsz.1
      have s2 := hsz.2
      generalize [UInt8.ofNat 76, UInt8.ofNat (l.length / 256), UInt8.ofNat l.length] ++ (l.take i).flatMap entL = q at *
      have L1 := Lib.hid (len_b (n := q.length) (m := 1) (by have := HQ.out; omega) (by omega))
      clear hK hx1 hx2 hsz
      go_wp2_with (first
        | (refine chkA 72 9 ⟨_, _, by with_reducible rfl⟩ ?_
           refine Lib.wpList_append_own_string _ (by rfl) _ _ _ _ rfl w.heap.size 5 jB Tryz.underlying72 Tryz.underlying9 hjB hB0 hB1 hB2 _ _ _ (by rfl) T3.out.row x2 (by rfl) L4.out.1 L4.out.2.2 T3.out.bel.size ?_
           intro v4 Y4 ho4 hg4 ha4
           have T4 : Hid (TR w Y4 v4 (q ++ [UInt8.ofNat x1.size] ++ x1.data.toList ++ [UInt8.ofNat x2.size] ++ x2.data.toList)) := Lib.hid (tr_next T3.out (Below.refl _ _) (by rw [← strCells_bytes, ← Lib.size_eq]; exact ho4) hg4)
           clear ho4 hg4 ha4)
        | (refine chkA 72 72 ⟨_, _, by with_reducible rfl⟩ ?_
           refine wpList_append_y (by rfl) _ _ _ rfl w.heap.size 5 jB _ 1 1 Tryz.underlying72 hjB hB0 hB1 hB2 rfl (by decide) _ _ _ (by rfl) (tr_row T2.out ((Below.refl _ _).alloc (Nat.le_refl _) _)) _ 1 _ (by rfl) (yields_boxL _ #[.int .u8 (x2.size : Int)] _ 1 1) rfl (one1 _ rfl) L3.out.1 L3.out.2.1 (T2.out.bel.alloc T2.out.bel.size _).size ?_
           intro v3 Y3 ho3 hg3 ha3
           have T3 : Hid (TR w Y3 v3 (q ++ [UInt8.ofNat x1.size] ++ x1.data.toList ++ [UInt8.ofNat x2.size])) := Lib.hid (tr_next T2.out ((Below.refl _ _).alloc (Nat.le_refl _) _) (by simp only [bytesC, List.map_cons, List.map_nil, E2.out]; exact ho3) hg3)
           have L4 := Lib.hid (len_b (n := (q ++ [UInt8.ofNat x1.size] ++ x1.data.toList ++ [UInt8.ofNat x2.size]).length) (m := x2.size) (by have := HQ.out; simp only [List.length_append, List.length_cons, List.length_nil, ← Lib.size_eq]; omega) (by omega))
           have f5 := (HC.out Y3 T3.out.bel).2.2
           have f6 : Y3.cell? ⟨g2, o2 + i, none⟩ = some (.string x2) := by have := (HKC.out Y3 i hlt T3.out.bel).2; rwa [HX2.out] at this
           clear ho3 hg3 ha3)
        | (refine chkA 72 9 ⟨_, _, by with_reducible rfl⟩ ?_
           refine Lib.wpList_append_own_string _ (by rfl) _ _ _ _ rfl w.heap.size 5 jB Tryz.underlying72 Tryz.underlying9 hjB hB0 hB1 hB2 _ _ _ (by rfl) T1.out.row x1 (by rfl) L2.out.1 L2.out.2.2 T1.out.bel.size ?_
           intro v2 Y2 ho2 hg2 ha2
           have T2 : Hid (TR w Y2 v2 (q ++ [UInt8.ofNat x1.size] ++ x1.data.toList)) := Lib.hid (tr_next T1.out (Below.refl _ _) (by rw [← strCells_bytes, ← Lib.size_eq]; exact ho2) hg2)
           have L3 := Lib.hid (len_b (n := (q ++ [UInt8.ofNat x1.size] ++ x1.data.toList).length) (m := 1) (by have := HQ.out; simp only [List.length_append, List.length_cons, List.length_nil, ← Lib.size_eq]; omega) (by omega))
           have f0 := (HC.out Y2 T2.out.bel).1
           have f2 := (HC.out Y2 T2.out.bel).2.2
           have f4 : Y2.cell? ⟨g2, o2 + i, none⟩ = some (.string x2) := by have := (HKC.out Y2 i hlt T2.out.bel).2; rwa [HX2.out] at this
           clear ho2 hg2 ha2)
        | (refine chkA 72 72 ⟨_, _, by with_reducible rfl⟩ ?_
           refine wpList_append_y (by rfl) _ _ _ rfl w.heap.size 5 jB _ 1 1 Tryz.underlying72 hjB hB0 hB1 hB2 rfl (by decide) _ _ _ (by rfl) (tr_row HT.out ((Below.refl _ _).alloc (Nat.le_refl _) _)) _ 1 _ (by rfl) (yields_boxL _ #[.int .u8 (x1.size : Int)] _ 1 1) rfl (one1 _ rfl) L1.out.1 L1.out.2.1 (HT.out.bel.alloc HT.out.bel.size _).size ?_
           intro v1 Y1 ho1 hg1 ha1
           have T1 : Hid (TR w Y1 v1 (q ++ [UInt8.ofNat x1.size])) := Lib.hid (tr_next HT.out ((Below.refl _ _).alloc (Nat.le_refl _) _) (by simp only [bytesC, List.map_cons, List.map_nil, E1.out]; exact ho1) hg1)
           have L2 := Lib.hid (len_b (n := (q ++ [UInt8.ofNat x1.size]).length) (m := x1.size) (by have := HQ.out; simp; omega) (by omega))
           clear ho1 hg1 ha1))
      go_roundg (l.length - (i + 1))
      case measure => omega
      case rel => exact ⟨i + 1, rfl, by omega, by simp, by rw [HN.out]; exact T4⟩
    · obtain rfl : i = l.length := by omega
      have hcv := conv_rowC HT.out.row
      have HB3 := Lib.hid HT.out.bel
      rw [List.take_length] at hcv
      clear HT hK HKC
      go_wp2_with fail
      go_ret
      exact ⟨rfl, HB3.out⟩
end Go.Proofs.YtaibjcjphmhgmaaGreatDoor
namespace Go.Proofs.YtaibjcjphmhgmaaGreatDoor
set_option linter.unusedVariables false
set_option maxRecDepth 100000
set_option maxHeartbeats 2000000
open Go.RowKit
theorem entI_len (l : List (ByteArray × Nat)) (h : ∀ p ∈ l, p.1.size ≤ 96 ∧ p.2 < 4294967296) : (l.flatMap entI).length ≤ 154 * l.length := by
  induction l with
  | nil => simp
  | cons p t ih =>
    have h1 := h p (by simp)
    have h2 := ih fun q hq => h q (by simp [hq])
    rw [Lib.size_eq] at h1
    simp only [List.flatMap_cons, List.length_append, List.length_cons, entI, be4, List.length_nil]
    omega
theorem one4 (a b c d : Value) (ha : a.oneCell' = true) (hb : b.oneCell' = true) (hc : c.oneCell' = true) (hd : d.oneCell' = true) : ∀ u ∈ [a, b, c, d], u.oneCell' = true := by
  intro u hu; simp at hu; rcases hu with rfl | rfl | rfl | rfl <;> assumption
theorem be4_cells (c : Nat) (h : c < 4294967296) : bytesC (be4 c) = [.int .u8 ((c : Int) / 16777216), .int .u8 ((c : Int) / 65536 % 256), .int .u8 ((c : Int) / 256 % 256), .int .u8 ((c : Int) % 256)] := by
  have e : ∀ n : Nat, ((UInt8.ofNat n).toNat : Int) = ((n % 256 : Nat) : Int) := fun n => by rw [UInt8.toNat_ofNat']
  have e1 : ((c / 16777216 % 256 : Nat) : Int) = (c : Int) / 16777216 := by omega
  have e2 : ((c / 65536 % 256 : Nat) : Int) = (c : Int) / 65536 % 256 := by omega
  have e3 : ((c / 256 % 256 : Nat) : Int) = (c : Int) / 256 % 256 := by omega
  have e4 : ((c % 256 : Nat) : Int) = (c : Int) % 256 := by omega
  simp only [bytesC, be4, List.map_cons, List.map_nil, e, e1, e2, e3, e4]
theorem text_inner (l : List (ByteArray × Nat)) (p : Nat) (vk vv vi : Value) (w : World) (hd : (Nd.inner l).Ok) (h : NdV w p (.inner l) vk vv vi) :
    Calls Tryz.prog 148 #[.pointer (some ⟨p, 0, none⟩)] w fun e w' => e = .returned (.string (ofL (Nd.inner l).bytes)) ∧ Below w.heap.size w w' := by
  have hlen : (Nd.inner l).len = l.length := by simp [Nd.len, Nd.keys]
  have hn0 := hd.pos
  have hn1 := hd.few
  rw [hlen] at hn0 hn1
  have hK : Hid (∀ p ∈ l, p.1.size ≤ 96 ∧ p.2 < 4294967296) := Lib.hid fun p hp => ⟨hd.key _ (by simp [Nd.keys]; exact ⟨_, hp⟩), hd.kid _ (by simp [Nd.kids]; exact ⟨_, hp⟩)⟩
  obtain ⟨g1, o1, cap1, ev1, hc1, hk1⟩ := h.ks.lit (by simp [Nd.keys]; omega)
  obtain ⟨g2, o2, cap2, ev2, hc2, hv1⟩ := h.is.lit (by simp [Nd.kids]; omega)
  rw [List.length_map, show (Nd.inner l).keys.length = l.length by simp [Nd.keys]] at ev1
  rw [List.length_map, show (Nd.inner l).kids.length = l.length by simp [Nd.kids]] at ev2
  subst ev1 ev2
  have HB : Hid ((Nd.inner l).bytes = [UInt8.ofNat 78, UInt8.ofNat (l.length / 256), UInt8.ofNat l.length] ++ l.flatMap entI) := Lib.hid (by simp [Nd.bytes, Nd.kind, Nd.body, hlen])
  have HC : Hid (∀ W, Below w.heap.size w W → W.cell? ⟨p, 0, none⟩ = some (.bool false) ∧ W.cell? ⟨p, 1, none⟩ = some (.slice (some ⟨g1, o1, none⟩) l.length cap1) ∧ W.cell? ⟨p, 3, none⟩ = some (.slice (some ⟨g2, o2, none⟩) l.length cap2)) :=
    Lib.hid fun W hW => ⟨cell_lit (h.below hW).blk rfl, cell_lit (h.below hW).blk rfl, cell_lit (h.below hW).blk rfl⟩
  have HKC : Hid (∀ W i (hi : i < l.length), Below w.heap.size w W → W.cell? ⟨g1, o1 + i, none⟩ = some (.string l[i].1) ∧ W.cell? ⟨g2, o2 + i, none⟩ = some (.int .i64 (l[i].2 : Int))) :=
    Lib.hid fun W i hi hW => by
      have a := hk1 i (by simpa [Nd.keys] using hi)
      have b := hv1 i (by simpa [Nd.kids] using hi)
      refine ⟨((World.cell?_of_block (hW.block _ (World.block_lt_of_cell? w _ a))).trans a).trans ?_, ((World.cell?_of_block (hW.block _ (World.block_lt_of_cell? w _ b))).trans b).trans ?_⟩
      · simp [Nd.keys]
      · simp [Nd.kids]
  obtain ⟨jB, hjB, hB0, hB1, hB2⟩ := info_parts infoB
  obtain ⟨c0, c1, c2⟩ := HC.out w (Below.refl _ _)
  have W1 := Lib.hid (u8_wrap_nat (l.length / 256))
  have W2 := Lib.hid (u8_wrap_nat l.length)
  rw [HB.out]
  clear h hk1 hv1 hc1 hc2 hd hlen
  go_enter Tryz.func148, Tryz.ntmps148
  go_wp2_with fail
  go_region_held3 (fun w' => w'.cell? ⟨p, 1, none⟩ = some (.slice (some ⟨g1, o1, none⟩) l.length cap1)) (go_keep) (fail)
  have T0 := Lib.hid (tr_drew (tr_start (w := w) (wr := w) (a := 78) (b := l.length / 256) (c := l.length) (x := 78) (y := IntKind.u8.wrap ((l.length : Int) / 256)) (z := IntKind.u8.wrap (l.length : Int)) (Below.refl _ _) rfl (by rw [← W1.out]; rfl) W2.out))
  generalize (w.alloc (.cells #[.int .u8 78, .int .u8 (IntKind.u8.wrap ((l.length : Int) / 256)), .int .u8 (IntKind.u8.wrap (l.length : Int))] 5)).drew = W0 at *
  obtain ⟨c0', c1', c2'⟩ := HC.out W0 T0.out.bel
  clear W1 W2
  generalize IntKind.u8.wrap ((l.length : Int) / 256) = z1 at *
  generalize IntKind.u8.wrap (l.length : Int) = z2 at *
  go_wp2_with fail
  go_loopg [4, 32] l.length (fun g s4 s32 wr => ∃ i, g = l.length - i ∧ i ≤ l.length ∧ s32 = .int .i64 (i : Nat) ∧ Hid (TR w wr s4 ([UInt8.ofNat 78, UInt8.ofNat (l.length / 256), UInt8.ofNat l.length] ++ (l.take i).flatMap entI)))
  case atStart => exact ⟨0, rfl, Nat.zero_le _, rfl, by simpa using T0⟩
  case round =>
    obtain ⟨i, rfl, hi, rfl, HT⟩ := hrel
    clear T0 c0 c1 c2 c0' c1' c2'
    by_cases hlt : i < l.length
    · have hsz := hK.out _ (List.getElem_mem hlt)
      obtain ⟨d0, d1, d2⟩ := HC.out wr HT.out.bel
      obtain ⟨d3, d4⟩ := HKC.out wr i hlt HT.out.bel
      obtain ⟨x1, hx1⟩ : ∃ x1, l[i].1 = x1 := ⟨_, rfl⟩
      obtain ⟨x2, hx2⟩ : ∃ x2, l[i].2 = x2 := ⟨_, rfl⟩
      have HX2 := Lib.hid hx2
      rw [hx1] at d3 hsz
      rw [hx2] at d4 hsz
      have HQ : Hid (([UInt8.ofNat 78, UInt8.ofNat (l.length / 256), UInt8.ofNat l.length] ++ (l.take i).flatMap entI).length ≤ 18000000) := Lib.hid (by
        have := entI_len (l.take i) fun q hq => hK.out q (List.mem_of_mem_take hq)
        simp at this ⊢; omega)
      have HN : Hid ([UInt8.ofNat 78, UInt8.ofNat (l.length / 256), UInt8.ofNat l.length] ++ (l.take (i + 1)).flatMap entI = ([UInt8.ofNat 78, UInt8.ofNat (l.length / 256), UInt8.ofNat l.length] ++ (l.take i).flatMap entI) ++ [UInt8.ofNat x1.size] ++ x1.data.toList ++ be4 x2) := Lib.hid (by
        rw [List.take_succ_eq_append_getElem hlt, List.flatMap_append, ← hx1, ← hx2]; simp [entI])
      have E1 := Lib.hid (byte_small hsz.1)
      have E2 := Lib.hid (be4_cells x2 hsz.2)
      have s1 := hsz.1
      have s2 := hsz.2
      generalize [UInt8.ofNat 78, UInt8.ofNat (l.length / 256), UInt8.ofNat l.length] ++ (l.take i).flatMap entI = q at *
      have L1 := Lib.hid (len_b (n := q.length) (m := 1) (by have := HQ.out; omega) (by omega))
      clear hK hx1 hx2 hsz
      go_wp2_with (first
        | (refine chkA 72 72 ⟨_, _, by with_reducible rfl⟩ ?_
           refine wpList_append_y (by rfl) _ _ _ rfl w.heap.size 5 jB _ 1 1 Tryz.underlying72 hjB hB0 hB1 hB2 rfl (by decide) _ _ _ (by rfl) (tr_row T2.out ((Below.refl _ _).alloc (Nat.le_refl _) _)) _ 4 _ (by rfl) (yields_boxL _ #[.int .u8 ((x2 : Int) / 16777216), .int .u8 ((x2 : Int) / 65536 % 256), .int .u8 ((x2 : Int) / 256 % 256), .int .u8 ((x2 : Int) % 256)] _ 4 4) rfl (one4 _ _ _ _ rfl rfl rfl rfl) L3.out.1 L3.out.2.1 (T2.out.bel.alloc T2.out.bel.size _).size ?_
           intro v3 Y3 ho3 hg3 ha3
           have T3 : Hid (TR w Y3 v3 (q ++ [UInt8.ofNat x1.size] ++ x1.data.toList ++ be4 x2)) := Lib.hid (tr_next T2.out ((Below.refl _ _).alloc (Nat.le_refl _) _) (by rw [E2.out]; exact ho3) hg3)
           clear ho3 hg3 ha3)
        | (refine chkA 72 9 ⟨_, _, by with_reducible rfl⟩ ?_
           refine Lib.wpList_append_own_string _ (by rfl) _ _ _ _ rfl w.heap.size 5 jB Tryz.underlying72 Tryz.underlying9 hjB hB0 hB1 hB2 _ _ _ (by rfl) T1.out.row x1 (by rfl) L2.out.1 L2.out.2.2 T1.out.bel.size ?_
           intro v2 Y2 ho2 hg2 ha2
           have T2 : Hid (TR w Y2 v2 (q ++ [UInt8.ofNat x1.size] ++ x1.data.toList)) := Lib.hid (tr_next T1.out (Below.refl _ _) (by rw [← strCells_bytes, ← Lib.size_eq]; exact ho2) hg2)
           have L3 := Lib.hid (len_b (n := (q ++ [UInt8.ofNat x1.size] ++ x1.data.toList).length) (m := 4) (by have := HQ.out; simp only [List.length_append, List.length_cons, List.length_nil, ← Lib.size_eq]; omega) (by omega))
           have f0 := (HC.out Y2 T2.out.bel).1
           have f2 := (HC.out Y2 T2.out.bel).2.2
           have f4 : Y2.cell? ⟨g2, o2 + i, none⟩ = some (.int .i64 (x2 : Int)) := by have := (HKC.out Y2 i hlt T2.out.bel).2; rwa [HX2.out] at this
           clear ho2 hg2 ha2)
        | (refine chkA 72 72 ⟨_, _, by with_reducible rfl⟩ ?_
           refine wpList_append_y (by rfl) _ _ _ rfl w.heap.size 5 jB _ 1 1 Tryz.underlying72 hjB hB0 hB1 hB2 rfl (by decide) _ _ _ (by rfl) (tr_row HT.out ((Below.refl _ _).alloc (Nat.le_refl _) _)) _ 1 _ (by rfl) (yields_boxL _ #[.int .u8 (x1.size : Int)] _ 1 1) rfl (one1 _ rfl) L1.out.1 L1.out.2.1 (HT.out.bel.alloc HT.out.bel.size _).size ?_
           intro v1 Y1 ho1 hg1 ha1
           have T1 : Hid (TR w Y1 v1 (q ++ [UInt8.ofNat x1.size])) := Lib.hid (tr_next HT.out ((Below.refl _ _).alloc (Nat.le_refl _) _) (by simp only [bytesC, List.map_cons, List.map_nil, E1.out]; exact ho1) hg1)
           have L2 := Lib.hid (len_b (n := (q ++ [UInt8.ofNat x1.size]).length) (m := x1.size) (by have := HQ.out; simp; omega) (by omega))
           clear ho1 hg1 ha1))
      go_roundg (l.length - (i + 1))
      case measure => omega
      case rel => exact ⟨i + 1, rfl, by omega, by simp, by rw [HN.out]; exact T3⟩
    · obtain rfl : i = l.length := by omega
      have hcv := conv_rowC HT.out.row
      have HB3 := Lib.hid HT.out.bel
      rw [List.take_length] at hcv
      clear HT hK HKC
      go_wp2_with fail
      go_ret
      exact ⟨rfl, HB3.out⟩
end Go.Proofs.YtaibjcjphmhgmaaGreatDoor
namespace Go.Proofs.YtaibjcjphmhgmaaGreatDoor
set_option linter.unusedVariables false
set_option maxRecDepth 100000
set_option maxHeartbeats 1000000
open Go.RowKit
def wrA (cur : Array Value) (o : Nat) : List Value → Array Value
  | [] => cur
  | v :: r => wrA (cur.setIfInBounds o v) (o + 1) r
theorem wrA_size : ∀ (vs : List Value) (o : Nat) (cur : Array Value), (wrA cur o vs).size = cur.size
  | [], o, cur => rfl
  | v :: r, o, cur => by rw [wrA, wrA_size r]; simp
theorem wrA_toList : ∀ (vs : List Value) (o : Nat) (cur : Array Value) (X Y Z : List Value), cur.toList = X ++ Y ++ Z → X.length = o → Y.length = vs.length → (wrA cur o vs).toList = X ++ vs ++ Z
  | [], o, cur, X, Y, Z, h, hX, hY => by
    obtain rfl : Y = [] := List.eq_nil_of_length_eq_zero hY
    exact h
  | v :: r, o, cur, X, Y, Z, h, hX, hY => by
    cases Y with
    | nil => simp at hY
    | cons y Y =>
      rw [wrA, wrA_toList r (o + 1) (cur.setIfInBounds o v) (X ++ [v]) Y Z ?_ (by simp [hX]) (by simpa using hY)]
      · simp
      · rw [Array.toList_setIfInBounds, h, ← hX]; simp
theorem setCells_lit (b : Nat) {e : TypeId} {fr : Nat × Nat} : ∀ (vs : List Value) (o : Nat) (w : World) (cur : Array Value), w.heap[b]? = some (.cells cur e fr) → (w.setCells b o vs).heap[b]? = some (.cells (wrA cur o vs) e fr)
  | [], o, w, cur, h => h
  | v :: r, o, w, cur, h => setCells_lit b r (o + 1) _ _ (heap_set_lit h v)
theorem Upd.setCells {S : Nat → Prop} {a : World} {b : Nat} (hb : S b ∨ a.heap.size ≤ b) : ∀ (vs : List Value) (o : Nat) {w : World}, Upd S a w → Upd S a (w.setCells b o vs)
  | [], o, w, h => h
  | v :: r, o, w, h => Upd.setCells hb r (o + 1) (h.setCell (p := ⟨b, o, none⟩) hb v)
theorem shape_lit {w : World} {b : Nat} {cs : Array Value} {T : TypeId} {fr : Nat × Nat} (h : w.heap[b]? = some (.cells cs T fr)) : w.shape? b = some (T, cs.size) := by simp [World.shape?, h]
/-- A row at its block. -/
theorem row_lit {w : World} {base : Nat} {e : TypeId} {n : Nat} {g cap : Nat} {xs : List Value} (h : w.ownsRow base e 1 (.slice (some ⟨g, 0, none⟩) n cap) n xs) : ∃ cur, w.heap[g]? = some (.cells cur e (0, 0)) ∧ base ≤ g ∧ n ≤ cap ∧ cap ≤ maxLen ∧ cur.size = cap ∧ cur.toList.take n = xs ∧ xs.length = n ∧ ∃ Z, cur.toList = xs ++ Z ∧ Z.length = cap - n := by
  obtain ⟨h1, h⟩ := h
  rcases h with ⟨h, -⟩ | ⟨g', cap', cur, e', h2, h3, h4, h5, h6, h7⟩
  · cases h
  · cases e'
    refine ⟨cur, h3, h2, h4, h5, by omega, by simpa using h7, by omega, cur.toList.drop n, ?_, ?_⟩
    · rw [← h7, Nat.mul_one, List.take_append_drop]
    · rw [List.length_drop, Array.length_toList]; omega
theorem row_mk {w : World} {base : Nat} {e : TypeId} {n : Nat} {g cap : Nat} {xs Z : List Value} {cur : Array Value} (h : w.heap[g]? = some (.cells cur e (0, 0))) (hb : base ≤ g) (hn : n ≤ cap) (hm : cap ≤ maxLen) (hs : cur.size = cap) (hc : cur.toList = xs ++ Z) (hx : xs.length = n) : w.ownsRow base e 1 (.slice (some ⟨g, 0, none⟩) n cap) n xs :=
  ⟨by omega, .inr ⟨g, cap, cur, rfl, hb, h, hn, hm, by omega, by rw [hc, Nat.mul_one, ← hx, List.take_left]⟩⟩
/-- What an insertion answers. -/
def InsRow (e : TypeId) (base : Nat) (v : Value) (n : Nat) (xs : List Value) (w : World) (v' : Value) (w' : World) : Prop :=
  w'.ownsRow base e 1 v' (n + 1) xs ∧ Upd (fun k => v.ownBlock = some k) w w' ∧ ∀ k, v'.ownBlock = some k → v.ownBlock = some k ∨ w.heap.size ≤ k
theorem grow_lit {w : World} {e : TypeId} {base n : Nat} {xs : List Value} {cur : Array Value} {v : Value} {c : Nat} (hb : base ≤ w.heap.size) (hn : n + 1 ≤ maxLen) (T : Nat) (hT : T = grownCap w (n + 1) c e) (hs : cur.size = T) (hx : xs.length = n + 1) (Z : List Value) (hc : cur.toList = xs ++ Z) :
    InsRow e base v n xs w (.slice (some ⟨w.heap.size, 0, none⟩) (n + 1) T) (w.drew.alloc (.cells cur e)) := by
  have h1 := grownCap_ge w (n + 1) c e
  have h2 := grownCap_le_maxLen w (n + 1) c e hn
  refine ⟨row_mk (heap_alloc_new _ _) hb (by omega) (by omega) hs hc hx, ((Upd.refl _ _).drew).alloc _, fun k hk => .inr ?_⟩
  simp [Value.ownBlock] at hk; omega
theorem InsS_c (base n : Nat) (v : Value) (A B : List Value) (x : Value) (vb : Nat) (w : World) (h : w.ownsRow base 9 1 v n (A ++ B)) (hB : base ≤ w.heap.size) (hn : n ≤ 100000) (h1 : ∀ y ∈ A ++ B, y.oneCell' = true) (hx : x.oneCell' = true)
    (hvb : w.heap[vb]? = some (.cells #[x] 9 (0, 0))) (hne : v.ownBlock ≠ some vb) :
    Calls Tryz.prog 149 #[v, .int .i64 (A.length : Nat), .slice (some ⟨vb, 0, none⟩) 1 1] w fun e w' => ∃ v', e = .returned v' ∧ Hid (InsRow 9 base v n (A ++ x :: B) w v' w') := by
  have hlen : (A ++ B).length = n := by have := h.1; omega
  have hlen2 : (A ++ x :: B).length = n + 1 := by simp at hlen ⊢; omega
  have hml : n + 1 ≤ maxLen := by unfold maxLen; omega
  have hvs : ∀ j u, ([x] : List Value)[j]? = some u → w.cell? ⟨vb, 0 + j, none⟩ = some u := fun j u hj => by
    rw [Nat.zero_add]; exact cell_lit hvb (by simpa using hj)
  have h1v : ∀ u ∈ ([x] : List Value), u.oneCell' = true := fun u hu => by simp at hu; rw [hu]; exact hx
  rcases hB0 : B with _ | ⟨y, B'⟩
  · subst hB0
    have hA : A.length = n := by simpa using hlen
    rw [List.append_nil] at h h1 hlen
    rw [hA]
    rcases h.2 with ⟨rfl, h0⟩ | ⟨g, cap, cur0, rfl, -⟩
    · subst h0
      obtain rfl : A = [] := List.eq_nil_of_length_eq_zero hA
      refine (Any2.slices_Insert_string_end_grow Tryz.laysNm222 none 0 0 vb 0 1 1 [] [x] w (by omega) (by omega) (by omega) (by omega) rfl rfl (fun _ => rfl) (fun a e => by cases e) hvs h1v).mono ?_
      rintro e w' ⟨rfl, rfl⟩
      refine ⟨_, rfl, grow_lit hB (by unfold maxLen; omega) _ rfl ?_ (by simp) _ (by simp; rfl)⟩
      have := grownCap_ge w (0 + 1) 0 9
      simp only [Array.size_append, List.size_toArray, size_zeroCells, List.length_append, List.length_cons, List.length_nil]
      show 0 + (0 + 1) + (grownCap w (0 + 1) 0 9 - (0 + 1)) * 1 = grownCap w (0 + 1) 0 9
      omega
    · obtain ⟨cur, g1, g2, g3, g4, g5, g6, g7, Z, g8, g9⟩ := row_lit h
      have hcs : ∀ j u, A[j]? = some u → w.cell? ⟨g, 0 + j, none⟩ = some u := fun j u hj => by
        rw [Nat.zero_add]; refine cell_lit g1 ?_
        rw [← Array.getElem?_toList, g8, List.getElem?_append_left (List.getElem?_eq_some_iff.1 hj).1]; exact hj
      by_cases hroom : n + 1 ≤ cap
      · refine (Any2.slices_Insert_string_end_room Tryz.laysNm222 g 0 n cap vb 0 1 1 [x] w (by omega) hroom (by unfold maxLen at g4; omega) rfl (fun j hj => ?_) (fun j hj => frozen_lit g1 _) hvs h1v).mono ?_
        · obtain rfl : j = 0 := by omega
          have : n < cur.size := by omega
          simp [World.cell?, g1, this]
        · rintro e w' ⟨rfl, rfl⟩
          rw [Nat.zero_add]
          cases Z with
          | nil => simp at g9; omega
          | cons z Z =>
            refine ⟨_, rfl, row_mk (setCells_lit g [x] n w cur g1) g2 hroom g4 (by rw [wrA_size]; exact g5) (Z := Z) ?_ hlen2, Upd.setCells (S := fun k => (Value.slice (some (⟨g, 0, none⟩ : Addr)) n cap).ownBlock = some k) (b := g) (.inl rfl) _ _ (Upd.refl _ _), fun k hk => .inl hk⟩
            exact (wrA_toList [x] n cur A [z] Z (by rw [g8]; simp) hA rfl).trans (by simp)
      · refine (Any2.slices_Insert_string_end_grow Tryz.laysNm222 (some ⟨g, 0, none⟩) n cap vb 0 1 1 A [x] w (by omega) g3 (by omega) (by omega) hA rfl (fun e => by cases e) (fun a e j u hj => by cases e; rw [Addr.add_lit]; exact hcs j u hj) hvs h1v).mono ?_
        rintro e w' ⟨rfl, rfl⟩
        refine ⟨_, rfl, grow_lit hB hml _ rfl ?_ hlen2 _ (by simp; rfl)⟩
        have := grownCap_ge w (n + 1) cap 9
        simp only [Array.size_append, List.size_toArray, size_zeroCells, List.length_append, hA, List.length_cons, List.length_nil]
        show n + (0 + 1) + (grownCap w (n + 1) cap 9 - (n + 1)) * 1 = grownCap w (n + 1) cap 9
        omega
  · subst hB0
    have hi : A.length < n := by simp at hlen; omega
    rcases h.2 with ⟨rfl, h0⟩ | ⟨g, cap, cur0, rfl, -⟩
    · omega
    · obtain ⟨cur, g1, g2, g3, g4, g5, g6, g7, Z, g8, g9⟩ := row_lit h
      have hgv : vb ≠ g := fun e => hne (by rw [e]; rfl)
      have hcs : ∀ j u, (A ++ y :: B')[j]? = some u → w.cell? ⟨g, 0 + j, none⟩ = some u := fun j u hj => by
        rw [Nat.zero_add]; refine cell_lit g1 ?_
        rw [← Array.getElem?_toList, g8, List.getElem?_append_left (List.getElem?_eq_some_iff.1 hj).1]; exact hj
      have hdr : (A ++ y :: B').drop A.length = y :: B' := by simp
      have htk : (A ++ y :: B').take A.length = A := by simp
      by_cases hroom : n + 1 ≤ cap
      · refine (Any2.slices_Insert_string_shift Tryz.laysNm222 g 0 n cap A.length vb 0 1 1 (A ++ y :: B') [x] w hi (by omega) hroom (by unfold maxLen at g4; omega) hgv hlen rfl hcs (fun j hj => ?_) (fun j hj => frozen_lit g1 _) hvs h1 h1v _ _ _ _ (shape_lit hvb) (shape_lit g1) (by omega) (frozen_lit hvb _) (frozen_lit hvb _)).mono ?_
        · have : 0 + j < cur.size := by omega
          simp at this
          simp [World.cell?, g1, this]
        · rintro e w' ⟨rfl, rfl⟩
          rw [hdr, Nat.zero_add, Nat.zero_add]
          cases Z with
          | nil => simp at g9; omega
          | cons z Z =>
            have a1 : (w.drew.setCells g (A.length + 1) (y :: B')).heap[g]? = _ := setCells_lit g (y :: B') (A.length + 1) w.drew cur g1
            have a2 := setCells_lit g [x] A.length _ _ a1
            refine ⟨_, rfl, row_mk a2 g2 hroom g4 (by rw [wrA_size, wrA_size]; exact g5) (Z := Z) ?_ hlen2, Upd.setCells (S := fun k => (Value.slice (some (⟨g, 0, none⟩ : Addr)) n cap).ownBlock = some k) (b := g) (.inl rfl) _ _ (Upd.setCells (S := fun k => (Value.slice (some (⟨g, 0, none⟩ : Addr)) n cap).ownBlock = some k) (b := g) (.inl rfl) _ _ (Upd.refl _ _).drew), fun k hk => .inl hk⟩
            have b1 : (wrA cur (A.length + 1) (y :: B')).toList = (A ++ [y]) ++ (y :: B') ++ Z := by
              refine wrA_toList (y :: B') (A.length + 1) cur (A ++ [y]) (B' ++ [z]) Z (by rw [g8]; simp) (by simp) (by simp)
            exact (wrA_toList [x] A.length _ A [y] (y :: B' ++ Z) (by rw [b1]; simp) rfl rfl).trans (by simp)
      · refine (Any2.slices_Insert_string_grow Tryz.laysNm222 g 0 n cap A.length vb 0 1 1 (A ++ y :: B') [x] w hi (by omega) g3 (by omega) (by omega) hlen rfl hcs hvs h1 h1v).mono ?_
        rintro e w' ⟨rfl, rfl⟩
        rw [hdr, htk]
        have c1 := grownCap_ge w (n + 1) cap 9
        have c2 := grownCap_le_maxLen w (n + 1) cap 9 hml
        change ∃ v', _ = _ ∧ Hid (InsRow 9 base _ n _ w v' ((((w.alloc (.cells (A.toArray ++ Builtin.zeroCells (Value.string ⟨#[]⟩).cells (n + 1 - A.length) ++ Builtin.zeroCells (Value.string ⟨#[]⟩).cells (grownCap w (n + 1) cap 9 - (n + 1))) 9)).drew.setCells w.heap.size A.length [x]).drew).setCells w.heap.size (A.length + 1) (y :: B')))
        obtain ⟨Y, hY⟩ : ∃ Y, A.toArray ++ Builtin.zeroCells (Value.string ⟨#[]⟩).cells (n + 1 - A.length) ++ Builtin.zeroCells (Value.string ⟨#[]⟩).cells (grownCap w (n + 1) cap 9 - (n + 1)) = Y := ⟨_, rfl⟩
        have hY1 : Y.size = grownCap w (n + 1) cap 9 := by
          rw [← hY]
          simp only [Array.size_append, List.size_toArray, size_zeroCells]
          show A.length + (n + 1 - A.length) * 1 + (grownCap w (n + 1) cap 9 - (n + 1)) * 1 = _
          omega
        have hY2 : ∃ M Z', Y.toList = A ++ M ++ Z' ∧ M.length = n + 1 - A.length := by
          refine ⟨(Builtin.zeroCells (Value.string ⟨#[]⟩).cells (n + 1 - A.length)).toList, (Builtin.zeroCells (Value.string ⟨#[]⟩).cells (grownCap w (n + 1) cap 9 - (n + 1))).toList, by rw [← hY]; simp, ?_⟩
          rw [Array.length_toList, size_zeroCells]
          show (n + 1 - A.length) * 1 = _
          omega
        rw [hY]
        clear hY
        obtain ⟨M, Z', hM, hML⟩ := hY2
        have hBl : B'.length + 1 = n - A.length := by simp at hlen; omega
        cases M with
        | nil => simp at hML; omega
        | cons m0 M =>
          have a0 : ((w.alloc (.cells Y 9)).drew).heap[w.heap.size]? = some (.cells Y 9 (0, 0)) := heap_alloc_new _ _
          have a1 := setCells_lit w.heap.size [x] A.length _ _ a0
          have a2 := setCells_lit w.heap.size (y :: B') (A.length + 1) (((w.alloc (.cells Y 9)).drew.setCells w.heap.size A.length [x]).drew) _ a1
          refine ⟨_, rfl, row_mk a2 hB c1 c2 (by rw [wrA_size, wrA_size]; exact hY1) (Z := Z') ?_ hlen2, Upd.setCells (b := w.heap.size) (.inr (Nat.le_refl _)) _ _ (Upd.drew (Upd.setCells (b := w.heap.size) (.inr (Nat.le_refl _)) _ _ ((Upd.refl _ _).alloc _).drew)), fun k hk => .inr (by simp [Value.ownBlock] at hk; omega)⟩
          have b1 : (wrA Y A.length [x]).toList = A ++ [x] ++ (M ++ Z') := wrA_toList [x] A.length Y A [m0] (M ++ Z') (by rw [hM]; simp) rfl rfl
          exact (wrA_toList (y :: B') (A.length + 1) _ (A ++ [x]) M Z' (by rw [b1]; simp) (by simp) (by simp at hML ⊢; omega)).trans (by simp)
theorem InsI_c (base n : Nat) (v : Value) (A B : List Value) (x : Value) (vb : Nat) (w : World) (h : w.ownsRow base 3 1 v n (A ++ B)) (hB : base ≤ w.heap.size) (hn : n ≤ 100000) (h1 : ∀ y ∈ A ++ B, y.oneCell' = true) (hx : x.oneCell' = true)
    (hvb : w.heap[vb]? = some (.cells #[x] 3 (0, 0))) (hne : v.ownBlock ≠ some vb) :
    Calls Tryz.prog 150 #[v, .int .i64 (A.length : Nat), .slice (some ⟨vb, 0, none⟩) 1 1] w fun e w' => ∃ v', e = .returned v' ∧ Hid (InsRow 3 base v n (A ++ x :: B) w v' w') := by
  have hlen : (A ++ B).length = n := by have := h.1; omega
  have hlen2 : (A ++ x :: B).length = n + 1 := by simp at hlen ⊢; omega
  have hml : n + 1 ≤ maxLen := by unfold maxLen; omega
  have hvs : ∀ j u, ([x] : List Value)[j]? = some u → w.cell? ⟨vb, 0 + j, none⟩ = some u := fun j u hj => by
    rw [Nat.zero_add]; exact cell_lit hvb (by simpa using hj)
  have h1v : ∀ u ∈ ([x] : List Value), u.oneCell' = true := fun u hu => by simp at hu; rw [hu]; exact hx
  rcases hB0 : B with _ | ⟨y, B'⟩
  · subst hB0
    have hA : A.length = n := by simpa using hlen
    rw [List.append_nil] at h h1 hlen
    rw [hA]
    rcases h.2 with ⟨rfl, h0⟩ | ⟨g, cap, cur0, rfl, -⟩
    · subst h0
      obtain rfl : A = [] := List.eq_nil_of_length_eq_zero hA
      refine (Any2.slices_Insert_int_end_grow Tryz.laysNm221 none 0 0 vb 0 1 1 [] [x] w (by omega) (by omega) (by omega) (by omega) rfl rfl (fun _ => rfl) (fun a e => by cases e) hvs h1v).mono ?_
      rintro e w' ⟨rfl, rfl⟩
      refine ⟨_, rfl, grow_lit hB (by unfold maxLen; omega) _ rfl ?_ (by simp) _ (by simp; rfl)⟩
      have := grownCap_ge w (0 + 1) 0 3
      simp only [Array.size_append, List.size_toArray, size_zeroCells, List.length_append, List.length_cons, List.length_nil]
      show 0 + (0 + 1) + (grownCap w (0 + 1) 0 3 - (0 + 1)) * 1 = grownCap w (0 + 1) 0 3
      omega
    · obtain ⟨cur, g1, g2, g3, g4, g5, g6, g7, Z, g8, g9⟩ := row_lit h
      have hcs : ∀ j u, A[j]? = some u → w.cell? ⟨g, 0 + j, none⟩ = some u := fun j u hj => by
        rw [Nat.zero_add]; refine cell_lit g1 ?_
        rw [← Array.getElem?_toList, g8, List.getElem?_append_left (List.getElem?_eq_some_iff.1 hj).1]; exact hj
      by_cases hroom : n + 1 ≤ cap
      · refine (Any2.slices_Insert_int_end_room Tryz.laysNm221 g 0 n cap vb 0 1 1 [x] w (by omega) hroom (by unfold maxLen at g4; omega) rfl (fun j hj => ?_) (fun j hj => frozen_lit g1 _) hvs h1v).mono ?_
        · obtain rfl : j = 0 := by omega
          have : n < cur.size := by omega
          simp [World.cell?, g1, this]
        · rintro e w' ⟨rfl, rfl⟩
          rw [Nat.zero_add]
          cases Z with
          | nil => simp at g9; omega
          | cons z Z =>
            refine ⟨_, rfl, row_mk (setCells_lit g [x] n w cur g1) g2 hroom g4 (by rw [wrA_size]; exact g5) (Z := Z) ?_ hlen2, Upd.setCells (S := fun k => (Value.slice (some (⟨g, 0, none⟩ : Addr)) n cap).ownBlock = some k) (b := g) (.inl rfl) _ _ (Upd.refl _ _), fun k hk => .inl hk⟩
            exact (wrA_toList [x] n cur A [z] Z (by rw [g8]; simp) hA rfl).trans (by simp)
      · refine (Any2.slices_Insert_int_end_grow Tryz.laysNm221 (some ⟨g, 0, none⟩) n cap vb 0 1 1 A [x] w (by omega) g3 (by omega) (by omega) hA rfl (fun e => by cases e) (fun a e j u hj => by cases e; rw [Addr.add_lit]; exact hcs j u hj) hvs h1v).mono ?_
        rintro e w' ⟨rfl, rfl⟩
        refine ⟨_, rfl, grow_lit hB hml _ rfl ?_ hlen2 _ (by simp; rfl)⟩
        have := grownCap_ge w (n + 1) cap 3
        simp only [Array.size_append, List.size_toArray, size_zeroCells, List.length_append, hA, List.length_cons, List.length_nil]
        show n + (0 + 1) + (grownCap w (n + 1) cap 3 - (n + 1)) * 1 = grownCap w (n + 1) cap 3
        omega
  · subst hB0
    have hi : A.length < n := by simp at hlen; omega
    rcases h.2 with ⟨rfl, h0⟩ | ⟨g, cap, cur0, rfl, -⟩
    · omega
    · obtain ⟨cur, g1, g2, g3, g4, g5, g6, g7, Z, g8, g9⟩ := row_lit h
      have hgv : vb ≠ g := fun e => hne (by rw [e]; rfl)
      have hcs : ∀ j u, (A ++ y :: B')[j]? = some u → w.cell? ⟨g, 0 + j, none⟩ = some u := fun j u hj => by
        rw [Nat.zero_add]; refine cell_lit g1 ?_
        rw [← Array.getElem?_toList, g8, List.getElem?_append_left (List.getElem?_eq_some_iff.1 hj).1]; exact hj
      have hdr : (A ++ y :: B').drop A.length = y :: B' := by simp
      have htk : (A ++ y :: B').take A.length = A := by simp
      by_cases hroom : n + 1 ≤ cap
      · refine (Any2.slices_Insert_int_shift Tryz.laysNm221 g 0 n cap A.length vb 0 1 1 (A ++ y :: B') [x] w hi (by omega) hroom (by unfold maxLen at g4; omega) hgv hlen rfl hcs (fun j hj => ?_) (fun j hj => frozen_lit g1 _) hvs h1 h1v _ _ _ _ (shape_lit hvb) (shape_lit g1) (by omega) (frozen_lit hvb _) (frozen_lit hvb _)).mono ?_
        · have : 0 + j < cur.size := by omega
          simp at this
          simp [World.cell?, g1, this]
        · rintro e w' ⟨rfl, rfl⟩
          rw [hdr, Nat.zero_add, Nat.zero_add]
          cases Z with
          | nil => simp at g9; omega
          | cons z Z =>
            have a1 : (w.drew.setCells g (A.length + 1) (y :: B')).heap[g]? = _ := setCells_lit g (y :: B') (A.length + 1) w.drew cur g1
            have a2 := setCells_lit g [x] A.length _ _ a1
            refine ⟨_, rfl, row_mk a2 g2 hroom g4 (by rw [wrA_size, wrA_size]; exact g5) (Z := Z) ?_ hlen2, Upd.setCells (S := fun k => (Value.slice (some (⟨g, 0, none⟩ : Addr)) n cap).ownBlock = some k) (b := g) (.inl rfl) _ _ (Upd.setCells (S := fun k => (Value.slice (some (⟨g, 0, none⟩ : Addr)) n cap).ownBlock = some k) (b := g) (.inl rfl) _ _ (Upd.refl _ _).drew), fun k hk => .inl hk⟩
            have b1 : (wrA cur (A.length + 1) (y :: B')).toList = (A ++ [y]) ++ (y :: B') ++ Z := by
              refine wrA_toList (y :: B') (A.length + 1) cur (A ++ [y]) (B' ++ [z]) Z (by rw [g8]; simp) (by simp) (by simp)
            exact (wrA_toList [x] A.length _ A [y] (y :: B' ++ Z) (by rw [b1]; simp) rfl rfl).trans (by simp)
      · refine (Any2.slices_Insert_int_grow Tryz.laysNm221 g 0 n cap A.length vb 0 1 1 (A ++ y :: B') [x] w hi (by omega) g3 (by omega) (by omega) hlen rfl hcs hvs h1 h1v).mono ?_
        rintro e w' ⟨rfl, rfl⟩
        rw [hdr, htk]
        have c1 := grownCap_ge w (n + 1) cap 3
        have c2 := grownCap_le_maxLen w (n + 1) cap 3 hml
        change ∃ v', _ = _ ∧ Hid (InsRow 3 base _ n _ w v' ((((w.alloc (.cells (A.toArray ++ Builtin.zeroCells (Value.int .i64 0).cells (n + 1 - A.length) ++ Builtin.zeroCells (Value.int .i64 0).cells (grownCap w (n + 1) cap 3 - (n + 1))) 3)).drew.setCells w.heap.size A.length [x]).drew).setCells w.heap.size (A.length + 1) (y :: B')))
        obtain ⟨Y, hY⟩ : ∃ Y, A.toArray ++ Builtin.zeroCells (Value.int .i64 0).cells (n + 1 - A.length) ++ Builtin.zeroCells (Value.int .i64 0).cells (grownCap w (n + 1) cap 3 - (n + 1)) = Y := ⟨_, rfl⟩
        have hY1 : Y.size = grownCap w (n + 1) cap 3 := by
          rw [← hY]
          simp only [Array.size_append, List.size_toArray, size_zeroCells]
          show A.length + (n + 1 - A.length) * 1 + (grownCap w (n + 1) cap 3 - (n + 1)) * 1 = _
          omega
        have hY2 : ∃ M Z', Y.toList = A ++ M ++ Z' ∧ M.length = n + 1 - A.length := by
          refine ⟨(Builtin.zeroCells (Value.int .i64 0).cells (n + 1 - A.length)).toList, (Builtin.zeroCells (Value.int .i64 0).cells (grownCap w (n + 1) cap 3 - (n + 1))).toList, by rw [← hY]; simp, ?_⟩
          rw [Array.length_toList, size_zeroCells]
          show (n + 1 - A.length) * 1 = _
          omega
        rw [hY]
        clear hY
        obtain ⟨M, Z', hM, hML⟩ := hY2
        have hBl : B'.length + 1 = n - A.length := by simp at hlen; omega
        cases M with
        | nil => simp at hML; omega
        | cons m0 M =>
          have a0 : ((w.alloc (.cells Y 3)).drew).heap[w.heap.size]? = some (.cells Y 3 (0, 0)) := heap_alloc_new _ _
          have a1 := setCells_lit w.heap.size [x] A.length _ _ a0
          have a2 := setCells_lit w.heap.size (y :: B') (A.length + 1) (((w.alloc (.cells Y 3)).drew.setCells w.heap.size A.length [x]).drew) _ a1
          refine ⟨_, rfl, row_mk a2 hB c1 c2 (by rw [wrA_size, wrA_size]; exact hY1) (Z := Z') ?_ hlen2, Upd.setCells (b := w.heap.size) (.inr (Nat.le_refl _)) _ _ (Upd.drew (Upd.setCells (b := w.heap.size) (.inr (Nat.le_refl _)) _ _ ((Upd.refl _ _).alloc _).drew)), fun k hk => .inr (by simp [Value.ownBlock] at hk; omega)⟩
          have b1 : (wrA Y A.length [x]).toList = A ++ [x] ++ (M ++ Z') := wrA_toList [x] A.length Y A [m0] (M ++ Z') (by rw [hM]; simp) rfl rfl
          exact (wrA_toList (y :: B') (A.length + 1) _ (A ++ [x]) M Z' (by rw [b1]; simp) (by simp) (by simp at hML ⊢; omega)).trans (by simp)
end Go.Proofs.YtaibjcjphmhgmaaGreatDoor
namespace Go.Proofs.YtaibjcjphmhgmaaGreatDoor
set_option linter.unusedVariables false
set_option maxRecDepth 100000
set_option maxHeartbeats 1000000
open Go.RowKit
/-! ### the order of keys -/
def kless (a b : ByteArray) : Bool := Op.bytesLess a.toList b.toList
theorem kless_iff (a b : ByteArray) : kless a b = true ↔ a.data.toList < b.data.toList := by
  unfold kless; rw [bytesLess_eq, Lib.toList_data, Lib.toList_data]; simp
theorem kless_irrefl (a : ByteArray) : kless a a = false := by
  cases h : kless a a with
  | false => rfl
  | true => exact absurd ((kless_iff _ _).1 h) (List.lt_irrefl _)
theorem kless_trans {a b c : ByteArray} (h : kless a b = true) (g : kless b c = true) : kless a c = true :=
  (kless_iff _ _).2 (List.lt_trans ((kless_iff _ _).1 h) ((kless_iff _ _).1 g))
theorem kless_total {a b : ByteArray} (h : kless a b = false) (g : kless b a = false) : a = b := by
  have h1 : ¬ a.data.toList < b.data.toList := fun e => by rw [(kless_iff _ _).2 e] at h; cases h
  have g1 : ¬ b.data.toList < a.data.toList := fun e => by rw [(kless_iff _ _).2 e] at g; cases g
  have : a.data.toList = b.data.toList := List.le_antisymm (List.not_lt.1 g1) (List.not_lt.1 h1)
  exact ByteArray.ext (Array.toList_inj.1 this)
theorem kless_asymm {a b : ByteArray} (h : kless a b = true) : kless b a = false := by
  cases g : kless b a with
  | false => rfl
  | true => have k := kless_trans h g; rw [kless_irrefl] at k; cases k
theorem kless_of_le {a b c : ByteArray} (h : kless b a = false) (g : kless b c = true) : kless a c = true := by
  by_cases e : a = b
  · rw [e]; exact g
  · cases k : kless a b with
    | true => exact kless_trans k g
    | false => exact absurd (kless_total k h) e
theorem kless_of_lt_le {a b c : ByteArray} (h : kless a b = true) (g : kless c b = false) : kless a c = true := by
  by_cases e : b = c
  · rw [← e]; exact h
  · cases k : kless b c with
    | true => exact kless_trans h k
    | false => exact absurd (kless_total k g) e
theorem kless_ne {a b : ByteArray} (h : kless a b = true) : a ≠ b := fun e => by rw [e, kless_irrefl] at h; cases h
theorem kle_trans {a b c : ByteArray} (h : kless b a = false) (g : kless c b = false) : kless c a = false := by
  cases k : kless c a with
  | false => rfl
  | true => rw [kless_of_le g k] at h; cases h
theorem kless_empty (a : ByteArray) : kless a ByteArray.empty = false := by
  cases h : kless a ByteArray.empty with
  | false => rfl
  | true => exact absurd ((kless_iff _ _).1 h) (List.not_lt_nil _)
/-! ### trees of a height -/
@[reducible] def PT : Nat → Type
  | 0 => List (ByteArray × ByteArray)
  | h + 1 => List (ByteArray × Nat × PT h)
def nd : (h : Nat) → PT h → Nd
  | 0, l => .leaf l
  | h + 1, l => .inner (List.map (fun x => (x.1, x.2.1)) l)
def ents : (h : Nat) → PT h → List (ByteArray × ByteArray)
  | 0, l => l
  | h + 1, l => List.flatMap (fun x => ents h x.2.2) l
def pgs : (h : Nat) → Nat → PT h → List Nat
  | 0, p, _ => [p]
  | h + 1, p, l => p :: List.flatMap (fun x => pgs h x.2.1 x.2.2) l
def sing : (h : Nat) → PT h → Nat
  | 0, _ => 0
  | h + 1, l => (if List.length l = 1 then 1 else 0) + (List.map (fun x => sing h x.2.2) l).sum
/-- Each key stands between those that part the pages. -/
def Seps (h : Nat) (l : List (ByteArray × Nat × PT h)) : Prop :=
  l.Pairwise (fun x y => ∀ e ∈ ents h x.2.2, kless e.1 y.1 = true) ∧ ∀ y ∈ l.tail, ∀ e ∈ ents h y.2.2, kless e.1 y.1 = false
/-- A tree, whatever its first node's size and number. -/
def Wf : (h : Nat) → PT h → Prop
  | 0, l => (∀ e ∈ (l : List (ByteArray × ByteArray)), e.1.size ≤ 96 ∧ e.2.size ≤ 56) ∧ List.Pairwise (fun a b : ByteArray × ByteArray => kless a.1 b.1 = true) l
  | h + 1, l => (∀ x ∈ (l : List (ByteArray × Nat × PT h)), x.1.size ≤ 96 ∧ x.2.1 < 65536 ∧ 0 < (nd h x.2.2).len ∧ (nd h x.2.2).size ≤ 512 ∧ Wf h x.2.2) ∧ Seps h l
/-- Where it stands. -/
def On (S : RS) : (h : Nat) → Nat → PT h → Prop
  | 0, p, l => S.used p = true ∧ S.cont p = pad (ofL (nd 0 l).bytes)
  | h + 1, p, l => (S.used p = true ∧ S.cont p = pad (ofL (nd (h + 1) l).bytes)) ∧ ∀ x ∈ (l : List (ByteArray × Nat × PT h)), On S h x.2.1 x.2.2
/-- A tree in pages. -/
structure Tr (S : RS) (h p : Nat) (t : PT h) : Prop where
  wf : Wf h t
  pos : 0 < (nd h t).len
  fit : (nd h t).size ≤ 512
  on : On S h p t
  nod : (pgs h p t).Nodup
theorem On.top {S : RS} {h p : Nat} {t : PT h} (H : On S h p t) : S.used p = true ∧ S.cont p = pad (ofL (nd h t).bytes) := by
  cases h with
  | zero => exact H
  | succ h => exact H.1
theorem pgs_mem (h p : Nat) (t : PT h) : p ∈ pgs h p t := by
  cases h <;> simp [pgs]
theorem On.used {S : RS} : ∀ {h p : Nat} {t : PT h}, On S h p t → ∀ q ∈ pgs h p t, S.used q = true
  | 0, p, t, H, q, hq => by simp [pgs] at hq; rw [hq]; exact H.1
  | h + 1, p, t, H, q, hq => by
    simp only [pgs, List.mem_cons, List.mem_flatMap] at hq
    rcases hq with rfl | ⟨x, hx, hq⟩
    · exact H.1.1
    · exact (H.2 x hx).used q hq
theorem On.frame {S S' : RS} : ∀ {h p : Nat} {t : PT h}, On S h p t → (∀ q ∈ pgs h p t, S'.used q = S.used q ∧ S'.cont q = S.cont q) → On S' h p t
  | 0, p, t, H, hq => by
    have := hq p (by simp [pgs])
    exact ⟨this.1.trans H.1, this.2.trans H.2⟩
  | h + 1, p, t, H, hq => by
    have := hq p (by simp [pgs])
    refine ⟨⟨this.1.trans H.1.1, this.2.trans H.1.2⟩, fun x hx => (H.2 x hx).frame fun q h' => hq q ?_⟩
    simp only [pgs, List.mem_cons, List.mem_flatMap]
    exact .inr ⟨x, hx, h'⟩
theorem Tr.frame {S S' : RS} {h p : Nat} {t : PT h} (H : Tr S h p t) (hq : ∀ q ∈ pgs h p t, S'.used q = S.used q ∧ S'.cont q = S.cont q) : Tr S' h p t := ⟨H.wf, H.pos, H.fit, H.on.frame hq, H.nod⟩
theorem Tr.kid {S : RS} {h p : Nat} {l : PT (h + 1)} (H : Tr S (h + 1) p l) {x : ByteArray × Nat × PT h} (hx : x ∈ (l : List (ByteArray × Nat × PT h))) : Tr S h x.2.1 x.2.2 := by
  obtain ⟨h1, h2, h3, h4, h5⟩ := H.wf.1 x hx
  refine ⟨h5, h3, h4, H.on.2 x hx, ?_⟩
  have := (List.nodup_cons.1 H.nod).2
  obtain ⟨A, B, rfl⟩ := List.append_of_mem hx
  rw [List.flatMap_append, List.flatMap_cons] at this
  exact (List.nodup_append.1 (List.nodup_append.1 this).2.1).1
theorem nd_leaf (l : PT 0) : nd 0 l = .leaf l := rfl
theorem nd_inner (h : Nat) (l : PT (h + 1)) : nd (h + 1) l = .inner (List.map (fun x => (x.1, x.2.1)) l) := rfl
theorem nd_len0 (l : PT 0) : (nd 0 l).len = List.length l := by simp [nd, Nd.len, Nd.keys]
theorem nd_lenS (h : Nat) (l : PT (h + 1)) : (nd (h + 1) l).len = List.length l := by simp [nd, Nd.len, Nd.keys]
theorem ents_pos : ∀ {h : Nat} {t : PT h}, Wf h t → 0 < (nd h t).len → 0 < (ents h t).length
  | 0, t, _, hp => by rw [nd_len0] at hp; exact hp
  | h + 1, t, H, hp => by
    rw [nd_lenS] at hp
    cases t with
    | nil => simp at hp
    | cons x t =>
      obtain ⟨h1, h2, h3, h4, h5⟩ := H.1 x (by simp)
      have := ents_pos h5 h3
      simp only [ents, List.flatMap_cons, List.length_append]; omega
/-! ### sizes -/
def esL (e : ByteArray × ByteArray) : Nat := 2 + e.1.size + e.2.size
def esI (e : ByteArray × Nat) : Nat := 5 + e.1.size
theorem szUp_leaf (l : List (ByteArray × ByteArray)) (n : Nat) (hn : n ≤ l.length) : szUp true (l.map Prod.fst) (l.map Prod.snd) n = 3 + ((l.take n).map esL).sum := by
  induction n with
  | zero => simp [szUp]
  | succ n ih =>
    have hlt : n < l.length := hn
    rw [szUp, ih (by omega), List.take_succ_eq_append_getElem hlt, List.map_append, List.sum_append]
    simp only [esz, if_true, List.map_cons, List.map_nil, List.sum_cons, List.sum_nil, esL]
    rw [getD_at _ _ (by simpa using hlt), getD_at _ _ (by simpa using hlt)]
    simp; omega
theorem szUp_inner (l : List (ByteArray × Nat)) (V : List ByteArray) (n : Nat) (hn : n ≤ l.length) : szUp false (l.map Prod.fst) V n = 3 + ((l.take n).map esI).sum := by
  induction n with
  | zero => simp [szUp]
  | succ n ih =>
    have hlt : n < l.length := hn
    rw [szUp, ih (by omega), List.take_succ_eq_append_getElem hlt, List.map_append, List.sum_append]
    simp only [esz, Bool.false_eq_true, if_false, List.map_cons, List.map_nil, List.sum_cons, List.sum_nil, esI]
    rw [getD_at _ _ (by simpa using hlt)]
    simp; omega
theorem size_leaf (l : List (ByteArray × ByteArray)) : (Nd.leaf l).size = 3 + (l.map esL).sum := by
  have := szUp_leaf l l.length (Nat.le_refl _)
  rw [List.take_length] at this
  simpa [Nd.size, Nd.isLeaf, Nd.keys, Nd.vals, Nd.len] using this
theorem size_inner (l : List (ByteArray × Nat)) : (Nd.inner l).size = 3 + (l.map esI).sum := by
  have := szUp_inner l [] l.length (Nat.le_refl _)
  rw [List.take_length] at this
  simpa [Nd.size, Nd.isLeaf, Nd.keys, Nd.vals, Nd.len] using this
theorem sum_ge {α : Type} (f : α → Nat) (c : Nat) (l : List α) (h : ∀ x ∈ l, c ≤ f x) : c * l.length ≤ (l.map f).sum := by
  induction l with
  | nil => simp
  | cons x t ih =>
    have h1 := h x (by simp)
    have h2 := ih fun y hy => h y (by simp [hy])
    simp only [List.length_cons, List.map_cons, List.sum_cons, Nat.mul_add]; omega
theorem sum_le {α : Type} (f : α → Nat) (c : Nat) (l : List α) (h : ∀ x ∈ l, f x ≤ c) : (l.map f).sum ≤ c * l.length := by
  induction l with
  | nil => simp
  | cons x t ih =>
    have h1 := h x (by simp)
    have h2 := ih fun y hy => h y (by simp [hy])
    simp only [List.length_cons, List.map_cons, List.sum_cons, Nat.mul_add]; omega
theorem size_len (d : Nd) : 3 + 2 * d.len ≤ d.size := by
  cases d with
  | leaf l =>
    rw [size_leaf]
    have := sum_ge esL 2 l fun x _ => by unfold esL; omega
    simp [Nd.len, Nd.keys]; omega
  | inner l =>
    rw [size_inner]
    have := sum_ge esI 2 l fun x _ => by unfold esI; omega
    simp [Nd.len, Nd.keys]; omega
/-- A node of a tree is one that can be written. -/
theorem Wf.ok {h : Nat} {t : PT h} (H : Wf h t) (hp : 0 < (nd h t).len) (hs : (nd h t).size ≤ 100000) : (nd h t).Ok := by
  have hl := size_len (nd h t)
  cases h with
  | zero =>
    refine ⟨hp, by omega, fun k hk => ?_, fun v hv => ?_, fun c hc => ?_⟩
    · simp only [nd, Nd.keys, List.mem_map] at hk
      obtain ⟨e, he, rfl⟩ := hk
      exact (H.1 e he).1
    · simp only [nd, Nd.vals, List.mem_map] at hv
      obtain ⟨e, he, rfl⟩ := hv
      exact (H.1 e he).2
    · simp [nd, Nd.kids] at hc
  | succ h =>
    refine ⟨hp, by omega, fun k hk => ?_, fun v hv => ?_, fun c hc => ?_⟩
    · simp only [nd, Nd.keys, List.map_map, List.mem_map] at hk
      obtain ⟨e, he, rfl⟩ := hk
      exact (H.1 e he).1
    · simp [nd, Nd.vals] at hv
    · simp only [nd, Nd.kids, List.map_map, List.mem_map] at hc
      obtain ⟨e, he, rfl⟩ := hc
      have := (H.1 e he).2.1
      exact Nat.lt_trans this (by decide)
theorem Tr.ok {S : RS} {h p : Nat} {t : PT h} (H : Tr S h p t) : (nd h t).Ok := H.wf.ok H.pos (Nat.le_trans H.fit (by decide))
theorem bytes_len (d : Nd) : d.bytes.length = d.size := by
  cases d with
  | leaf l =>
    have e : (l.flatMap entL).length = (l.map esL).sum := by
      rw [List.length_flatMap]
      congr 1
      refine List.map_congr_left fun e _ => ?_
      simp only [entL, esL, List.length_append, List.length_cons, List.length_nil, Lib.size_eq]; omega
    rw [size_leaf, ← e]
    simp [Nd.bytes, Nd.body]; omega
  | inner l =>
    have e : (l.flatMap entI).length = (l.map esI).sum := by
      rw [List.length_flatMap]
      congr 1
      refine List.map_congr_left fun e _ => ?_
      simp only [entI, esI, be4, List.length_append, List.length_cons, List.length_nil, Lib.size_eq]; omega
    rw [size_inner, ← e]
    simp [Nd.bytes, Nd.body]; omega
end Go.Proofs.YtaibjcjphmhgmaaGreatDoor
namespace Go.Proofs.YtaibjcjphmhgmaaGreatDoor
set_option linter.unusedVariables false
set_option maxRecDepth 100000
set_option maxHeartbeats 1000000
open Go.RowKit
/-! ### pairs in order -/
def Srt (E : List (ByteArray × ByteArray)) : Prop := List.Pairwise (fun a b : ByteArray × ByteArray => kless a.1 b.1 = true) E
def Ins (key val : ByteArray) (E E' : List (ByteArray × ByteArray)) : Prop :=
  ∃ A B, E' = A ++ (key, val) :: B ∧ (E = A ++ B ∨ ∃ v, E = A ++ (key, v) :: B) ∧ (∀ a ∈ A, kless a.1 key = true) ∧ ∀ b ∈ B, kless key b.1 = true
theorem Ins.lift {key val : ByteArray} {E E' : List (ByteArray × ByteArray)} (H : Ins key val E E') (X Y : List (ByteArray × ByteArray)) (hX : ∀ a ∈ X, kless a.1 key = true) (hY : ∀ b ∈ Y, kless key b.1 = true) : Ins key val (X ++ (E ++ Y)) (X ++ (E' ++ Y)) := by
  obtain ⟨A, B, rfl, h, hA, hB⟩ := H
  refine ⟨X ++ A, B ++ Y, by simp, ?_, fun a ha => ?_, fun b hb => ?_⟩
  · rcases h with rfl | ⟨v, rfl⟩
    · exact .inl (by simp)
    · exact .inr ⟨v, by simp⟩
  · rcases List.mem_append.1 ha with h | h
    · exact hX a h
    · exact hA a h
  · rcases List.mem_append.1 hb with h | h
    · exact hB b h
    · exact hY b h
theorem Ins.mem {key val : ByteArray} {E E' : List (ByteArray × ByteArray)} (H : Ins key val E E') : ∀ e ∈ E', e.1 = key ∨ e ∈ E := by
  obtain ⟨A, B, rfl, h, hA, hB⟩ := H
  intro e he
  rcases List.mem_append.1 he with h1 | h1
  · right; rcases h with rfl | ⟨v, rfl⟩ <;> simp [h1]
  · rcases List.mem_cons.1 h1 with rfl | h1
    · exact .inl rfl
    · right; rcases h with rfl | ⟨v, rfl⟩ <;> simp [h1]
theorem Ins.len {key val : ByteArray} {E E' : List (ByteArray × ByteArray)} (H : Ins key val E E') : E'.length ≤ E.length + 1 := by
  obtain ⟨A, B, rfl, h, hA, hB⟩ := H
  rcases h with rfl | ⟨v, rfl⟩ <;> simp <;> omega
theorem srt_mid {A B : List (ByteArray × ByteArray)} {key val : ByteArray} (h : Srt (A ++ B)) (hA : ∀ a ∈ A, kless a.1 key = true) (hB : ∀ b ∈ B, kless key b.1 = true) : Srt (A ++ (key, val) :: B) := by
  obtain ⟨h1, h2, h3⟩ := List.pairwise_append.1 h
  refine List.pairwise_append.2 ⟨h1, List.pairwise_cons.2 ⟨hB, h2⟩, fun a ha b hb => ?_⟩
  rcases List.mem_cons.1 hb with rfl | hb
  · exact hA a ha
  · exact h3 a ha b hb
theorem srt_of {A B : List (ByteArray × ByteArray)} {e : ByteArray × ByteArray} (h : Srt (A ++ e :: B)) : Srt (A ++ B) ∧ (∀ a ∈ A, kless a.1 e.1 = true) ∧ ∀ b ∈ B, kless e.1 b.1 = true := by
  obtain ⟨h1, h2, h3⟩ := List.pairwise_append.1 h
  obtain ⟨h4, h5⟩ := List.pairwise_cons.1 h2
  exact ⟨List.pairwise_append.2 ⟨h1, h5, fun a ha b hb => h3 a ha b (by simp [hb])⟩, fun a ha => h3 a ha e (by simp), h4⟩
/-- A key's place in pairs in order. -/
theorem lb_split (l : List (ByteArray × ByteArray)) (key : ByteArray) (h : Srt l) : ∃ A B, l = A ++ B ∧ (∀ a ∈ A, kless a.1 key = true) ∧ (∀ b ∈ B, kless b.1 key = false) ∧ ((∃ v B', B = (key, v) :: B' ∧ ∀ b ∈ B', kless key b.1 = true) ∨ (∀ b ∈ B, kless key b.1 = true)) := by
  induction l with
  | nil => exact ⟨[], [], rfl, by simp, by simp, .inr (by simp)⟩
  | cons x t ih =>
    obtain ⟨hx, ht⟩ := List.pairwise_cons.1 h
    cases hk : kless x.1 key with
    | true =>
      obtain ⟨A, B, rfl, hA, hB, h3⟩ := ih ht
      exact ⟨x :: A, B, rfl, fun a ha => (by rcases List.mem_cons.1 ha with rfl | ha <;> first | exact hk | exact hA a ha), hB, h3⟩
    | false =>
      have hle : ∀ b ∈ x :: t, kless b.1 key = false := fun b hb => by
        rcases List.mem_cons.1 hb with rfl | hb
        · exact hk
        · cases g : kless b.1 key with
          | false => rfl
          | true => rw [kless_trans (hx b hb) g] at hk; cases hk
      refine ⟨[], x :: t, rfl, by simp, hle, ?_⟩
      cases g : kless key x.1 with
      | true =>
        refine .inr fun b hb => ?_
        rcases List.mem_cons.1 hb with rfl | hb
        · exact g
        · exact kless_trans g (hx b hb)
      | false =>
        have e : x.1 = key := kless_total hk g
        refine .inl ⟨x.2, t, by rw [← e], fun b hb => by rw [← e]; exact hx b hb⟩
/-! ### kids -/
abbrev Kid (h : Nat) := ByteArray × Nat × PT h
/-- The kid below which a key stands. -/
def Way (key : ByteArray) {h : Nat} (A : List (Kid h)) (x : Kid h) (B : List (Kid h)) : Prop := (A ≠ [] → kless key x.1 = false) ∧ ∀ y ∈ B, kless key y.1 = true
theorem seps_tail {h : Nat} {A : List (Kid h)} {x : Kid h} {B : List (Kid h)} : (∀ y ∈ (A ++ x :: B).tail, ∀ e ∈ ents h y.2.2, kless e.1 y.1 = false) ↔ (∀ y ∈ A.tail, ∀ e ∈ ents h y.2.2, kless e.1 y.1 = false) ∧ (A ≠ [] → ∀ e ∈ ents h x.2.2, kless e.1 x.1 = false) ∧ ∀ y ∈ B, ∀ e ∈ ents h y.2.2, kless e.1 y.1 = false := by
  cases A with
  | nil => simp
  | cons a A =>
    simp only [List.cons_append, List.tail_cons, List.mem_append, List.mem_cons]
    constructor
    · intro H; exact ⟨fun y hy => H y (.inl hy), fun _ => H x (.inr (.inl rfl)), fun y hy => H y (.inr (.inr hy))⟩
    · rintro ⟨h1, h2, h3⟩ y (hy | rfl | hy) <;> first | exact h1 y hy | exact h2 (by simp) | exact h3 y hy
theorem seps_pair {h : Nat} {A : List (Kid h)} {x : Kid h} {B : List (Kid h)} : ((A ++ x :: B).Pairwise (fun x y => ∀ e ∈ ents h x.2.2, kless e.1 y.1 = true)) ↔
    A.Pairwise (fun x y => ∀ e ∈ ents h x.2.2, kless e.1 y.1 = true) ∧ B.Pairwise (fun x y => ∀ e ∈ ents h x.2.2, kless e.1 y.1 = true) ∧ (∀ a ∈ A, ∀ e ∈ ents h a.2.2, kless e.1 x.1 = true) ∧ (∀ b ∈ B, ∀ e ∈ ents h x.2.2, kless e.1 b.1 = true) ∧ ∀ a ∈ A, ∀ b ∈ B, ∀ e ∈ ents h a.2.2, kless e.1 b.1 = true := by
  rw [List.pairwise_append, List.pairwise_cons]
  constructor
  · rintro ⟨h1, ⟨h2, h3⟩, h4⟩
    exact ⟨h1, h3, fun a ha => h4 a ha x (by simp), h2, fun a ha b hb => h4 a ha b (by simp [hb])⟩
  · rintro ⟨h1, h2, h3, h4, h5⟩
    refine ⟨h1, ⟨h4, h2⟩, fun a ha b hb => ?_⟩
    rcases List.mem_cons.1 hb with rfl | hb <;> first | exact h3 a ha | exact h5 a ha b hb
theorem Seps.way {h : Nat} {A B : List (Kid h)} {x : Kid h} {key : ByteArray} (H : Seps h (A ++ x :: B)) (W : Way key A x B) : (∀ a ∈ A, ∀ e ∈ ents h a.2.2, kless e.1 key = true) ∧ ∀ b ∈ B, ∀ e ∈ ents h b.2.2, kless key e.1 = true := by
  obtain ⟨-, -, h3, -, -⟩ := seps_pair.1 H.1
  obtain ⟨-, -, h6⟩ := seps_tail.1 H.2
  refine ⟨fun a ha e he => ?_, fun b hb e he => ?_⟩
  · exact kless_of_lt_le (h3 a ha e he) (W.1 (List.ne_nil_of_mem ha))
  · exact kless_of_lt_le (W.2 b hb) (h6 b hb e he)
/-- A kid changed: what is in it was there, or is the key. -/
theorem Seps.set {h : Nat} {A B : List (Kid h)} {x : Kid h} {key : ByteArray} (H : Seps h (A ++ x :: B)) (W : Way key A x B) (p : Nat) (t : PT h) (ht : ∀ e ∈ ents h t, e.1 = key ∨ e ∈ ents h x.2.2) : Seps h (A ++ (x.1, p, t) :: B) := by
  obtain ⟨h1, h2, h3, h4, h5⟩ := seps_pair.1 H.1
  obtain ⟨h6, h7, h8⟩ := seps_tail.1 H.2
  refine ⟨seps_pair.2 ⟨h1, h2, h3, fun b hb e he => ?_, h5⟩, seps_tail.2 ⟨h6, fun hA e he => ?_, h8⟩⟩
  · rcases ht e he with h | h
    · rw [h]; exact W.2 b hb
    · exact h4 b hb e h
  · rcases ht e he with h | h
    · rw [h]; exact W.1 hA
    · exact h7 hA e h
/-- A kid parted. -/
theorem Seps.part {h : Nat} {A B : List (Kid h)} {x : Kid h} {key k : ByteArray} (H : Seps h (A ++ x :: B)) (W : Way key A x B) (p q : Nat) (t u : PT h) (ht : ∀ e ∈ ents h t, e.1 = key ∨ e ∈ ents h x.2.2) (hu : ∀ e ∈ ents h u, e.1 = key ∨ e ∈ ents h x.2.2)
    (h0 : 0 < (ents h t).length) (hk : ∀ e ∈ ents h t, kless e.1 k = true) (hk2 : ∀ e ∈ ents h u, kless e.1 k = false) : Seps h (A ++ (x.1, p, t) :: (k, q, u) :: B) := by
  obtain ⟨h1, h2, h3, h4, h5⟩ := seps_pair.1 H.1
  obtain ⟨h6, h7, h8⟩ := seps_tail.1 H.2
  have T := H.set W p t ht
  obtain ⟨g1, g2, g3, g4, g5⟩ := seps_pair.1 T.1
  obtain ⟨g6, g7, g8⟩ := seps_tail.1 T.2
  have hu' : ∀ b ∈ B, ∀ e ∈ ents h u, kless e.1 b.1 = true := fun b hb e he => by
    rcases hu e he with h | h
    · rw [h]; exact W.2 b hb
    · exact h4 b hb e h
  obtain ⟨e0, he0⟩ : ∃ e0, e0 ∈ ents h t := ⟨_, List.getElem_mem h0⟩
  refine ⟨seps_pair.2 ⟨h1, List.pairwise_cons.2 ⟨hu', h2⟩, h3, fun b hb e he => ?_, fun a ha b hb e he => ?_⟩, seps_tail.2 ⟨h6, g7, fun y hy => ?_⟩⟩
  · rcases List.mem_cons.1 hb with rfl | hb
    · exact hk e he
    · exact g4 b hb e he
  · rcases List.mem_cons.1 hb with rfl | hb
    · exact kless_trans (kless_of_lt_le (h3 a ha e he) (g7 (List.ne_nil_of_mem ha) e0 he0)) (hk e0 he0)
    · exact h5 a ha b hb e he
  · rcases List.mem_cons.1 hy with rfl | hy
    · exact hk2
    · exact h8 y hy
/-- A kid away. -/
theorem Seps.away {h : Nat} {A B : List (Kid h)} {x : Kid h} (H : Seps h (A ++ x :: B)) : Seps h (A ++ B) := by
  obtain ⟨h6, h7, h8⟩ := seps_tail.1 H.2
  refine ⟨H.1.sublist (by simp), fun y hy => ?_⟩
  cases A with
  | nil => exact h8 y (List.mem_of_mem_tail hy)
  | cons a A =>
    simp only [List.cons_append, List.tail_cons, List.mem_append] at hy
    rcases hy with hy | hy
    · exact h6 y hy
    · exact h8 y hy
/-- Two kids put together. -/
theorem Seps.join {h : Nat} {A B : List (Kid h)} {x y : Kid h} (H : Seps h (A ++ x :: y :: B)) (p : Nat) (t : PT h) (ht : ents h t = ents h x.2.2 ++ ents h y.2.2) (h0 : 0 < (ents h x.2.2).length) : Seps h (A ++ (x.1, p, t) :: B) := by
  obtain ⟨h1, h2, h3, h4, h5⟩ := seps_pair.1 H.1
  obtain ⟨h6, h7, h8⟩ := seps_tail.1 H.2
  obtain ⟨h9, h10⟩ := List.pairwise_cons.1 h2
  obtain ⟨e0, he0⟩ : ∃ e0, e0 ∈ ents h x.2.2 := ⟨_, List.getElem_mem h0⟩
  refine ⟨seps_pair.2 ⟨h1, h10, h3, fun b hb e he => ?_, fun a ha b hb => h5 a ha b (by simp [hb])⟩, seps_tail.2 ⟨h6, fun hA e he => ?_, fun b hb => h8 b (by simp [hb])⟩⟩
  · simp only [ht, List.mem_append] at he
    rcases he with he | he
    · exact h4 b (by simp [hb]) e he
    · exact h9 b hb e he
  · simp only [ht, List.mem_append] at he
    rcases he with he | he
    · exact h7 hA e he
    · have a1 := h7 hA e0 he0
      have a2 := h4 y (by simp) e0 he0
      have a3 := h8 y (by simp) e he
      have := kless_of_lt_le a2 a3
      exact kle_trans a1 (kless_asymm this)
theorem ents_mid (h : Nat) (A B : List (Kid h)) (x : Kid h) : ents (h + 1) (A ++ x :: B) = ents (h + 1) A ++ (ents h x.2.2 ++ ents (h + 1) B) := by
  simp [ents]
theorem ents_app (h : Nat) (A B : List (Kid h)) : ents (h + 1) (A ++ B : List (Kid h)) = ents (h + 1) A ++ ents (h + 1) B := by
  simp [ents]
theorem ents_mem (h : Nat) (A : List (Kid h)) (e : ByteArray × ByteArray) : e ∈ ents (h + 1) A ↔ ∃ a ∈ A, e ∈ ents h a.2.2 := by
  simp [ents]
/-- All of a tree is in order. -/
theorem Wf.srt : ∀ {h : Nat} {t : PT h}, Wf h t → Srt (ents h t)
  | 0, t, H => H.2
  | h + 1, t, H => by
    show List.Pairwise _ (List.flatMap (fun x : Kid h => ents h x.2.2) t)
    rw [List.pairwise_flatMap]
    refine ⟨fun x hx => Wf.srt (H.1 x hx).2.2.2.2, ?_⟩
    have := H.2
    have hs : ∀ l : List (Kid h), Seps h l → l.Pairwise (fun x y => ∀ e ∈ ents h x.2.2, ∀ f ∈ ents h y.2.2, kless e.1 f.1 = true) := by
      intro l
      induction l with
      | nil => intro _; exact List.Pairwise.nil
      | cons x l ih =>
        intro hl
        obtain ⟨a1, a2⟩ := List.pairwise_cons.1 hl.1
        refine List.pairwise_cons.2 ⟨fun y hy e he f hf => kless_of_lt_le (a1 y hy e he) (hl.2 y hy f hf), ih ⟨a2, fun y hy => hl.2 y (List.mem_of_mem_tail hy)⟩⟩
    exact hs t this
/-- The way of a key in kids in order. -/
theorem way_split {h : Nat} (l : List (Kid h)) (key : ByteArray) (hs : l.tail.Pairwise (fun x y => kless x.1 y.1 = true)) (hp : 0 < l.length) : ∃ A x B, l = A ++ x :: B ∧ Way key A x B ∧ ∀ y ∈ A.tail, kless key y.1 = false := by
  cases l with
  | nil => simp at hp
  | cons x0 l =>
    simp only [List.tail_cons] at hs
    clear hp
    induction l generalizing x0 with
    | nil => exact ⟨[], x0, [], rfl, ⟨by simp, by simp⟩, by simp⟩
    | cons x1 l ih =>
      obtain ⟨a1, a2⟩ := List.pairwise_cons.1 hs
      cases hk : kless key x1.1 with
      | true =>
        refine ⟨[], x0, x1 :: l, rfl, ⟨by simp, fun y hy => ?_⟩, by simp⟩
        rcases List.mem_cons.1 hy with rfl | hy
        · exact hk
        · exact kless_trans hk (a1 y hy)
      | false =>
        obtain ⟨A, x, B, e, W, hA⟩ := ih x1 a2
        refine ⟨x0 :: A, x, B, by rw [e]; rfl, ⟨fun _ => ?_, W.2⟩, fun y hy => ?_⟩
        · cases A with
          | nil => simp at e; rw [← e.1]; exact hk
          | cons a A => exact W.1 (by simp)
        · cases A with
          | nil => simp at hy
          | cons a A =>
            simp at e
            rcases List.mem_cons.1 hy with rfl | hy
            · rw [← e.1]; exact hk
            · exact hA y hy
theorem Seps.keys {h : Nat} {l : List (Kid h)} (H : Seps h l) (hp : ∀ x ∈ l, 0 < (ents h x.2.2).length) : l.tail.Pairwise (fun x y => kless x.1 y.1 = true) := by
  cases l with
  | nil => exact List.Pairwise.nil
  | cons x l =>
    refine List.Pairwise.imp_of_mem (R := fun x y => ∀ e ∈ ents h x.2.2, kless e.1 y.1 = true) (fun {a b} ha hb hab => ?_) (List.pairwise_cons.1 H.1).2
    obtain ⟨e0, he0⟩ : ∃ e0, e0 ∈ ents h a.2.2 := ⟨_, List.getElem_mem (hp a (by simp at ha; simp [ha]))⟩
    exact kless_of_le (H.2 a ha e0 he0) (hab e0 he0)
end Go.Proofs.YtaibjcjphmhgmaaGreatDoor
namespace Go.Proofs.YtaibjcjphmhgmaaGreatDoor
set_option linter.unusedVariables false
set_option maxRecDepth 100000
set_option maxHeartbeats 1000000
open Go.RowKit
theorem Upd.drewN {S : Nat → Prop} {a w : World} (h : Upd S a w) (q : Nat) : Upd S a (w.drewN q) := ⟨h.os, h.tape, h.output, h.size, h.block⟩
/-- What a deletion answers. -/
def DelRow (e : TypeId) (base : Nat) (v : Value) (n : Nat) (xs : List Value) (w : World) (v' : Value) (w' : World) : Prop :=
  w'.ownsRow base e 1 v' n xs ∧ Upd (fun k => v.ownBlock = some k) w w' ∧ v'.ownBlock = v.ownBlock
theorem strs_map (K : List ByteArray) (d : ByteArray) : (Lib.strsOf (fun i => K.getD i d) K.length).map encStr = K.map Value.string := by
  apply List.ext_getElem
  · simp [Lib.strsOf]
  · intro i h1 h2
    have h3 : i < K.length := by simpa using h2
    simp [Lib.strsOf, encStr, getD_at _ _ h3]
    simp [h3]
theorem cut_mid {α : Type} (A B : List α) (x : α) : (A ++ x :: B).take A.length = A ∧ (A ++ x :: B).drop (A.length + 1) = B := by
  refine ⟨List.take_left, ?_⟩
  rw [show A ++ x :: B = (A ++ [x]) ++ B by simp]
  exact List.drop_left' (by simp)
theorem DelS_c (base : Nat) (v : Value) (A B : List ByteArray) (x : ByteArray) (w : World) (h : w.ownsRow base 9 1 v (A.length + 1 + B.length) ((A ++ x :: B).map Value.string)) :
    Calls Tryz.prog 153 #[v, .int .i64 (A.length : Nat), .int .i64 ((A.length : Int) + 1)] w fun e w' => ∃ v', e = .returned v' ∧ Hid (DelRow 9 base v (A.length + B.length) ((A ++ B).map Value.string) w v' w') := by
  rcases h.2 with ⟨rfl, h0⟩ | ⟨g, cap, cur0, rfl, -⟩
  · omega
  · obtain ⟨cur, g1, g2, g3, g4, g5, g6, g7, Z, g8, g9⟩ := row_lit h
    have hl : (A ++ x :: B).length = A.length + 1 + B.length := by simp; omega
    have hc : ∀ i, i < A.length + 1 + B.length → w.cell? ⟨g, 0 + i, none⟩ = some (.string ((A ++ x :: B).getD i ByteArray.empty)) := fun i hi => by
      rw [Nat.zero_add]; refine cell_lit g1 ?_
      have hi' : i < (A ++ x :: B).length := by omega
      rw [← Array.getElem?_toList, g8, List.getElem?_append_left (by simpa using hi'), getD_at _ _ hi', List.getElem?_map, List.getElem?_eq_getElem hi']
      rfl
    have e1 : ((A.length : Int) + 1) = ((A.length + 1 : Nat) : Int) := by omega
    rw [e1]
    refine (Any.slices_Delete_string_cells Tryz.laysNm224 g 0 (A.length + 1 + B.length) cap A.length (A.length + 1) (fun i => (A ++ x :: B).getD i ByteArray.empty) w g3 (by unfold maxLen at g4; omega) (by omega) (by omega) hc (fun j hj => frozen_lit g1 _)).mono ?_
    rintro e w' ⟨rfl, q, rfl⟩
    have e2 : (Lib.strsOf (fun i => (A ++ x :: B).getD i ByteArray.empty) (A.length + 1 + B.length)).map encStr = (A ++ x :: B).map Value.string := by rw [← hl]; exact strs_map _ _
    have hlA : A.length = (A.map Value.string).length := by simp
    have e3 : (((Lib.strsOf (fun i => (A ++ x :: B).getD i ByteArray.empty) (A.length + 1 + B.length)).take A.length ++ (Lib.strsOf (fun i => (A ++ x :: B).getD i ByteArray.empty) (A.length + 1 + B.length)).drop (A.length + 1) ++ List.replicate (A.length + 1 - A.length) []).map encStr) = (A ++ B).map Value.string ++ [Value.string ⟨#[]⟩] := by
      rw [List.map_append, List.map_append, List.map_take, List.map_drop, e2, List.map_append, List.map_cons, hlA, (cut_mid _ _ _).1, (cut_mid _ _ _).2, List.map_append, Nat.add_sub_cancel_left]
      rfl
    rw [e3, show A.length + 1 + B.length - (A.length + 1 - A.length) = A.length + B.length by omega]
    have a1 := setCells_lit g ((A ++ B).map Value.string ++ [Value.string ⟨#[]⟩]) 0 (w.drewN q) cur g1
    refine ⟨_, rfl, row_mk a1 g2 (by omega) g4 (by rw [wrA_size]; exact g5) (Z := Value.string ⟨#[]⟩ :: Z) ?_ (by simp), Upd.setCells (S := fun k => (Value.slice (some (⟨g, 0, none⟩ : Addr)) (A.length + 1 + B.length) cap).ownBlock = some k) (b := g) (.inl rfl) _ _ ((Upd.refl _ _).drewN q), rfl⟩
    exact (wrA_toList ((A ++ B).map Value.string ++ [Value.string ⟨#[]⟩]) 0 cur [] ((A ++ x :: B).map Value.string) Z (by rw [g8]; rfl) rfl (by simp)).trans (by rw [List.nil_append, List.append_assoc]; rfl)
theorem DelI_c (base : Nat) (v : Value) (A B : List Nat) (x : Nat) (w : World) (h : w.ownsRow base 3 1 v (A.length + 1 + B.length) ((A ++ x :: B).map fun c : Nat => Value.int .i64 (c : Int))) :
    Calls Tryz.prog 154 #[v, .int .i64 (A.length : Nat), .int .i64 ((A.length : Int) + 1)] w fun e w' => ∃ v', e = .returned v' ∧ Hid (DelRow 3 base v (A.length + B.length) ((A ++ B).map fun c : Nat => Value.int .i64 (c : Int)) w v' w') := by
  rcases h.2 with ⟨rfl, h0⟩ | ⟨g, cap, cur0, rfl, -⟩
  · omega
  · obtain ⟨cur, g1, g2, g3, g4, g5, g6, g7, Z, g8, g9⟩ := row_lit h
    have hl : ((A ++ x :: B).map fun c : Nat => (c : Int)).length = A.length + 1 + B.length := by simp; omega
    have hc : ∀ i, i < ((A ++ x :: B).map fun c : Nat => (c : Int)).length → w.cell? ⟨g, 0 + i, none⟩ = some (.int .i64 (((A ++ x :: B).map fun c : Nat => (c : Int)).getD i 0)) := fun i hi => by
      rw [Nat.zero_add]; refine cell_lit g1 ?_
      have hi' : i < (A ++ x :: B).length := by simpa using hi
      rw [← Array.getElem?_toList, g8, List.getElem?_append_left (by simpa using hi'), getD_at _ _ hi, List.getElem?_map, List.getElem?_eq_getElem hi', List.getElem_map]
      rfl
    have e1 : ((A.length : Int) + 1) = ((A.length + 1 : Nat) : Int) := by omega
    rw [e1]
    refine (Any.slices_Delete_int_cells Tryz.laysNm223 g 0 (A.length + 1 + B.length) cap A.length (A.length + 1) ((A ++ x :: B).map fun c : Nat => (c : Int)) w (by omega) g3 (by unfold maxLen at g4; omega) (by omega) (by omega) hc (fun j hj => frozen_lit g1 _)).mono ?_
    rintro e w' ⟨rfl, q, rfl⟩
    have hlA : A.length = (A.map fun c : Nat => (c : Int)).length := by simp
    have e3 : ((((((A ++ x :: B).map fun c : Nat => (c : Int)).take (A.length + 1 + B.length)).take A.length) ++ ((((A ++ x :: B).map fun c : Nat => (c : Int)).take (A.length + 1 + B.length)).drop (A.length + 1)) ++ List.replicate (A.length + 1 - A.length) 0).map (Value.int .i64)) = ((A ++ B).map fun c : Nat => Value.int .i64 (c : Int)) ++ [Value.int .i64 0] := by
      rw [List.take_of_length_le (by omega : ((A ++ x :: B).map fun c : Nat => (c : Int)).length ≤ A.length + 1 + B.length), show ((A ++ x :: B).map fun c : Nat => (c : Int)) = (A.map fun c : Nat => (c : Int)) ++ (x : Int) :: (B.map fun c : Nat => (c : Int)) by simp, hlA, (cut_mid _ _ _).1, (cut_mid _ _ _).2, Nat.add_sub_cancel_left, List.map_append, List.map_append, List.map_append, List.map_map, List.map_map]
      rfl
    rw [e3, show A.length + 1 + B.length - (A.length + 1 - A.length) = A.length + B.length by omega]
    have a1 := setCells_lit g (((A ++ B).map fun c : Nat => Value.int .i64 (c : Int)) ++ [Value.int .i64 0]) 0 (w.drewN q) cur g1
    refine ⟨_, rfl, row_mk a1 g2 (by omega) g4 (by rw [wrA_size]; exact g5) (Z := Value.int .i64 0 :: Z) ?_ (by simp), Upd.setCells (S := fun k => (Value.slice (some (⟨g, 0, none⟩ : Addr)) (A.length + 1 + B.length) cap).ownBlock = some k) (b := g) (.inl rfl) _ _ ((Upd.refl _ _).drewN q), rfl⟩
    exact (wrA_toList (((A ++ B).map fun c : Nat => Value.int .i64 (c : Int)) ++ [Value.int .i64 0]) 0 cur [] ((A ++ x :: B).map fun c : Nat => Value.int .i64 (c : Int)) Z (by rw [g8]; rfl) rfl (by simp)).trans (by rw [List.nil_append, List.append_assoc]; rfl)
/-! ### find -/
theorem bs_spec (less : Nat → Bool) (n k : Nat) (hk : k ≤ n) (h1 : ∀ t, t < k → less t = true) (h2 : ∀ t, k ≤ t → less t = false) : Lib.bsGo less n 0 n = k := Lib.bsGo_spec less k h1 h2 n 0 n (by omega) (by omega) hk
theorem find_c (there : Bool) (p : Nat) (d : Nd) (vk vv vi : Value) (A B : List ByteArray) (key : ByteArray) (w : World) (h : NdV w p d vk vv vi) (hd : d.keys = A ++ B) (hp : 0 < d.len) (hl : d.len ≤ 1000000) (hA : ∀ a ∈ A, kless a key = true) (hB : ∀ b ∈ B, kless b key = false) (hth : there = true ↔ ∃ B', B = key :: B') :
    Calls Tryz.prog 79 #[.pointer (some ⟨p, 0, none⟩), .string key] w fun e w' => e = .returned (.tuple #[.int .i64 (A.length : Nat), .bool there]) ∧ ∃ q, w' = w.drewN q := by
  obtain ⟨g, off, cap, ev, hcap, hc⟩ := h.ks.lit (by simpa [Nd.len] using hp)
  have hlen : d.keys.length = A.length + B.length := by rw [hd]; simp
  have hlt : d.keys.length ≤ 1000000 := hl
  have hp' : 0 < d.keys.length := hp
  rw [List.length_map] at ev hcap
  subst ev
  have HC := strs_at hc
  have BS := Any2.slices_BinarySearch_string Tryz.laysNm226 g off d.keys.length cap (fun t => d.keys.getD t key) key w (by omega) (fun j hj => by rw [HC j hj, getD_at _ _ hj, getD_at _ _ hj])
  have e1 : Lib.bsGo (fun t => Op.bytesLess (d.keys.getD t key).toList key.toList) d.keys.length 0 d.keys.length = A.length := by
    refine bs_spec _ _ _ (by omega) (fun t ht => ?_) fun t ht => ?_
    · rw [getD_at _ _ (by omega)]
      have : d.keys[t]'(by omega) = A[t] := by simp only [hd]; exact List.getElem_append_left ht
      rw [this]; exact hA _ (List.getElem_mem ht)
    · by_cases hx : t < d.keys.length
      · rw [getD_at _ _ hx]
        have : d.keys[t] = B[t - A.length]'(by omega) := by simp only [hd]; exact List.getElem_append_right ht
        rw [this]; exact hB _ (List.getElem_mem _)
      · rw [getD_out _ _ (by omega)]; exact kless_irrefl key
  rw [e1] at BS
  have e2 : (decide (A.length < d.keys.length ∧ d.keys.getD A.length key = key)) = there := by
    cases B with
    | nil =>
      have : there = false := by cases there with | false => rfl | true => obtain ⟨B', e⟩ := hth.1 rfl; cases e
      rw [this, decide_eq_false_iff_not]
      simp at hlen; omega
    | cons b B =>
      have h1 : A.length < d.keys.length := by rw [hlen]; simp
      rw [getD_at _ _ h1]
      have h2 : d.keys[A.length] = b := by simp only [hd]; simp
      rw [h2]
      cases there with
      | true => obtain ⟨B', e⟩ := hth.1 rfl; cases e; simp [h1]
      | false =>
        rw [decide_eq_false_iff_not]
        rintro ⟨-, rfl⟩
        exact absurd (hth.2 ⟨B, rfl⟩) (by simp)
  rw [e2] at BS
  have BS' : Hid (Calls Tryz.prog 122 #[.slice (some ⟨g, off, none⟩) (d.keys.length : Nat) cap, .string key] w fun e w' => e = .returned (.tuple #[.int .i64 (A.length : Nat), .bool there]) ∧ ∃ q, w' = w.drewN q) := Lib.hid BS
  have c1 : w.cell? ⟨p, 1, none⟩ = some (.slice (some ⟨g, off, none⟩) d.keys.length cap) := cell_lit h.blk rfl
  generalize d.keys.length = nn at *
  clear BS e1 e2 HC hc hA hB hd h hth hlen hlt hl hp hp' hcap
  go_enter Tryz.func79, Tryz.ntmps79
  go_wp2_with fail
  refine BS'.out.mono ?_
  rintro e w' ⟨rfl, hq⟩
  have HQ := Lib.hid hq
  clear hq BS' c1
  go_wp2_with fail
  go_ret2
  exact ⟨rfl, HQ.out⟩
end Go.Proofs.YtaibjcjphmhgmaaGreatDoor
