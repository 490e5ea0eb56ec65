/- Parts of the proof of BucketApart, joined: BukR, BukI, BukJ, BukK. No condition. -/
import Derived.Test.YtaibjcjphmhgmaaGreatDoorBk2
set_option linter.unusedSimpArgs false
set_option linter.unusedVariables false
set_option linter.unusedSectionVars false
namespace Go.Proofs.YtaibjcjphmhgmaaGreatDoor
set_option maxRecDepth 100000
open Go.RowKit
/-- An act on a bucket: what, state, name, now, rule. -/
structure BAct where
  what : Int
  st : Int
  nm : ByteArray
  now : Nat
  on : Bool
  pre : ByteArray
  af : Nat
def BAct.cells (a : BAct) : List Value := [.int .i64 a.what, .int .i64 a.st, .string a.nm, .int .u64 a.now, .bool a.on, .string a.pre, .int .u64 a.af]
structure BAct.Fits (a : BAct) : Prop where
  st : -9223372036854775808 ≤ a.st ∧ a.st ≤ 9223372036854775807
  nm : a.nm.size ≤ maxLen
  now : a.now < 18446744073709551616
  pre : a.pre.size ≤ maxLen
  af : a.af < 18446744073709551616
theorem readsC_rule {w : World} {es : List Value} (h : ReadsC w 38 es) : ∃ (on : Bool) (p : ByteArray) (n : Nat), es = [.bool on, .string p, .int .u64 n] ∧ n < 18446744073709551616 ∧ p.size ≤ maxLen := by
  obtain ⟨hl, hf⟩ := readsC_struct Tryz.underlying38 h
  have hl : es.length = 3 := hl.trans (by kernel_rfl)
  have c0 : Tryz.prog.cellsOf 4 = 1 := by kernel_rfl
  have c1 : Tryz.prog.cellsOf 9 = 1 := by kernel_rfl
  have c2 : Tryz.prog.cellsOf 33 = 1 := by kernel_rfl
  match es, hl with
  | [a, b, c], _ =>
    have f0 : ReadsC w 4 (([a, b, c].drop 0).take (Tryz.prog.cellsOf 4)) := hf 0 _ rfl
    have f1 : ReadsC w 9 (([a, b, c].drop 1).take (Tryz.prog.cellsOf 9)) := hf 1 _ rfl
    have f2 : ReadsC w 33 (([a, b, c].drop 2).take (Tryz.prog.cellsOf 33)) := hf 2 _ rfl
    rw [c0] at f0
    rw [c1] at f1
    rw [c2] at f2
    obtain ⟨x, e0⟩ := readsC_bool Tryz.underlying4 f0
    obtain ⟨t, e1, h1⟩ := readsC_string Tryz.underlying9 f1
    obtain ⟨n, e2, h2⟩ := readsC_int Tryz.underlying33 f2
    simp at e0 e1 e2
    subst e0 e1 e2
    have := bounds_u64 h2
    obtain ⟨k, rfl⟩ : ∃ k : Nat, n = k := ⟨n.toNat, by omega⟩
    exact ⟨x, t, k, rfl, by omega, h1⟩
theorem readsC_act {w : World} {es : List Value} (h : ReadsC w 40 es) : ∃ a : BAct, es = a.cells ∧ a.Fits := by
  obtain ⟨hl, hf⟩ := readsC_struct Tryz.underlying40 h
  have hl : es.length = 7 := hl.trans (by kernel_rfl)
  have c0 : Tryz.prog.cellsOf 3 = 1 := by kernel_rfl
  have c1 : Tryz.prog.cellsOf 9 = 1 := by kernel_rfl
  have c2 : Tryz.prog.cellsOf 33 = 1 := by kernel_rfl
  have c3 : Tryz.prog.cellsOf 38 = 3 := by kernel_rfl
  match es, hl with
  | [a, b, c, d, x, y, z], _ =>
    have f0 : ReadsC w 3 (([a, b, c, d, x, y, z].drop 0).take (Tryz.prog.cellsOf 3)) := hf 0 _ rfl
    have f1 : ReadsC w 3 (([a, b, c, d, x, y, z].drop 1).take (Tryz.prog.cellsOf 3)) := hf 1 _ rfl
    have f2 : ReadsC w 9 (([a, b, c, d, x, y, z].drop 2).take (Tryz.prog.cellsOf 9)) := hf 2 _ rfl
    have f3 : ReadsC w 33 (([a, b, c, d, x, y, z].drop 3).take (Tryz.prog.cellsOf 33)) := hf 3 _ rfl
    have f4 : ReadsC w 38 (([a, b, c, d, x, y, z].drop 4).take (Tryz.prog.cellsOf 38)) := hf 4 _ rfl
    rw [c0] at f0 f1
    rw [c1] at f2
    rw [c2] at f3
    rw [c3] at f4
    obtain ⟨n0, e0, h0⟩ := readsC_int Tryz.underlying3 f0
    obtain ⟨n1, e1, h1⟩ := readsC_int Tryz.underlying3 f1
    obtain ⟨t, e2, h2⟩ := readsC_string Tryz.underlying9 f2
    obtain ⟨n3, e3, h3⟩ := readsC_int Tryz.underlying33 f3
    obtain ⟨on, p, n4, e4, h4, h5⟩ := readsC_rule f4
    simp at e0 e1 e2 e3 e4
    obtain ⟨e4, e5, e6⟩ := e4
    subst e0 e1 e2 e3 e4 e5 e6
    have := bounds_u64 h3
    have b1 := bounds_i64 h1
    obtain ⟨k, rfl⟩ : ∃ k : Nat, n3 = k := ⟨n3.toNat, by omega⟩
    exact ⟨⟨n0, n1, t, k, on, p, n4⟩, rfl, by simp only; omega, h2, by simp only; omega, h5, h4⟩
/-- The acts' cells. -/
def ActsAt (w : World) (v : Value) (l : List BAct) : Prop := ∃ a cap, v = .slice a l.length cap ∧ ∀ k, (h : k < l.length) → ∃ b off, a = some ⟨b, off, none⟩ ∧ b < w.heap.size ∧ ∀ j, j < 7 → w.cell? ⟨b, off + k * 7 + j, none⟩ = (l[k].cells)[j]?
theorem reads_acts {w : World} {v : Value} (h : Reads w 22 v) : ∃ l : List BAct, ActsAt w v l ∧ l.length ≤ maxLen ∧ ∀ a ∈ l, a.Fits := by
  have c2 : Tryz.prog.cellsOf 40 = 7 := by kernel_rfl
  obtain ⟨a, len, cap, rfl, hlc, hcm, hel⟩ := reads_slice Tryz.underlying22 (by rw [c2]; decide) h
  rw [c2] at hel
  obtain ⟨l, hl, hp⟩ := choose_list (n := len) (p := fun k (f : BAct) => (∃ b off, a = some ⟨b, off, none⟩ ∧ b < w.heap.size ∧ ∀ j, j < 7 → w.cell? ⟨b, off + k * 7 + j, none⟩ = (f.cells)[j]?) ∧ f.Fits) (fun k hk => by
    obtain ⟨b, off, es, rfl, hes, hb, hc, hr⟩ := hel k hk
    obtain ⟨f, rfl, hf⟩ := readsC_act hr
    exact ⟨f, ⟨b, off, rfl, hb, fun j hj => hc j (by rw [hes]; exact hj)⟩, hf⟩)
  subst hl
  refine ⟨l, ⟨a, cap, rfl, fun k hk => (hp k hk).1⟩, Nat.le_trans hlc hcm, ?_⟩
  intro p hp'
  obtain ⟨k, hk, rfl⟩ := List.mem_iff_getElem.1 hp'
  exact (hp k hk).2
theorem reads_bucket {w : World} {v : Value} (h : Reads w 46 v) : ∃ (nm : ByteArray) (st : Int) (born : Nat) (on : Bool) (pre : ByteArray) (af : Nat), v = .agg #[.string nm, .int .i64 st, .int .u64 born, .bool on, .string pre, .int .u64 af] ∧ nm.size ≤ maxLen ∧ (-9223372036854775808 ≤ st ∧ st ≤ 9223372036854775807) ∧ born < 18446744073709551616 ∧ pre.size ≤ maxLen ∧ af < 18446744073709551616 := by
  obtain ⟨cs, rfl, hs, hr⟩ := reads_struct Tryz.underlying46 h
  obtain ⟨hl, hf⟩ := readsC_struct Tryz.underlying46 hr
  have hl : cs.toList.length = 6 := hl.trans (by kernel_rfl)
  have c0 : Tryz.prog.cellsOf 3 = 1 := by kernel_rfl
  have c1 : Tryz.prog.cellsOf 9 = 1 := by kernel_rfl
  have c2 : Tryz.prog.cellsOf 33 = 1 := by kernel_rfl
  have c3 : Tryz.prog.cellsOf 38 = 3 := by kernel_rfl
  obtain ⟨es, hes⟩ : ∃ es, cs.toList = es := ⟨_, rfl⟩
  rw [hes] at hl hf
  match es, hl, hes with
  | [b, c, d, x, y, z], _, hes =>
    have f1 : ReadsC w 9 (([b, c, d, x, y, z].drop 0).take (Tryz.prog.cellsOf 9)) := hf 0 _ rfl
    have f2 : ReadsC w 3 (([b, c, d, x, y, z].drop 1).take (Tryz.prog.cellsOf 3)) := hf 1 _ rfl
    have f3 : ReadsC w 33 (([b, c, d, x, y, z].drop 2).take (Tryz.prog.cellsOf 33)) := hf 2 _ rfl
    have f4 : ReadsC w 38 (([b, c, d, x, y, z].drop 3).take (Tryz.prog.cellsOf 38)) := hf 3 _ rfl
    rw [c1] at f1
    rw [c0] at f2
    rw [c2] at f3
    rw [c3] at f4
    obtain ⟨t, e1, h1⟩ := readsC_string Tryz.underlying9 f1
    obtain ⟨n2, e2, h2⟩ := readsC_int Tryz.underlying3 f2
    obtain ⟨n3, e3, h3⟩ := readsC_int Tryz.underlying33 f3
    obtain ⟨on, p, n4, e4, h4, h5⟩ := readsC_rule f4
    simp at e1 e2 e3 e4
    obtain ⟨e4, e5, e6⟩ := e4
    subst e1 e2 e3 e4 e5 e6
    have := bounds_u64 h3
    have b1 := bounds_i64 h2
    obtain ⟨k, rfl⟩ : ∃ k : Nat, n3 = k := ⟨n3.toNat, by omega⟩
    refine ⟨t, n2, k, on, p, n4, ?_, h1, by omega, by omega, h5, h4⟩
    congr 1
    apply Array.ext'
    rw [hes]
end Go.Proofs.YtaibjcjphmhgmaaGreatDoor
namespace Go.Proofs.YtaibjcjphmhgmaaGreatDoor
set_option linter.unusedVariables false
set_option maxRecDepth 100000
set_option maxHeartbeats 4000000
open Go.RowKit
/-- A bucket, and no other one of its name. -/
def Only (B : List Bk) (b : Bk) : Prop := b ∈ B ∧ ∀ x ∈ B, x.nm = b.nm → x = b
theorem Only.at {B : List Bk} {b : Bk} (h : Only B b) : bAt B b.nm = some b := by
  cases hf : bAt B b.nm with
  | none => exact absurd rfl (bAt_none hf b h.1)
  | some x =>
    obtain ⟨h1, h2⟩ := bAt_some hf
    rw [h.2 x h1 h2]
theorem Only.put {B B' : List Bk} {b x : Bk} (h : Only B b) (hx : PutB x B B') (hn : x.nm ≠ b.nm) : Only B' b := by
  refine ⟨hx.other h.1 fun e => hn e.symm, fun y hy e => ?_⟩
  obtain ⟨A, C, rfl, h', -, -⟩ := hx
  simp only [List.mem_append, List.mem_cons] at hy
  rcases hy with hy | rfl | hy
  · refine h.2 y ?_ e
    rcases h' with rfl | ⟨b0, -, rfl⟩ <;> simp [hy]
  · exact absurd e hn
  · refine h.2 y ?_ e
    rcases h' with rfl | ⟨b0, -, rfl⟩ <;> simp [hy]
theorem Only.del {B B' : List Bk} {b : Bk} {s : ByteArray} (h : Only B b) (hx : DelB s B B') (hn : s ≠ b.nm) : Only B' b := by
  refine ⟨hx.other h.1 fun e => hn e.symm, fun y hy e => ?_⟩
  obtain ⟨A, C, b0, h0, rfl, rfl⟩ := hx
  refine h.2 y ?_ e
  simp only [List.mem_append, List.mem_cons] at hy ⊢
  exact hy.imp id .inr
/-- What the law keeps. -/
def ApS (w0 w : World) (rb i : Nat) (b : Bk) : Prop := ∃ B, BSt w0 w (fun _ => False) rb 30000 (i + 1) B ∧ Only B b
theorem ApS.put {w0 w w' : World} {rb i : Nat} {b : Bk} {B : List Bk} {o : Option Bk} (h : BEnd w0 w (fun _ => False) rb 30000 (i + 1) B w' o) (hO : Only B b) (hn : ∀ x, o = some x → x.nm ≠ b.nm) : ApS w0 w' rb (i + 1) b := by
  obtain ⟨B', ⟨g1, -⟩, g2⟩ := h
  refine ⟨B', g1, ?_⟩
  cases o with
  | none => have : B' = B := g2; rw [this]; exact hO
  | some x => exact hO.put g2 (hn x rfl)
theorem mkR_nm {B : List Bk} {s : ByteArray} {now : Nat} {x : Bk} (h : (mkR B s now).2 = some x) : x.nm = s := by
  unfold mkR at h
  split at h
  · cases h; rfl
  · split at h <;> cases h
theorem stR_nm {B : List Bk} {s : ByteArray} {st : Int} {x : Bk} (h : (stR B s st).2 = some x) : x.nm = s := by
  unfold stR at h
  split at h
  · cases h
  · split at h
    · rename_i b hb
      split at h
      · cases h; exact (bAt_some hb).2
      · cases h
    · cases h
theorem srR_nm {B : List Bk} {s pre : ByteArray} {on : Bool} {af : Nat} {x : Bk} (h : (srR B s on pre af).2 = some x) : x.nm = s := by
  unfold srR at h
  split at h
  · cases h
  · split at h
    · rename_i b hb
      split at h
      · cases h; exact (bAt_some hb).2
      · cases h
    · cases h
section
variable {w0 W : World} {rb i : Nat} {b : Bk}
theorem ap_make (s : ByteArray) (now : Nat) (h : Hid (ApS w0 W rb i b)) (hi : i ≤ 30) (hs : s.size ≤ 100) (hn : s ≠ b.nm) (hnow : now < 18446744073709551616) :
    Calls Tryz.prog 13 #[.pointer (some ⟨rb, 0, none⟩), .string s, .int .u64 (now : Int)] W fun e w' => ∃ E : Int, e = .returned (.int .i64 E) ∧ Hid (ApS w0 w' rb (i + 1) b) := by
  obtain ⟨B, h1, h2⟩ := h.out
  refine (Make_c w0 W (fun _ => False) rb 30000 (i + 1) B s now h1 (by omega) (by omega) hnow).mono ?_
  rintro e w' ⟨rfl, hE⟩
  exact ⟨_, rfl, ApS.put hE.out h2 fun x hx => by rw [mkR_nm hx]; exact hn⟩
theorem ap_state (s : ByteArray) (st : Int) (h : Hid (ApS w0 W rb i b)) (hi : i ≤ 30) (hs : s.size ≤ 100) (hn : s ≠ b.nm) :
    Calls Tryz.prog 18 #[.pointer (some ⟨rb, 0, none⟩), .string s, .int .i64 st] W fun e w' => ∃ E : Int, e = .returned (.int .i64 E) ∧ Hid (ApS w0 w' rb (i + 1) b) := by
  obtain ⟨B, h1, h2⟩ := h.out
  refine (SetState_c w0 W (fun _ => False) rb 30000 (i + 1) B s st h1 (by omega) (by omega)).mono ?_
  rintro e w' ⟨rfl, hE⟩
  exact ⟨_, rfl, ApS.put hE.out h2 fun x hx => by rw [stR_nm hx]; exact hn⟩
theorem ap_rule (s pre : ByteArray) (on : Bool) (af : Nat) (h : Hid (ApS w0 W rb i b)) (hi : i ≤ 30) (hs : s.size ≤ 100) (hn : s ≠ b.nm) (haf : af < 18446744073709551616) :
    Calls Tryz.prog 20 #[.pointer (some ⟨rb, 0, none⟩), .string s, .agg #[.bool on, .string pre, .int .u64 (af : Int)]] W fun e w' => ∃ E : Int, e = .returned (.int .i64 E) ∧ Hid (ApS w0 w' rb (i + 1) b) := by
  obtain ⟨B, h1, h2⟩ := h.out
  refine (SetRule_c w0 W (fun _ => False) rb 30000 (i + 1) B s on pre af h1 (by omega) (by omega) haf).mono ?_
  rintro e w' ⟨rfl, hE⟩
  exact ⟨_, rfl, ApS.put hE.out h2 fun x hx => by rw [srR_nm hx]; exact hn⟩
theorem ap_drop (s : ByteArray) (h : Hid (ApS w0 W rb i b)) (hi : i ≤ 30) (hs : s.size ≤ 100) (hn : s ≠ b.nm) :
    Calls Tryz.prog 22 #[.pointer (some ⟨rb, 0, none⟩), .string s] W fun e w' => ∃ E : Int, e = .returned (.int .i64 E) ∧ Hid (ApS w0 w' rb (i + 1) b) := by
  obtain ⟨B, h1, h2⟩ := h.out
  refine (Drop_c w0 W (fun _ => False) rb 30000 (i + 1) B s h1 (by omega) (by omega)).mono ?_
  rintro e w' ⟨rfl, hE⟩
  obtain ⟨B', ⟨g1, -⟩, g2⟩ := hE.out
  refine ⟨_, rfl, ⟨B', g1, ?_⟩⟩
  rcases g2 with ⟨-, g2⟩ | ⟨-, rfl⟩
  · exact h2.del g2 hn
  · exact h2
theorem ApS.more {W' : World} (h : ApS w0 W rb i b) (hb : Below W.heap.size W W') : ApS w0 W' rb (i + 1) b := by
  obtain ⟨B, h1, h2⟩ := h
  exact ⟨B, (h1.below hb).more (by omega), h2⟩
theorem ApS.below {W' : World} (h : ApS w0 W rb i b) (hb : Below W.heap.size W W') : ApS w0 W' rb i b := by
  obtain ⟨B, h1, h2⟩ := h
  exact ⟨B, h1.below hb, h2⟩
theorem ApS.bel (h : ApS w0 W rb i b) : Below w0.heap.size w0 W := by
  obtain ⟨B, h1, h2⟩ := h
  exact h1.bel
theorem ap_find (h : Hid (ApS w0 W rb i b)) (hi : i ≤ 60) (hs : b.nm.size ≤ 100) (hn : bktB b.nm.data.toList = true) :
    Calls Tryz.prog 15 #[.pointer (some ⟨rb, 0, none⟩), .string b.nm] W fun e w' => e = .returned (.tuple #[.agg #[.string b.nm, .int .i64 (b.st : Int), .int .u64 (b.born : Int), .bool b.on, .string b.pre, .int .u64 (b.af : Int)], .int .i64 0]) ∧ Hid (ApS w0 w' rb i b) := by
  obtain ⟨B, h1, h2⟩ := h.out
  refine (find_ok w0 W (fun _ => False) rb 30000 (i + 1) B b.nm h1 (by omega) (by omega) b hn h2.at).mono ?_
  rintro e w' ⟨rfl, hE⟩
  exact ⟨rfl, ⟨B, hE.out.1, h2⟩⟩
end
end Go.Proofs.YtaibjcjphmhgmaaGreatDoor
namespace Go.Proofs.YtaibjcjphmhgmaaGreatDoor
set_option linter.unusedVariables false
set_option maxRecDepth 100000
set_option maxHeartbeats 4000000
open Go.RowKit
section
variable (a : Option Addr) (cap : Nat) (nm : ByteArray) (st : Int) (born : Nat) (on : Bool) (pre : ByteArray) (af : Nat) (w : World) (l : List BAct)
/-- .. where the sizes are out of the law's bounds. -/
theorem apart_out (h : 30 < l.length ∨ 100 < nm.size ∨ 100 < pre.size) :
    Calls Tryz.prog 4 #[.slice a l.length cap, .agg #[.string nm, .int .i64 st, .int .u64 (born : Int), .bool on, .string pre, .int .u64 (af : Int)]] w fun e w' => e = .returned (.bool true) ∧ Hid (Below w.heap.size w w') := by
  have AW := awake14_c
  obtain ⟨w0, hw0⟩ : ∃ w0, w.alloc (.cells #[.string nm, .int .i64 st, .int .u64 (born : Int), .bool on, .string pre, .int .u64 (af : Int)] 46) = w0 := ⟨_, rfl⟩
  have fin : ∀ w1, Below w0.heap.size w0 w1 → w1.cell? ⟨w.heap.size, 0, none⟩ = some (.string nm) ∧ w1.cell? ⟨w.heap.size, 4, none⟩ = some (.string pre) ∧ Hid (Below w.heap.size w w1) := fun w1 hb => by
    subst hw0
    have e := (hb.block w.heap.size (by simp)).trans (heap_alloc_new w _)
    exact ⟨cell_lit e rfl, cell_lit e rfl, Lib.hid ((below_alloc w _).trans (hb.mono (by simp)))⟩
  by_cases q1 : 30 < l.length
  · have q1' : (30 : Int) < (l.length : Int) := by omega
    clear h
    go_enter Tryz.func4, Tryz.ntmps4
    go_wp2_with fail
    refine (AW _).mono ?_
    rintro e w1 ⟨rfl, hb⟩
    obtain ⟨k0, k4, HB⟩ := fin w1 hb.out
    go_wp2_with fail
    go_ret
    exact ⟨rfl, HB⟩
  have q1' : ¬ (30 : Int) < (l.length : Int) := by omega
  by_cases q2 : 100 < nm.size
  · have q2' : (100 : Int) < (nm.size : Int) := by omega
    clear h
    go_enter Tryz.func4, Tryz.ntmps4
    go_wp2_with fail
    refine (AW _).mono ?_
    rintro e w1 ⟨rfl, hb⟩
    obtain ⟨k0, k4, HB⟩ := fin w1 hb.out
    go_wp2_with fail
    go_ret
    exact ⟨rfl, HB⟩
  have q2' : ¬ (100 : Int) < (nm.size : Int) := by omega
  · have q3' : (100 : Int) < (pre.size : Int) := by omega
    clear h
    go_enter Tryz.func4, Tryz.ntmps4
    go_wp2_with fail
    refine (AW _).mono ?_
    rintro e w1 ⟨rfl, hb⟩
    obtain ⟨k0, k4, HB⟩ := fin w1 hb.out
    go_wp2_with fail
    go_ret
    exact ⟨rfl, HB⟩
/-- .. within them. -/
theorem apart_in (hl : l.length ≤ 30) (hs : nm.size ≤ 100) (hp : pre.size ≤ 100) (hbo : born < 18446744073709551616) (haf : af < 18446744073709551616) (hF : ∀ x ∈ l, x.Fits)
    (hcell : ∀ k, (h : k < l.length) → ∃ b off, a = some ⟨b, off, none⟩ ∧ b < w.heap.size ∧ ∀ j, j < 7 → w.cell? ⟨b, off + k * 7 + j, none⟩ = (l[k].cells)[j]?) :
    Calls Tryz.prog 4 #[.slice a l.length cap, .agg #[.string nm, .int .i64 st, .int .u64 (born : Int), .bool on, .string pre, .int .u64 (af : Int)]] w fun e w' => e = .returned (.bool true) ∧ Hid (Below w.heap.size w w') := by
  have AW := awake14_c
  have WD := fun w => Wide_c 30000 w (by decide) (by decide)
  rw [show ((30000 : Nat) : Int) = 30000 from rfl] at WD
  have BE := Begin_c
  obtain ⟨w0, hw0⟩ : ∃ w0, w.alloc (.cells #[.string nm, .int .i64 st, .int .u64 (born : Int), .bool on, .string pre, .int .u64 (af : Int)] 46) = w0 := ⟨_, rfl⟩
  have fin : Hid (∀ w1, Below w0.heap.size w0 w1 → w1.heap[w.heap.size]? = some (.cells #[.string nm, .int .i64 st, .int .u64 (born : Int), .bool on, .string pre, .int .u64 (af : Int)] 46 (0, 0)) ∧ Below w.heap.size w w1) := Lib.hid fun w1 hb => by
    subst hw0
    exact ⟨(hb.block w.heap.size (by simp)).trans (heap_alloc_new w _), (below_alloc w _).trans (hb.mono (by simp))⟩
  have q1' : ¬ (30 : Int) < (l.length : Int) := by omega
  have q2' : ¬ (100 : Int) < (nm.size : Int) := by omega
  have q3' : ¬ (100 : Int) < (pre.size : Int) := by omega
  have HL := Lib.hid hl
  have HS := Lib.hid hs
  have HBO := Lib.hid hbo
  have HAF := Lib.hid haf
  have HF := Lib.hid hF
  have HC := Lib.hid hcell
  clear hl hs hp hbo haf hF hcell
  go_enter Tryz.func4, Tryz.ntmps4
  go_wp2_with fail
  refine (AW _).mono ?_
  rintro e w1 ⟨rfl, hb⟩
  obtain ⟨k0, k1, k2, k3, k4, k5⟩ := cells6 (fin.out w1 hb.out).1
  go_wp2_with fail
  refine (WD _).mono ?_
  rintro e wb ⟨db, lb, FL, rfl, H1⟩
  go_wp2_with fail
  refine (BE lb wb).mono ?_
  rintro e wc ⟨rfl, H2⟩
  have OF := Of_c _ lb 30000 FL _ [] wc (chg_new H1.out H2.out) (by decide)
  go_wp2_with fail
  refine OF.mono ?_
  rintro e wd ⟨rb, G, rfl, H3⟩
  have B0 := Lib.hid (BSt.start (NewRoom.of hb.out H1.out H2.out H3.out) (by decide) (by decide))
  clear OF H1 H2 H3 k0 k1 k2 k3 k4 k5 hb WD BE AW
  obtain ⟨k0, k1, k2, k3, k4, k5⟩ := cells6 (fin.out wd B0.out.bel).1
  have RS := Restore_c w0 wd (fun _ => False) rb 30000 0 [] nm st born on pre af B0.out (by decide) (by have := HS.out; omega) HBO.out HAF.out
  have hR : ((∃ E : Nat, (E = 28 ∨ E = 30) ∧ rsR [] nm st born on pre af = (E, none))) ∨ (rsR [] nm st born on pre af = (0, some ⟨nm, st.toNat, born, on, af, pre⟩) ∧ 0 ≤ st ∧ st ≤ 2 ∧ bktB nm.data.toList = true ∧ rightB on pre af = true) := by
    unfold rsR
    split
    · exact .inl ⟨28, .inl rfl, rfl⟩
    · rename_i h28
      split
      · rename_i h
        refine .inr ⟨rfl, h.1, h.2.1, ?_, h.2.2⟩
        rcases errB_cases [] nm with ⟨x, y⟩ | ⟨x, y, z⟩ | ⟨x, y, z⟩
        · exact absurd x h28
        · exact y
        · exact y
      · exact .inl ⟨30, .inr rfl, rfl⟩
  clear B0
  rcases hR with ⟨E, hE, hR⟩ | ⟨hR, st0, st2, hnm, hri⟩
  · rw [hR] at RS
    have hE0 : ((E : Int) != 0) = true := by rcases hE with rfl | rfl <;> rfl
    have hE1 : ((E : Int) == 0) = false := by rcases hE with rfl | rfl <;> rfl
    simp only at RS
    generalize (E : Int) = E' at *
    clear hR hE
    go_wp2_with fail
    refine RS.mono ?_
    rintro e w5 ⟨rfl, hE⟩
    have HB : Hid (Below w.heap.size w w5) := Lib.hid (by
      obtain ⟨B', ⟨g1, -⟩, -⟩ := hE.out
      exact (fin.out w5 g1.bel).2)
    clear RS
    go_wp2_with fail
    go_ret
    exact ⟨rfl, HB⟩
  · rw [hR] at RS
    simp only at RS
    rw [show ((0 : Nat) : Int) = 0 from rfl] at RS
    obtain ⟨b0, hb0⟩ : ∃ b0 : Bk, b0 = ⟨nm, st.toNat, born, on, af, pre⟩ := ⟨_, rfl⟩
    rw [← hb0] at RS
    have FI : Hid (b0.nm = nm ∧ bktB b0.nm.data.toList = true ∧ ∀ i W, i ≤ 60 → Hid (ApS w0 W rb i b0) → Calls Tryz.prog 15 #[.pointer (some ⟨rb, 0, none⟩), .string nm] W fun e w' => e = .returned (.tuple #[.agg #[.string nm, .int .i64 st, .int .u64 (born : Int), .bool on, .string pre, .int .u64 (af : Int)], .int .i64 0]) ∧ Hid (ApS w0 w' rb i b0)) := Lib.hid (by
      subst hb0
      refine ⟨rfl, hnm, fun i W hi hW => ?_⟩
      have := ap_find hW hi HS.out hnm
      simp only at this
      rw [show ((st.toNat : Nat) : Int) = st by omega] at this
      exact this)
    clear hR hb0 hri hnm st0 st2
    go_wp2_with fail
    refine RS.mono ?_
    rintro e w5 ⟨rfl, hE⟩
    have S0 : Hid (ApS w0 w5 rb 0 b0) := Lib.hid (by
      obtain ⟨B', ⟨g1, -⟩, g2⟩ := hE.out
      have : B' = [b0] := putB_nil g2
      subst this
      exact ⟨_, g1, by simp, fun x hx _ => by simpa using hx⟩)
    clear RS hE k0 k1 k2 k3 k4 k5
    go_wp2_with fail
    go_loopg [9, 43] l.length (fun g s9 s43 wr => ∃ i : Nat, g = l.length - i ∧ i ≤ l.length ∧ s43 = .int .i64 (i : Int) ∧ Hid (ApS w0 wr rb i b0))
    case atStart => exact ⟨0, rfl, Nat.zero_le _, rfl, S0⟩
    case round =>
      obtain ⟨i, rfl, hi, rfl, HA⟩ := hrel
      clear S0
      obtain ⟨k0, k1, k2, k3, k4, k5⟩ := cells6 (fin.out wr HA.out.bel).1
      by_cases hlt : i < l.length
      · obtain ⟨bb, off, rfl, hbb, hc⟩ := HC.out i hlt
        have hfit := HF.out l[i] (List.getElem_mem hlt)
        have HLT := Lib.hid hlt
        have hi30 : i ≤ 30 := by have := HL.out; omega
        generalize l[i] = x at hc hfit
        obtain ⟨what, st', nm', now, on', pre', af'⟩ := x
        have hbel := (fin.out wr HA.out.bel).2
        have D : ∀ j v, j < 7 → (BAct.cells ⟨what, st', nm', now, on', pre', af'⟩)[j]? = some v → wr.cell? ⟨bb, off + i * 7 + j, none⟩ = some v := fun j v hj hv => (hbel.cell (p := ⟨bb, off + i * 7 + j, none⟩) hbb).trans ((hc j hj).trans hv)
        have d0 : wr.cell? ⟨bb, off + i * 7, none⟩ = some (.int .i64 what) := D 0 _ (by decide) rfl
        have d1 : wr.cell? ⟨bb, off + i * 7 + 1, none⟩ = some (.int .i64 st') := D 1 _ (by decide) rfl
        have d2 : wr.cell? ⟨bb, off + i * 7 + 2, none⟩ = some (.string nm') := D 2 _ (by decide) rfl
        have d3 : wr.cell? ⟨bb, off + i * 7 + 3, none⟩ = some (.int .u64 (now : Int)) := D 3 _ (by decide) rfl
        have d4 : wr.cell? ⟨bb, off + i * 7 + 4, none⟩ = some (.bool on') := D 4 _ (by decide) rfl
        have d5 : wr.cell? ⟨bb, off + i * 7 + 5, none⟩ = some (.string pre') := D 5 _ (by decide) rfl
        have d6 : wr.cell? ⟨bb, off + i * 7 + 6, none⟩ = some (.int .u64 (af' : Int)) := D 6 _ (by decide) rfl
        have hlx : w.heap.size < wr.heap.size := lt_of_heap (fin.out wr HA.out.bel).1
        have hlb : bb < wr.heap.size := Nat.lt_of_lt_of_le hbb hbel.size
        have hltI : (i : Int) < (l.length : Int) := by omega
        clear D hc hbel k1 k2 k3 k4 k5
        by_cases p1 : 100 < nm'.size
        · have p1' : (100 : Int) < (nm'.size : Int) := by omega
          clear p1 hlt
          go_wp2_with fail
          go_ret
          exact ⟨rfl, Lib.hid ((fin.out _ ((HA.out.below (below_alloc _ _)).bel)).2)⟩
        have p1' : ¬ (100 : Int) < (nm'.size : Int) := by omega
        by_cases p2 : 100 < pre'.size
        · have p2' : (100 : Int) < (pre'.size : Int) := by omega
          clear p1 p2 hlt
          go_wp2_with fail
          go_ret
          exact ⟨rfl, Lib.hid ((fin.out _ ((HA.out.below (below_alloc _ _)).bel)).2)⟩
        have p2' : ¬ (100 : Int) < (pre'.size : Int) := by omega
        by_cases p3 : nm' = nm
        · have p3' : nm'.toList = nm.toList := by rw [p3]
          clear p1 p2 hlt
          go_wp2_with fail
          go_roundg (l.length - (i + 1))
          case measure => have := HLT.out; omega
          case rel => exact ⟨i + 1, rfl, HLT.out, by congr 1, Lib.hid (HA.out.more (below_alloc _ _))⟩
        have p4 : ¬ nm'.toList = nm.toList := fun e => p3 (by
          rw [Lib.toList_data, Lib.toList_data] at e
          exact ByteArray.ext (Array.toList_inj.1 e))
        have p3' : (nm'.toList == nm.toList) = false := by simpa using p4
        have HN : Hid (nm'.size ≤ 100 ∧ nm' ≠ b0.nm ∧ now < 18446744073709551616 ∧ af' < 18446744073709551616) := Lib.hid ⟨by omega, by rw [FI.out.1]; exact p3, hfit.now, hfit.af⟩
        clear p1 p2 hlt p3 hfit p4
        by_cases e0 : what = 0
        · subst e0
          have CT := fun W (h : Hid (ApS w0 W rb i b0)) => ap_make nm' now h hi30 HN.out.1 HN.out.2.1 HN.out.2.2.1
          clear HN
          go_wp2_with fail
          refine (CT _ (HA.out.below (below_alloc _ _))).mono ?_
          rintro e w7 ⟨E, rfl, H7⟩
          clear CT
          go_wp2_with fail
          go_roundg (l.length - (i + 1))
          case measure => have := HLT.out; omega
          case rel => exact ⟨i + 1, rfl, HLT.out, by congr 1, H7⟩
        by_cases e2 : what = 2
        · subst e2
          have CT := fun W (h : Hid (ApS w0 W rb i b0)) => ap_state nm' st' h hi30 HN.out.1 HN.out.2.1
          clear HN
          go_wp2_with fail
          refine (CT _ (HA.out.below (below_alloc _ _))).mono ?_
          rintro e w7 ⟨E, rfl, H7⟩
          clear CT
          go_wp2_with fail
          go_roundg (l.length - (i + 1))
          case measure => have := HLT.out; omega
          case rel => exact ⟨i + 1, rfl, HLT.out, by congr 1, H7⟩
        by_cases e3 : what = 3
        · subst e3
          have CT := fun W (h : Hid (ApS w0 W rb i b0)) => ap_rule nm' pre' on' af' h hi30 HN.out.1 HN.out.2.1 HN.out.2.2.2
          clear HN
          go_wp2_with fail
          refine (CT _ (HA.out.below (below_alloc _ _))).mono ?_
          rintro e w7 ⟨E, rfl, H7⟩
          clear CT
          go_wp2_with fail
          go_roundg (l.length - (i + 1))
          case measure => have := HLT.out; omega
          case rel => exact ⟨i + 1, rfl, HLT.out, by congr 1, H7⟩
        by_cases e4 : what = 4
        · subst e4
          have CT := fun W (h : Hid (ApS w0 W rb i b0)) => ap_drop nm' h hi30 HN.out.1 HN.out.2.1
          clear HN
          go_wp2_with fail
          refine (CT _ (HA.out.below (below_alloc _ _))).mono ?_
          rintro e w7 ⟨E, rfl, H7⟩
          clear CT
          go_wp2_with fail
          go_roundg (l.length - (i + 1))
          case measure => have := HLT.out; omega
          case rel => exact ⟨i + 1, rfl, HLT.out, by congr 1, H7⟩
        have f0 : (what == 0) = false := by simp [e0]
        have f2 : (what == 2) = false := by simp [e2]
        have f3 : (what == 3) = false := by simp [e3]
        have f4 : (what == 4) = false := by simp [e4]
        go_wp2_with fail
        go_roundg (l.length - (i + 1))
        case measure => have := HLT.out; omega
        case rel => exact ⟨i + 1, rfl, HLT.out, by congr 1, Lib.hid (HA.out.more (below_alloc _ _))⟩
      · obtain rfl : i = l.length := by omega
        have FI2 := FI.out.2.2 l.length wr (by have := HL.out; omega) HA
        clear hlt hi
        go_wp2_with fail
        refine FI2.mono ?_
        rintro e w6 ⟨rfl, H6⟩
        obtain ⟨x0, x1, x2, x3, x4, x5⟩ := cells6 (fin.out w6 H6.out.bel).1
        have hlx : w.heap.size < w6.heap.size := lt_of_heap (fin.out w6 H6.out.bel).1
        have HB : Hid (∀ w', Below w6.heap.size w6 w' → Below w.heap.size w w') := Lib.hid fun w' hb => (fin.out w' ((H6.out.below hb).bel)).2
        clear FI2 k0 k1 k2 k3 k4 k5
        go_wp2_with fail
        go_ret
        exact ⟨rfl, Lib.hid (HB.out _ (below_alloc _ _))⟩
end
end Go.Proofs.YtaibjcjphmhgmaaGreatDoor
namespace Go.Proofs.YtaibjcjphmhgmaaGreatDoor
set_option maxRecDepth 100000
open Go.RowKit
theorem BucketApart_w (v0 v1 : Value) (w : World) (g0 : Reads w 22 v0) (g1 : Reads w 46 v1) : Calls Tryz.prog 4 #[v0, v1] w fun e w' => e = .returned (.bool true) ∧ Below w.heap.size w w' := by
  obtain ⟨l, hl, -, hF⟩ := reads_acts g0
  obtain ⟨nm, st, born, on, pre, af, rfl, h1, h2, h3, h4, h5⟩ := reads_bucket g1
  obtain ⟨a, cap, rfl, hcell⟩ := hl
  by_cases h : 30 < l.length ∨ 100 < nm.size ∨ 100 < pre.size
  · exact (apart_out a cap nm st born on pre af w l h).mono fun e w' h => ⟨h.1, h.2.out⟩
  · exact (apart_in a cap nm st born on pre af w l (by omega) (by omega) (by omega) h3 h5 hF hcell).mono fun e w' h => ⟨h.1, h.2.out⟩
end Go.Proofs.YtaibjcjphmhgmaaGreatDoor
