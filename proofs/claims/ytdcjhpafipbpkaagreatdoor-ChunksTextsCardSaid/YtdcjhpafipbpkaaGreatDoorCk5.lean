/- Parts of the proof of ChunksSums, joined: TreeN, TreeR, TreeO, TreeS, ChkA, ChkB, PackLk, PackBk, PackCk. No condition. -/
import Derived.Test.YtdcjhpafipbpkaaGreatDoorCk4
import Derived.LoopN
import Derived.Laws.BitsAllLaws
import Derived.BigQuiet
import Derived.Deep.QuietTactic
import Derived.Lib.SlTrimSet
import Derived.Lib.Strings
import Derived.Shelf.Strings.SlTrimAscii
set_option linter.unusedSimpArgs false
set_option linter.unusedVariables false
set_option linter.unusedSectionVars false
namespace Go.Proofs.YtdcjhpafipbpkaaGreatDoor
set_option linter.unusedVariables false
set_option maxRecDepth 100000
set_option maxHeartbeats 1000000
open Go.RowKit
theorem RRow.yields {w : World} {v : Value} {xs : List Value} (h : RRow w v xs) : Yields w v xs.length xs := by
  rcases h with ⟨rfl, rfl⟩ | ⟨g, off, cap, rfl, hn, hc⟩
  · exact ⟨none, 0, rfl, fun _ => rfl, fun a e => by cases e⟩
  · refine ⟨some ⟨g, off, none⟩, cap, rfl, (fun e => by cases e), fun a e j u hj => ?_⟩
    cases e
    rw [Addr.add_lit]
    obtain ⟨h1, h2⟩ := List.getElem?_eq_some_iff.1 hj
    rw [hc j h1, h2]
/-- Another node, read. -/
structure Oth (w : World) (q : Nat) (leaf : Bool) (K V : List ByteArray) (C : List Nat) (vk vv vi : Value) : Prop where
  blk : w.heap[q]? = some (.cells #[.bool leaf, vk, vv, vi] 222 (0, 0))
  ks : RRow w vk (K.map Value.string)
  vs : RRow w vv (V.map Value.string)
  is : RRow w vi (C.map encN)
theorem NdV.oth {w : World} {q : Nat} {d : Nd} {vk vv vi : Value} (h : NdV w q d vk vv vi) : Oth w q d.isLeaf d.keys d.vals d.kids vk vv vi := ⟨h.blk, h.ks, h.vs, h.is⟩
theorem Oth.upd {w W : World} {q : Nat} {leaf : Bool} {K V : List ByteArray} {C : List Nat} {vk vv vi : Value} {F : Nat → Prop} (h : Oth w q leaf K V C vk vv vi) (hu : Upd F w W) (hn : ∀ k, NdF q vk vv vi k → k < w.heap.size ∧ ¬ F k) : Oth W q leaf K V C vk vv vi := by
  have hk : ∀ k, NdF q vk vv vi k → W.heap[k]? = w.heap[k]? := fun k e => hu.block k (hn k e).1 (hn k e).2
  exact ⟨(hk q (.inl rfl)).trans h.blk, h.ks.kept fun k e => hk k (.inr (.inl e)), h.vs.kept fun k e => hk k (.inr (.inr (.inl e))), h.is.kept fun k e => hk k (.inr (.inr (.inr e)))⟩
theorem Oth.cells {w : World} {q : Nat} {leaf : Bool} {K V : List ByteArray} {C : List Nat} {vk vv vi : Value} (h : Oth w q leaf K V C vk vv vi) : w.cell? ⟨q, 1, none⟩ = some vk ∧ w.cell? ⟨q, 2, none⟩ = some vv ∧ w.cell? ⟨q, 3, none⟩ = some vi ∧ q < w.heap.size :=
  ⟨cell_lit h.blk rfl, cell_lit h.blk rfl, cell_lit h.blk rfl, lt_of_heap h.blk⟩
theorem grown_upd {w w' : World} {v : Value} (h : w.grownBy w' v.ownBlock) : Upd (fun k => v.ownBlock = some k) w w' := (Upd.refl _ _).grown h fun k e => .inl e
theorem strs_bound {n m : Nat} (h : n ≤ 90000) (h2 : m ≤ 90000) : n + m ≤ maxLen ∧ (n + m) * 16 ≤ 140737488355328 ∧ (n + m) * 8 ≤ 140737488355328 := by unfold maxLen; omega
theorem clone_s {w : World} {v : Value} {K : List ByteArray} (h : RRow w v (K.map Value.string)) (hp : 0 < K.length) (hl : K.length ≤ 90000) :
    Calls Tryz.prog 215 #[v] w fun e w' => ∃ g cap, e = .returned (.slice (some ⟨g, 0, none⟩) K.length cap) ∧ Hid (w'.ownsRow w.heap.size 9 1 (.slice (some ⟨g, 0, none⟩) K.length cap) K.length (K.map Value.string) ∧ Below w.heap.size w w') := by
  obtain ⟨g, off, cap, rfl, hcap, hc⟩ := h.lit (by simpa using hp)
  have hs := strs_at hc
  rw [List.length_map]
  refine (Tryz.slices_Clone_string g off K.length cap K w (Nat.le_refl _) (by omega) hs).mono ?_
  rintro e w' ⟨v', rfl, ho, hne, hb⟩
  rw [List.take_length] at ho
  rcases ho.2 with ⟨rfl, -⟩ | ⟨g', cap', cur, rfl, -⟩
  · exact absurd rfl hne
  · exact ⟨g', cap', rfl, ho, hb⟩
theorem own_new {w : World} {v v' : Value} (h : v'.ownBlock = v.ownBlock ∨ v'.ownBlock = some w.heap.size) : ∀ k, v'.ownBlock = some k → v.ownBlock = some k ∨ w.heap.size ≤ k := by
  intro k hk
  rcases h with e | e
  · exact .inl (by rw [← e]; exact hk)
  · rw [e] at hk; cases hk; exact .inr (Nat.le_refl _)
theorem join_c (p q : Nat) (leaf : Bool) (K V : List ByteArray) (C : List Nat) (vk vv vi : Value) (K2 V2 : List ByteArray) (C2 : List Nat) (vk2 vv2 vi2 : Value) (first : ByteArray) (w : World)
    (h : NdP w p leaf K V C vk vv vi) (ho : Oth w q leaf K2 V2 C2 vk2 vv2 vi2) (hn : ∀ k, NdF q vk2 vv2 vi2 k → k < w.heap.size ∧ ¬ NdF p vk vv vi k) (hp : 0 < K2.length)
    (l1 : K.length ≤ 90000 ∧ V.length ≤ 90000 ∧ C.length ≤ 90000) (l2 : K2.length ≤ 90000 ∧ V2.length ≤ 90000 ∧ C2.length ≤ 90000) :
    Calls Tryz.prog 259 #[.pointer (some ⟨p, 0, none⟩), .pointer (some ⟨q, 0, none⟩), .string first] w fun e w' => e = .returned (.tuple #[]) ∧ Hid (∃ vk' vv' vi', NdS w w' (NdF p vk vv vi) p leaf (K ++ (if leaf then K2 else first :: K2.tail)) (V ++ V2) (C ++ C2) vk' vv' vi') := by
  have hqp : ¬ q = p := fun e => (hn q (.inl rfl)).2 (.inl e)
  have hpq : ¬ p = q := fun e => hqp e.symm
  have hnot : ∀ (x : Bool) (w : World), (Op.unary .not (.bool x)).run Tryz.prog w = .ok (.bool (!x)) w := fun _ _ => rfl
  have S0 : Hid (NdS w w (NdF p vk vv vi) p leaf K V C vk vv vi) := Lib.hid ⟨h, fun k e => .inl e, Upd.refl _ _⟩
  have HO := Lib.hid ho
  have HN := Lib.hid hn
  have CL := Lib.hid (clone_s ho.ks hp l2.1)
  have LK := Lib.hid (strs_bound l1.1 l2.1)
  have LV := Lib.hid (strs_bound l1.2.1 l2.2.1)
  have LC := Lib.hid (strs_bound l1.2.2 l2.2.2)
  obtain ⟨jS, hjS, hS0, hS1, hS2⟩ := info_parts infoS
  obtain ⟨jI, hjI, hI0, hI1, hI2⟩ := info_parts infoI
  obtain ⟨c0, c1, c2, c3, cf, cl⟩ := h.cells
  obtain ⟨d1, d2, d3, dl⟩ := ho.cells
  have hK2 : Hid (0 < K2.length) := Lib.hid hp
  clear h ho hn hp l1 l2
  go_enter Tryz.func259, Tryz.ntmps259
  go_wp2_with fail
  refine CL.out.mono ?_
  rintro e w1 ⟨g, cap, rfl, hR⟩
  have HR := Lib.hid hR
  clear hR
  have S1 := Lib.hid (S0.out.below HR.out.2)
  obtain ⟨c0, c1, c2, c3, cf, cl⟩ := S1.out.nd.cells
  cases leaf with
  | true =>
    go_wp2_with (
      (refine chkA 63 63 ⟨_, _, by with_reducible rfl⟩ ?_
       refine wpList_append_y (by rfl) _ _ _ rfl 0 9 jS _ 1 16 Tryz.underlying63 hjS hS0 hS1 hS2 rfl (by decide) _ _ _ (by rfl) S1.out.nd.ks _ K2.length _ (by rfl) (by have := RRow.yields (RRow.of_own HR.out.1); rwa [List.length_map] at this) (by simp) (str_one _) LK.out.1 LK.out.2.1 (Nat.zero_le _) ?_
       intro v1 W1 ho1 hg1 ha1
       obtain ⟨xa, xm, xc, rfl⟩ := slice_form ho1
       have S2 := Lib.hid (S1.out.setK (K' := K ++ K2) (grown_upd hg1) (by simpa using ho1) (own_new ha1))
       have e1 := S1.out.nd.cellsU (grown_upd hg1) S1.out.nd.pk
       have e11 := e1.2.1
       have e1f := e1.2.2.2.2.1 1
       clear ho1 hg1 ha1 e1))
    generalize W1.setCell ⟨p, 1, none⟩ (.slice xa xm xc) = W2 at *
    clear e11 e1f S1 S0 HR CL
    obtain ⟨c0, c1, c2, c3, cf, cl⟩ := S2.out.nd.cells
    have cf2 := cf 2
    have O2 := Lib.hid (HO.out.upd S2.out.upd HN.out)
    obtain ⟨d1, d2, d3, dl⟩ := O2.out.cells
    have T2 := Lib.hid (S2.out.below (Below.refl _ _).drew)
    have P2 := Lib.hid (HO.out.upd T2.out.upd HN.out)
    go_region_law (refine step_append_y (by rfl) _ _ _ (by rfl) 0 9 jS _ 1 16 Tryz.underlying63 hjS hS0 hS1 hS2 rfl (by decide) _ _ _ (by rfl) T2.out.nd.vs _ V2.length _ (by rfl) (by have := RRow.yields P2.out.vs; rwa [List.length_map] at this) (by simp) (str_one _) LV.out.1 LV.out.2.1 (Nat.zero_le _) ?_
                   intro v3 W3 ho3 hg3 ha3
                   obtain ⟨ya, ym, yc, rfl⟩ := slice_form ho3
                   have S3 := Lib.hid (T2.out.setV (V' := V ++ V2) (grown_upd hg3) (by simpa using ho3) (own_new ha3))
                   have e3 := T2.out.nd.cellsU (grown_upd hg3) T2.out.nd.pv
                   have e31 := e3.2.2.1
                   have e3f := e3.2.2.2.2.1 2
                   clear ho3 hg3 ha3 e3)
    all_goals (
      go_wp2_with fail
      generalize W3.setCell ⟨p, 2, none⟩ (.slice ya ym yc) = W4 at *
      clear e31 e3f S2 T2 O2 P2 c0 c1 c2 c3 cf cl cf2 d1 d2 d3 dl
      obtain ⟨c0, c1, c2, c3, cf, cl⟩ := S3.out.nd.cells
      have cf3 := cf 3
      have O4 := Lib.hid (HO.out.upd S3.out.upd HN.out)
      obtain ⟨d1, d2, d3, dl⟩ := O4.out.cells
      have T4 := Lib.hid (S3.out.below (Below.refl _ _).drew)
      have P4 := Lib.hid (HO.out.upd T4.out.upd HN.out)
      go_region_law (refine step_append_y (by rfl) _ _ _ (by rfl) 0 3 jI _ 1 8 Tryz.underlying191 hjI hI0 hI1 hI2 rfl (by decide) _ _ _ (by rfl) T4.out.nd.is _ C2.length _ (by rfl) (by have := RRow.yields P4.out.is; rwa [List.length_map] at this) (by simp) (int_one _) LC.out.1 LC.out.2.2 (Nat.zero_le _) ?_
                     intro v5 W5 ho5 hg5 ha5
                     obtain ⟨za, zm, zc, rfl⟩ := slice_form ho5
                     have S5 := Lib.hid (T4.out.setI (C' := C ++ C2) (grown_upd hg5) (by simpa using ho5) (own_new ha5))
                     have e5 := T4.out.nd.cellsU (grown_upd hg5) T4.out.nd.pi
                     have e51 := e5.2.2.2.1
                     have e5f := e5.2.2.2.2.1 3
                     clear ho5 hg5 ha5 e5))
    all_goals (
      go_wp2_with fail
      go_end0
      exact ⟨rfl, _, _, _, S5.out⟩)
  | false =>
    obtain ⟨r1, r2⟩ := World.ownsRow.stored HR.out.1 0 (.string first)
    have hg0 := World.ownsRow.lt HR.out.1 g rfl
    have hgc : w1.cell? ⟨g, 0, none⟩ = some (.string (K2[0]'hK2.out)) := by
      have := World.ownsRow.cellAt HR.out.1 0 (by have := hK2.out; omega)
      rw [this]; simp [hK2.out]
    have hgf := World.ownsRow.frozenAt HR.out.1 0
    have h0 : (0 : Int) < (K2.length : Int) := by have := hK2.out; omega
    have RS := Lib.hid (show ((w1.setCell ⟨g, 0, none⟩ (.string first)).ownsRow w.heap.size 9 1 (.slice (some ⟨g, 0, none⟩) K2.length cap) K2.length ((first :: K2.tail).map Value.string)) by
      have e : (K2.map Value.string).set 0 (.string first) = (first :: K2.tail).map Value.string := by
        cases K2 with
        | nil => exact absurd hK2.out (by simp)
        | cons a t => rfl
      rw [← e]; exact r1)
    have hlK : (first :: K2.tail).length = K2.length := by have := hK2.out; simp; omega
    have HLK := Lib.hid hlK
    have S1s := Lib.hid (S0.out.below (HR.out.2.setCell (p := ⟨g, 0, none⟩) hg0.1 (.string first)))
    obtain ⟨s0, s1, s2, s3, sf, sl⟩ := S1s.out.nd.cells
    clear r1 r2 hlK
    go_wp2_with (
      (refine chkA 63 63 ⟨_, _, by with_reducible rfl⟩ ?_
       refine wpList_append_y (by rfl) _ _ _ rfl 0 9 jS _ 1 16 Tryz.underlying63 hjS hS0 hS1 hS2 rfl (by decide) _ _ _ (by rfl) S1s.out.nd.ks _ K2.length _ (by rfl) (by have := RRow.yields (RRow.of_own RS.out); rwa [List.length_map, HLK.out] at this) (by rw [List.length_map, HLK.out, Nat.mul_one]) (str_one _) LK.out.1 LK.out.2.1 (Nat.zero_le _) ?_
       intro v1 W1 ho1 hg1 ha1
       obtain ⟨xa, xm, xc, rfl⟩ := slice_form ho1
       have S2 := Lib.hid (S1s.out.setK (K' := K ++ first :: K2.tail) (grown_upd hg1) (by have := ho1; rw [← HLK.out] at this; simpa using this) (own_new ha1))
       have e1 := S1s.out.nd.cellsU (grown_upd hg1) S1s.out.nd.pk
       have e11 := e1.2.1
       have e1f := e1.2.2.2.2.1 1
       clear ho1 hg1 ha1 e1))
    generalize W1.setCell ⟨p, 1, none⟩ (.slice xa xm xc) = W2 at *
    clear e11 e1f S1 S1s S0 HR CL RS s0 s1 s2 s3 sf sl hgc hgf
    obtain ⟨c0, c1, c2, c3, cf, cl⟩ := S2.out.nd.cells
    have cf2 := cf 2
    have O2 := Lib.hid (HO.out.upd S2.out.upd HN.out)
    obtain ⟨d1, d2, d3, dl⟩ := O2.out.cells
    have T2 := Lib.hid (S2.out.below (Below.refl _ _).drew)
    have P2 := Lib.hid (HO.out.upd T2.out.upd HN.out)
    go_region_law (refine step_append_y (by rfl) _ _ _ (by rfl) 0 9 jS _ 1 16 Tryz.underlying63 hjS hS0 hS1 hS2 rfl (by decide) _ _ _ (by rfl) T2.out.nd.vs _ V2.length _ (by rfl) (by have := RRow.yields P2.out.vs; rwa [List.length_map] at this) (by simp) (str_one _) LV.out.1 LV.out.2.1 (Nat.zero_le _) ?_
                   intro v3 W3 ho3 hg3 ha3
                   obtain ⟨ya, ym, yc, rfl⟩ := slice_form ho3
                   have S3 := Lib.hid (T2.out.setV (V' := V ++ V2) (grown_upd hg3) (by simpa using ho3) (own_new ha3))
                   have e3 := T2.out.nd.cellsU (grown_upd hg3) T2.out.nd.pv
                   have e31 := e3.2.2.1
                   have e3f := e3.2.2.2.2.1 2
                   clear ho3 hg3 ha3 e3)
    all_goals (
      go_wp2_with fail
      generalize W3.setCell ⟨p, 2, none⟩ (.slice ya ym yc) = W4 at *
      clear e31 e3f S2 T2 O2 P2 c0 c1 c2 c3 cf cl cf2 d1 d2 d3 dl
      obtain ⟨c0, c1, c2, c3, cf, cl⟩ := S3.out.nd.cells
      have cf3 := cf 3
      have O4 := Lib.hid (HO.out.upd S3.out.upd HN.out)
      obtain ⟨d1, d2, d3, dl⟩ := O4.out.cells
      have T4 := Lib.hid (S3.out.below (Below.refl _ _).drew)
      have P4 := Lib.hid (HO.out.upd T4.out.upd HN.out)
      go_region_law (refine step_append_y (by rfl) _ _ _ (by rfl) 0 3 jI _ 1 8 Tryz.underlying191 hjI hI0 hI1 hI2 rfl (by decide) _ _ _ (by rfl) T4.out.nd.is _ C2.length _ (by rfl) (by have := RRow.yields P4.out.is; rwa [List.length_map] at this) (by simp) (int_one _) LC.out.1 LC.out.2.2 (Nat.zero_le _) ?_
                     intro v5 W5 ho5 hg5 ha5
                     obtain ⟨za, zm, zc, rfl⟩ := slice_form ho5
                     have S5 := Lib.hid (T4.out.setI (C' := C ++ C2) (grown_upd hg5) (by simpa using ho5) (own_new ha5))
                     have e5 := T4.out.nd.cellsU (grown_upd hg5) T4.out.nd.pi
                     have e51 := e5.2.2.2.1
                     have e5f := e5.2.2.2.2.1 3
                     clear ho5 hg5 ha5 e5))
    all_goals (
      go_wp2_with fail
      go_end0
      exact ⟨rfl, _, _, _, S5.out⟩)
end Go.Proofs.YtdcjhpafipbpkaaGreatDoor
namespace Go.Proofs.YtdcjhpafipbpkaaGreatDoor
set_option linter.unusedVariables false
set_option maxRecDepth 100000
set_option maxHeartbeats 1000000
open Go.RowKit
/-! ### what stays -/
/-- Pages P are pages P' now; of the other ones nothing changes. -/
structure Frm (P P' : List Nat) (S S' : RS) : Prop where
  keep : ∀ q, q ∉ P → S.used q = true → q ∉ P' ∧ S'.used q = true ∧ S'.cont q = S.cont q
  back : ∀ q, S'.used q = true → q ∈ P' ∨ (S.used q = true ∧ q ∉ P)
  root : S'.root = S.root
  base : S'.base = S.base
theorem Frm.refl (P : List Nat) (S : RS) : Frm P P S S := ⟨fun q h u => ⟨h, u, rfl⟩, fun q u => (Classical.em (q ∈ P)).imp id fun h => ⟨u, h⟩, rfl, rfl⟩
theorem Frm.trans {P P1 P2 : List Nat} {S S1 S2 : RS} (a : Frm P P1 S S1) (b : Frm P1 P2 S1 S2) : Frm P P2 S S2 := by
  refine ⟨fun q h u => ?_, fun q u => ?_, b.root.trans a.root, b.base.trans a.base⟩
  · obtain ⟨h1, u1, c1⟩ := a.keep q h u
    obtain ⟨h2, u2, c2⟩ := b.keep q h1 u1
    exact ⟨h2, u2, c2.trans c1⟩
  · rcases b.back q u with h | ⟨u1, h1⟩
    · exact .inl h
    · rcases a.back q u1 with h | h
      · exact absurd h h1
      · exact .inr h
theorem Frm.ctx {P P' : List Nat} {S S' : RS} (a : Frm P P' S S') (Q Q' : List Nat) (X : List Nat) (hQ : ∀ q, q ∈ Q ↔ q ∈ P ∨ q ∈ X) (hQ' : ∀ q, q ∈ Q' ↔ q ∈ P' ∨ q ∈ X) : Frm Q Q' S S' := by
  refine ⟨fun q h u => ?_, fun q u => ?_, a.root, a.base⟩
  · have h1 : q ∉ P := fun e => h ((hQ q).2 (.inl e))
    have h2 : q ∉ X := fun e => h ((hQ q).2 (.inr e))
    obtain ⟨h3, u1, c1⟩ := a.keep q h1 u
    exact ⟨fun e => ((hQ' q).1 e).elim h3 h2, u1, c1⟩
  · rcases a.back q u with h | ⟨u1, h1⟩
    · exact .inl ((hQ' q).2 (.inl h))
    · by_cases hx : q ∈ X
      · exact .inl ((hQ' q).2 (.inr hx))
      · exact .inr ⟨u1, fun e => ((hQ q).1 e).elim h1 hx⟩
def wrS (S : RS) (p : Nat) (d : Nd) : RS := ⟨S.root, S.used, fun q => if q = p then pad (ofL d.bytes) else S.cont q, S.base⟩
def frS (S : RS) (p : Nat) : RS := ⟨S.root, flip S.used p, S.cont, S.base⟩
theorem Frm.write (P : List Nat) (S : RS) (p : Nat) (d : Nd) (hp : p ∈ P) : Frm P P S (wrS S p d) := by
  refine ⟨fun q h u => ⟨h, u, ?_⟩, fun q u => (Classical.em (q ∈ P)).imp id fun h => ⟨u, h⟩, rfl, rfl⟩
  show (if q = p then _ else _) = _
  rw [if_neg (fun e => h (by rw [e]; exact hp))]
theorem Frm.alloc (P : List Nat) (S : RS) (p : Nat) (hp : S.used p = false) : Frm P (p :: P) S (allocS S p) := by
  refine ⟨fun q h u => ?_, fun q u => ?_, rfl, rfl⟩
  · have hne : q ≠ p := fun e => by rw [e, hp] at u; cases u
    refine ⟨by simp [hne, h], ?_, ?_⟩
    · show flip S.used p q = true
      unfold flip; rw [if_neg hne]; exact u
    · show (if q = p then _ else _) = _
      rw [if_neg hne]
  · by_cases hne : q = p
    · exact .inl (by simp [hne])
    · have : flip S.used p q = true := u
      unfold flip at this; rw [if_neg hne] at this
      exact (Classical.em (q ∈ P)).imp (fun h => by simp [h]) fun h => ⟨this, h⟩
theorem Frm.free (P P' : List Nat) (S : RS) (p : Nat) (hu : S.used p = true) (hP : ∀ q, q ∈ P ↔ q = p ∨ q ∈ P') (hn : p ∉ P') : Frm P P' S (frS S p) := by
  refine ⟨fun q h u => ?_, fun q u => ?_, rfl, rfl⟩
  · have hne : q ≠ p := fun e => h ((hP q).2 (.inl e))
    refine ⟨fun e => h ((hP q).2 (.inr e)), ?_, rfl⟩
    show flip S.used p q = true
    unfold flip; rw [if_neg hne]; exact u
  · have u' : flip S.used p q = true := u
    unfold flip at u'
    by_cases hne : q = p
    · rw [if_pos hne, hne, hu] at u'; cases u'
    · rw [if_neg hne] at u'
      exact (Classical.em (q ∈ P')).imp id fun h => ⟨u', fun e => ((hP q).1 e).elim hne h⟩
/-! ### below a node -/
def low : (h : Nat) → PT h → List Nat
  | 0, _ => []
  | h + 1, l => List.flatMap (fun x => pgs h x.2.1 x.2.2) l
def Kids (S : RS) : (h : Nat) → PT h → Prop
  | 0, _ => True
  | h + 1, l => ∀ x ∈ (l : List (Kid h)), On S h x.2.1 x.2.2
theorem pgs_low (h p : Nat) (t : PT h) : pgs h p t = p :: low h t := by cases h <;> rfl
theorem on_iff {S : RS} {h p : Nat} {t : PT h} : On S h p t ↔ (S.used p = true ∧ S.cont p = pad (ofL (nd h t).bytes)) ∧ Kids S h t := by
  cases h with
  | zero => exact ⟨fun h => ⟨h, trivial⟩, fun h => h.1⟩
  | succ h => exact Iff.rfl
theorem Kids.frame {S S' : RS} {h : Nat} {t : PT h} (H : Kids S h t) (hq : ∀ q ∈ low h t, S'.used q = S.used q ∧ S'.cont q = S.cont q) : Kids S' h t := by
  cases h with
  | zero => trivial
  | succ h => exact fun x hx => (H x hx).frame fun q h' => hq q (List.mem_flatMap.2 ⟨x, hx, h'⟩)
theorem Kids.used {S : RS} {h : Nat} {t : PT h} (H : Kids S h t) : ∀ q ∈ low h t, S.used q = true := by
  cases h with
  | zero => intro q hq; simp [low] at hq
  | succ h =>
    intro q hq
    obtain ⟨x, hx, h'⟩ := List.mem_flatMap.1 hq
    exact (H x hx).used q h'
/-- A node written. -/
theorem Tr.write {S : RS} {h p : Nat} {t : PT h} (hw : Wf h t) (hp : 0 < (nd h t).len) (hs : (nd h t).size ≤ 512) (hk : Kids S h t) (hn : (pgs h p t).Nodup) (hu : S.used p = true) : Tr (wrS S p (nd h t)) h p t := by
  refine ⟨hw, hp, hs, on_iff.2 ⟨⟨hu, ?_⟩, hk.frame fun q hq => ⟨rfl, ?_⟩⟩, hn⟩
  · show (if p = p then _ else _) = _
    rw [if_pos rfl]
  · have hne : q ≠ p := fun e => by rw [pgs_low] at hn; exact (List.nodup_cons.1 hn).1 (e ▸ hq)
    show (if q = p then _ else _) = _
    rw [if_neg hne]
/-- .. on a new page. -/
theorem Tr.fresh {S : RS} {h p : Nat} {t : PT h} (hw : Wf h t) (hp : 0 < (nd h t).len) (hs : (nd h t).size ≤ 512) (hk : Kids S h t) (hn : (low h t).Nodup) (hu : S.used p = false) : Tr (wrS (allocS S p) p (nd h t)) h p t := by
  have hne : ∀ q ∈ low h t, q ≠ p := fun q hq e => by have := hk.used q hq; rw [e, hu] at this; cases this
  refine Tr.write hw hp hs (hk.frame fun q hq => ⟨?_, ?_⟩) ?_ ?_
  · show flip S.used p q = _
    unfold flip; rw [if_neg (hne q hq)]
  · show (if q = p then _ else _) = _
    rw [if_neg (hne q hq)]
  · rw [pgs_low]; exact List.nodup_cons.2 ⟨fun hq => hne p hq rfl, hn⟩
  · show flip S.used p p = true
    unfold flip; rw [if_pos rfl, hu]; rfl
theorem Tr.kids {S : RS} {h p : Nat} {t : PT h} (H : Tr S h p t) : Kids S h t := (on_iff.1 H.on).2
/-! ### a node parted -/
def tk : (h : Nat) → Nat → PT h → PT h
  | 0, n, l => List.take n l
  | h + 1, n, l => List.take n l
def dr : (h : Nat) → Nat → PT h → PT h
  | 0, n, l => List.drop n l
  | h + 1, n, l => List.drop n l
def Nd.take (n : Nat) : Nd → Nd
  | .leaf l => .leaf (l.take n)
  | .inner l => .inner (l.take n)
def Nd.drop (n : Nat) : Nd → Nd
  | .leaf l => .leaf (l.drop n)
  | .inner l => .inner (l.drop n)
theorem nd_tk (h n : Nat) (t : PT h) : nd h (tk h n t) = (nd h t).take n := by
  cases h with
  | zero => rfl
  | succ h => simp [nd, tk, Nd.take, List.map_take]
theorem nd_dr (h n : Nat) (t : PT h) : nd h (dr h n t) = (nd h t).drop n := by
  cases h with
  | zero => rfl
  | succ h => simp [nd, dr, Nd.drop, List.map_drop]
theorem ents_cut (h n : Nat) (t : PT h) : ents h (tk h n t) ++ ents h (dr h n t) = ents h t := by
  cases h with
  | zero => exact List.take_append_drop n t
  | succ h => exact (ents_app h _ _).symm.trans (by simp [tk, dr])
theorem low_cut (h n : Nat) (t : PT h) : low h (tk h n t) ++ low h (dr h n t) = low h t := by
  cases h with
  | zero => rfl
  | succ h =>
    show List.flatMap _ (List.take n t) ++ List.flatMap _ (List.drop n t) = List.flatMap _ t
    rw [← List.flatMap_append, List.take_append_drop]
theorem Kids.cut {S : RS} {h : Nat} {t : PT h} (n : Nat) (H : Kids S h t) : Kids S h (tk h n t) ∧ Kids S h (dr h n t) := by
  cases h with
  | zero => exact ⟨trivial, trivial⟩
  | succ h => exact ⟨fun x hx => H x (List.mem_of_mem_take hx), fun x hx => H x (List.mem_of_mem_drop hx)⟩
theorem sing_cut (h n : Nat) (t : PT h) (h1 : 2 ≤ (nd h (tk h n t)).len) (h2 : 2 ≤ (nd h (dr h n t)).len) : sing h (tk h n t) + sing h (dr h n t) ≤ sing h t := by
  cases h with
  | zero => simp [sing]
  | succ h =>
    rw [nd_lenS] at h1 h2
    have e : (List.map (fun x : Kid h => sing h x.2.2) (List.take n t)).sum + (List.map (fun x : Kid h => sing h x.2.2) (List.drop n t)).sum = (List.map (fun x : Kid h => sing h x.2.2) t).sum := by
      rw [← List.sum_append, ← List.map_append, List.take_append_drop]
    change 2 ≤ (List.take n t).length at h1
    change 2 ≤ (List.drop n t).length at h2
    show ((if (List.take n t).length = 1 then 1 else 0) + (List.map (fun x : Kid h => sing h x.2.2) (List.take n t)).sum) + ((if (List.drop n t).length = 1 then 1 else 0) + (List.map (fun x : Kid h => sing h x.2.2) (List.drop n t)).sum) ≤ (if List.length t = 1 then 1 else 0) + (List.map (fun x : Kid h => sing h x.2.2) t).sum
    rw [if_neg (by omega), if_neg (by omega)]
    omega
theorem Wf.cut {h : Nat} {t : PT h} (H : Wf h t) (n : Nat) : Wf h (tk h n t) ∧ Wf h (dr h n t) := by
  cases h with
  | zero => exact ⟨⟨fun e he => H.1 e (List.mem_of_mem_take he), H.2.sublist (List.take_sublist _ _)⟩, ⟨fun e he => H.1 e (List.mem_of_mem_drop he), H.2.sublist (List.drop_sublist _ _)⟩⟩
  | succ h =>
    refine ⟨⟨fun e he => H.1 e (List.mem_of_mem_take he), H.2.1.sublist (List.take_sublist _ _), fun y hy => H.2.2 y ?_⟩, ⟨fun e he => H.1 e (List.mem_of_mem_drop he), H.2.1.sublist (List.drop_sublist _ _), fun y hy => H.2.2 y ?_⟩⟩
    · have : (tk (h + 1) n t).tail = List.take (n - 1) (List.tail t) := by
        show (List.take n t).tail = _
        cases n <;> cases t <;> simp
      rw [this] at hy; exact List.mem_of_mem_take hy
    · have : (dr (h + 1) n t).tail = List.drop n (List.tail t) := by
        show (List.drop n t).tail = _
        rw [List.tail_drop, ← List.drop_one, List.drop_drop]; congr 1; omega
      rw [this] at hy; exact List.mem_of_mem_drop hy
/-- The key ahead of the second part. -/
theorem Wf.first {h : Nat} {t : PT h} (H : Wf h t) (n : Nat) (h0 : 0 < n) (h1 : 0 < (nd h (dr h n t)).len) :
    (∀ e ∈ ents h (tk h n t), kless e.1 ((nd h (dr h n t)).keys.getD 0 ByteArray.empty) = true) ∧ (∀ e ∈ ents h (dr h n t), kless e.1 ((nd h (dr h n t)).keys.getD 0 ByteArray.empty) = false) ∧ ((nd h (dr h n t)).keys.getD 0 ByteArray.empty).size ≤ 96 := by
  cases h with
  | zero =>
    rw [nd_len0] at h1
    have hs : Srt (List.take n t ++ List.drop n t) := by rw [List.take_append_drop]; exact H.2
    have e : (nd 0 (dr 0 n t)).keys = (List.drop n t).map Prod.fst := rfl
    have hm : ∀ x ∈ List.drop n t, x.1.size ≤ 96 := fun x hx => (H.1 x (List.mem_of_mem_drop hx)).1
    rw [e]
    show (∀ e ∈ List.take n t, _) ∧ (∀ e ∈ List.drop n t, _) ∧ _
    change 0 < (List.drop n t).length at h1
    generalize List.take n t = A at *
    generalize List.drop n t = B at *
    cases B with
    | nil => simp at h1
    | cons x B =>
      obtain ⟨-, g1, g2⟩ := srt_of hs
      refine ⟨g1, fun e he => ?_, hm x (by simp)⟩
      rcases List.mem_cons.1 he with rfl | he
      · exact kless_irrefl _
      · exact kless_asymm (g2 e he)
  | succ h =>
    rw [nd_lenS] at h1
    have hs : Seps h (List.take n t ++ List.drop n t) := by rw [List.take_append_drop]; exact H.2
    have e : (nd (h + 1) (dr (h + 1) n t)).keys = (List.drop n t).map Prod.fst := by simp [nd, dr, Nd.keys, Function.comp_def]
    have hm : ∀ x ∈ List.drop n t, x.1.size ≤ 96 ∧ 0 < (ents h x.2.2).length := fun x hx => by
      obtain ⟨a, b, c, d, f⟩ := H.1 x (List.mem_of_mem_drop hx)
      exact ⟨a, ents_pos f c⟩
    have hA : List.take n t ≠ [] := fun e => by
      have := congrArg List.length e
      rw [List.length_take, List.length_nil] at this
      change 0 < (List.drop n t).length at h1
      rw [List.length_drop] at h1
      omega
    rw [e]
    show (∀ e ∈ ents (h + 1) (List.take n t), _) ∧ (∀ e ∈ ents (h + 1) (List.drop n t), _) ∧ _
    change 0 < (List.drop n t).length at h1
    generalize List.take n t = A at *
    generalize List.drop n t = B at *
    cases B with
    | nil => simp at h1
    | cons x B =>
      obtain ⟨g1, g2, g3, g4, g5⟩ := seps_pair.1 hs.1
      obtain ⟨g6, g7, g8⟩ := seps_tail.1 hs.2
      obtain ⟨hx1, hx2⟩ := hm x (by simp)
      obtain ⟨e0, he0⟩ : ∃ e0, e0 ∈ ents h x.2.2 := ⟨_, List.getElem_mem hx2⟩
      refine ⟨fun e he => ?_, fun e he => ?_, hx1⟩
      · obtain ⟨a, ha, he⟩ := (ents_mem h A e).1 he
        exact g3 a ha e he
      · obtain ⟨a, ha, he'⟩ := (ents_mem h _ e).1 he
        rcases List.mem_cons.1 ha with rfl | ha
        · exact g7 hA _ he'
        · exact kle_trans (g7 hA e0 he0) (kless_asymm (kless_of_lt_le (g4 a ha e0 he0) (g8 a ha _ he')))
/-- Where a node is parted. -/
structure CutAt (d : Nd) (n : Nat) : Prop where
  le : n ≤ d.len
  big : d.size / 2 ≤ szUp d.isLeaf d.keys d.vals n
  fst : 0 < n → szUp d.isLeaf d.keys d.vals (n - 1) < d.size / 2
theorem cut_fit {α : Type} (f : α → Nat) (l : List α) (c n : Nat) (hc : ∀ x ∈ l, f x ≤ c) (hc2 : c ≤ 154) (h1 : 512 < 3 + (l.map f).sum) (h2 : 3 + (l.map f).sum ≤ 666) (hn : n ≤ l.length)
    (hb : (3 + (l.map f).sum) / 2 ≤ 3 + ((l.take n).map f).sum) (hf : 0 < n → 3 + ((l.take (n - 1)).map f).sum < (3 + (l.map f).sum) / 2) :
    0 < n ∧ n < l.length ∧ 3 + ((l.take n).map f).sum ≤ 512 ∧ 3 + ((l.drop n).map f).sum ≤ 512 ∧ 253 ≤ ((l.take n).map f).sum ∧ 256 - c < ((l.drop n).map f).sum := by
  have h0 : 0 < n := by
    cases n with
    | zero => simp at hb; omega
    | succ n => omega
  have hf' := hf h0
  have e : ((l.take n).map f).sum + ((l.drop n).map f).sum = (l.map f).sum := by rw [← List.sum_append, ← List.map_append, List.take_append_drop]
  obtain ⟨m, rfl⟩ : ∃ m, n = m + 1 := ⟨n - 1, by omega⟩
  have hlt : m < l.length := hn
  have e2 : ((l.take (m + 1)).map f).sum = ((l.take m).map f).sum + f l[m] := by
    rw [List.take_succ_eq_append_getElem hlt, List.map_append, List.sum_append]; simp
  have hm := hc _ (List.getElem_mem hlt)
  simp only [Nat.add_sub_cancel] at hf'
  refine ⟨h0, ?_, by omega, by omega, by omega, by omega⟩
  by_cases hx : m + 1 < l.length
  · exact hx
  · rw [List.drop_eq_nil_of_le (by omega : l.length ≤ m + 1)] at e
    simp only [List.map_nil, List.sum_nil, Nat.add_zero] at e; omega
theorem CutAt.fit {d : Nd} {n : Nat} (H : CutAt d n) (hk : ∀ k ∈ d.keys, k.size ≤ 96) (hv : ∀ v ∈ d.vals, v.size ≤ 56) (h1 : 512 < d.size) (h2 : d.size ≤ 666) :
    0 < n ∧ n < d.len ∧ (d.take n).size ≤ 512 ∧ (d.drop n).size ≤ 512 ∧ (d.isLeaf = false → 2 ≤ (d.take n).len ∧ 2 ≤ (d.drop n).len) := by
  cases d with
  | leaf l =>
    have hl : (Nd.leaf l).len = l.length := by simp [Nd.len, Nd.keys]
    have a := H.le
    have b := H.big
    have c := H.fst
    rw [hl] at a
    simp only [Nd.isLeaf, Nd.keys, Nd.vals] at b c
    rw [szUp_leaf l _ a] at b
    rw [szUp_leaf l _ (by omega)] at c
    rw [size_leaf] at b c h1 h2
    have hc : ∀ x ∈ l, esL x ≤ 154 := fun x hx => by
      have q1 := hk x.1 (by simp [Nd.keys]; exact ⟨_, hx⟩)
      have q2 := hv x.2 (by simp [Nd.vals]; exact ⟨_, hx⟩)
      unfold esL; omega
    obtain ⟨g1, g2, g3, g4, g5, g6⟩ := cut_fit esL l 154 n hc (by omega) h1 h2 a b c
    refine ⟨g1, by rw [hl]; exact g2, by rw [Nd.take, size_leaf]; exact g3, by rw [Nd.drop, size_leaf]; exact g4, by simp [Nd.isLeaf]⟩
  | inner l =>
    have hl : (Nd.inner l).len = l.length := by simp [Nd.len, Nd.keys]
    have a := H.le
    have b := H.big
    have c := H.fst
    rw [hl] at a
    simp only [Nd.isLeaf, Nd.keys, Nd.vals] at b c
    rw [szUp_inner l _ _ a] at b
    rw [szUp_inner l _ _ (by omega)] at c
    rw [size_inner] at b c h1 h2
    have hc : ∀ x ∈ l, esI x ≤ 101 := fun x hx => by
      have q1 := hk x.1 (by simp [Nd.keys]; exact ⟨_, hx⟩)
      unfold esI; omega
    obtain ⟨g1, g2, g3, g4, g5, g6⟩ := cut_fit esI l 101 n hc (by omega) h1 h2 a b c
    refine ⟨g1, by rw [hl]; exact g2, by rw [Nd.take, size_inner]; exact g3, by rw [Nd.drop, size_inner]; exact g4, fun _ => ?_⟩
    have k1 := sum_le esI 101 (l.take n) fun x hx => hc x (List.mem_of_mem_take hx)
    have k2 := sum_le esI 101 (l.drop n) fun x hx => hc x (List.mem_of_mem_drop hx)
    simp only [Nd.take, Nd.drop, Nd.len, Nd.keys, List.length_map]
    omega
end Go.Proofs.YtdcjhpafipbpkaaGreatDoor
namespace Go.Proofs.YtdcjhpafipbpkaaGreatDoor
set_option linter.unusedVariables false
set_option maxRecDepth 100000
set_option maxHeartbeats 1000000
open Go.RowKit
/-- A node that can be read, in blocks of F. -/
def RdIn (w : World) (p : Nat) (d : Nd) (F : Nat → Prop) : Prop := ∃ vk vv vi, NdV w p d vk vv vi ∧ ∀ k, NdF p vk vv vi k → k < w.heap.size ∧ F k
theorem RdIn.upd {w W : World} {p : Nat} {d : Nd} {F S : Nat → Prop} (h : RdIn w p d F) (hu : Upd S w W) (hn : ∀ k, F k → k < w.heap.size → ¬ S k) : RdIn W p d F := by
  obtain ⟨vk, vv, vi, a, b⟩ := h
  have c := a.oth.upd hu fun k hk => ⟨(b k hk).1, hn k (b k hk).2 (b k hk).1⟩
  exact ⟨vk, vv, vi, ⟨c.blk, c.ks, c.vs, c.is⟩, fun k hk => ⟨Nat.lt_of_lt_of_le (b k hk).1 hu.size, (b k hk).2⟩⟩
theorem wrap_small {x : Int} (h0 : 0 ≤ x) (h1 : x < 9223372036854775808) : IntKind.i64.wrap x = x := by
  simp only [IntKind.wrap, IntKind.bits, IntKind.signed]; simp; omega
theorem wrap_half {a b i n : Nat} (h1 : b ≤ 154) (h2 : a ≤ 3 + 154 * i) (h3 : i < n) (h4 : n ≤ 65536) : wrap64 ((a : Int) + (3 + (b : Int) - 3)) = ((a + b : Nat) : Int) := by
  rw [show ((a : Int) + (3 + (b : Int) - 3)) = ((a + b : Nat) : Int) by omega]
  unfold wrap64; omega
theorem szUp_one (leaf : Bool) (K V : List ByteArray) (i : Nat) : szUp leaf [K.getD i ByteArray.empty] [V.getD i ByteArray.empty] 1 = 3 + esz leaf K V i := by
  cases leaf <;> simp [szUp, esz]
/-- Rows, cut. -/
theorem RRow.drop {w : World} {g off n cap i : Nat} {xs : List Value} (h : RRow w (.slice (some ⟨g, off, none⟩) n cap) xs) (hl : xs.length = n) (hi : i < n) : RRow w (.slice (some ⟨g, off + i, none⟩) (n - i) (cap - i)) (xs.drop i) := by
  obtain ⟨g', off', cap', e, hc, hx⟩ := h.lit (by omega)
  simp only [Value.slice.injEq, Option.some.injEq, Addr.mk.injEq, and_true] at e
  obtain ⟨⟨rfl, rfl⟩, -, rfl⟩ := e
  refine .inr ⟨g, off + i, cap - i, by rw [List.length_drop, hl], by rw [List.length_drop]; omega, fun j hj => ?_⟩
  rw [List.length_drop] at hj
  have := hx (i + j) (by omega)
  rw [List.getElem_drop, Nat.add_assoc]; exact this
theorem RRow.one {w : World} {g off n cap i : Nat} {xs : List Value} (h : RRow w (.slice (some ⟨g, off, none⟩) n cap) xs) (hl : xs.length = n) (hi : i < n) : RRow w (.slice (some ⟨g, off + i, none⟩) 1 (cap - i)) [xs[i]'(by omega)] := by
  obtain ⟨g', off', cap', e, hc, hx⟩ := h.lit (by omega)
  simp only [Value.slice.injEq, Option.some.injEq, Addr.mk.injEq, and_true] at e
  obtain ⟨⟨rfl, rfl⟩, -, rfl⟩ := e
  refine .inr ⟨g, off + i, cap - i, rfl, by simp; omega, fun j hj => ?_⟩
  have : j = 0 := by simpa using hj
  subst this
  exact hx i (by omega)
theorem RRow.take {w : World} {g off n cap i : Nat} {xs : List Value} (h : RRow w (.slice (some ⟨g, off, none⟩) n cap) xs) (hl : xs.length = n) (hi : i < n) : RRow w (.slice (some ⟨g, off, none⟩) i i) (xs.take i) := by
  obtain ⟨g', off', cap', e, hc, hx⟩ := h.lit (by omega)
  simp only [Value.slice.injEq, Option.some.injEq, Addr.mk.injEq, and_true] at e
  obtain ⟨⟨rfl, rfl⟩, -, rfl⟩ := e
  have e : (xs.take i).length = i := by rw [List.length_take]; omega
  refine .inr ⟨g, off, i, by rw [e], by rw [e]; exact Nat.le_refl _, fun j hj => ?_⟩
  rw [e] at hj
  rw [List.getElem_take]; exact hx j (by omega)
/-- A node that is parted: p is the left one, q the right one. -/
structure Spl (w W : World) (p q : Nat) (leaf : Bool) (a1 a2 a3 : Value) (K V : List ByteArray) (C : List Nat) (b1 b2 b3 : Value) : Prop where
  up : Upd (fun k => k = p) w W
  pl : p < w.heap.size
  bp : W.heap[p]? = some (.cells #[.bool leaf, a1, a2, a3] 222 (0, 0))
  rq : NdP W q leaf K V C b1 b2 b3
  nw : ∀ k, NdF q b1 b2 b3 k → w.heap.size ≤ k
section
variable {w W W' : World} {p q : Nat} {leaf : Bool} {a1 a2 a3 : Value} {K V : List ByteArray} {C : List Nat} {b1 b2 b3 : Value}
theorem NdP.upd (h : NdP W q leaf K V C b1 b2 b3) {S : Nat → Prop} (hu : Upd S W W') (hn : ∀ k, NdF q b1 b2 b3 k → ¬ S k) : NdP W' q leaf K V C b1 b2 b3 := by
  have hk : ∀ k, NdF q b1 b2 b3 k → W'.heap[k]? = W.heap[k]? := fun k e => hu.block k (h.lt k e) (hn k e)
  exact ⟨(hk q (.inl rfl)).trans h.blk, ownsRow_of h.ks fun k e => hk k (.inr (.inl e)), ownsRow_of h.vs fun k e => hk k (.inr (.inr (.inl e))), ownsRow_of h.is fun k e => hk k (.inr (.inr (.inr e))), h.pk, h.pv, h.pi, h.kv, h.ki, h.vi'⟩
theorem Spl.setP (h : Spl w W p q leaf a1 a2 a3 K V C b1 b2 b3) (i : Nat) (x : Value) (y1 y2 y3 : Value) (hy : (#[Value.bool leaf, a1, a2, a3] : Array Value).setIfInBounds i x = #[Value.bool leaf, y1, y2, y3]) : Spl w (W.setCell ⟨p, i, none⟩ x) p q leaf y1 y2 y3 K V C b1 b2 b3 := by
  refine ⟨h.up.setCell (p := ⟨p, i, none⟩) (.inl rfl) x, h.pl, by rw [heap_set_lit h.bp x, hy], h.rq.upd (S := fun k => k = p) (Upd.setCell (S := fun k => k = p) (Upd.refl _ _) (p := ⟨p, i, none⟩) (.inl rfl) x) fun k hk e => ?_, h.nw⟩
  have := h.nw k hk; have := h.pl; omega
theorem Spl.below (h : Spl w W p q leaf a1 a2 a3 K V C b1 b2 b3) (hb : Below W.heap.size W W') : Spl w W' p q leaf a1 a2 a3 K V C b1 b2 b3 :=
  ⟨h.up.trans' (hb.upd' (Nat.le_refl _)) (fun _ _ e => False.elim e), h.pl, (hb.block p (lt_of_heap h.bp)).trans h.bp, h.rq.below hb, h.nw⟩
theorem Spl.setV (h : Spl w W p q leaf a1 a2 a3 K [] C b1 (.slice none 0 0) b3) {v' : Value} {V' : List ByteArray} (hb : Below W.heap.size W W') (ho : W'.ownsRow W.heap.size 9 1 v' V'.length (V'.map Value.string)) : Spl w (W'.setCell ⟨q, 2, none⟩ v') p q leaf a1 a2 a3 K V' C b1 v' b3 := by
  obtain ⟨x, y, z⟩ := h.rq.setV (hb.upd' (Nat.le_refl _) |>.mono fun _ _ e => False.elim e) (ownsRow_mono ho (Nat.zero_le _)) (fun k hk => .inr (ho.lt k hk).1)
  refine ⟨h.up.trans' y fun j hj e => ?_, h.pl, ?_, x, fun k hk => ?_⟩
  · have := h.nw j e; omega
  · have hne : p ≠ q := fun e => by have := h.nw q (.inl rfl); have := h.pl; omega
    rw [heap_set_ne v' hne]
    exact (hb.block p (lt_of_heap h.bp)).trans h.bp
  · rcases z k hk with e | e
    · exact h.nw k e
    · have := h.up.size; omega
theorem Spl.setI (h : Spl w W p q leaf a1 a2 a3 K V [] b1 b2 (.slice none 0 0)) {v' : Value} {C' : List Nat} (hb : Below W.heap.size W W') (ho : W'.ownsRow W.heap.size 3 1 v' C'.length (C'.map encN)) : Spl w (W'.setCell ⟨q, 3, none⟩ v') p q leaf a1 a2 a3 K V C' b1 b2 v' := by
  obtain ⟨x, y, z⟩ := h.rq.setI (hb.upd' (Nat.le_refl _) |>.mono fun _ _ e => False.elim e) (ownsRow_mono ho (Nat.zero_le _)) (fun k hk => .inr (ho.lt k hk).1)
  refine ⟨h.up.trans' y fun j hj e => ?_, h.pl, ?_, x, fun k hk => ?_⟩
  · have := h.nw j e; omega
  · have hne : p ≠ q := fun e => by have := h.nw q (.inl rfl); have := h.pl; omega
    rw [heap_set_ne v' hne]
    exact (hb.block p (lt_of_heap h.bp)).trans h.bp
  · rcases z k hk with e | e
    · exact h.nw k e
    · have := h.up.size; omega
theorem Spl.start (hb : Below w.heap.size w W) (hp : w.heap[p]? = some (.cells #[.bool leaf, a1, a2, a3] 222 (0, 0))) (ho : W.ownsRow w.heap.size 9 1 b1 K.length (K.map Value.string)) : Spl w (W.alloc (.cells #[.bool leaf, b1, .slice none 0 0, .slice none 0 0] 222)) p W.heap.size leaf a1 a2 a3 K [] [] b1 (.slice none 0 0) (.slice none 0 0) := by
  have hb' := hb.alloc hb.size (.cells #[.bool leaf, b1, .slice none 0 0, .slice none 0 0] 222)
  refine ⟨(hb'.upd' (Nat.le_refl _)).mono fun _ _ e => False.elim e, lt_of_heap hp, (hb'.block p (lt_of_heap hp)).trans hp, ⟨heap_alloc_new _ _, (ownsRow_mono ho (Nat.zero_le _)).alloc _, World.ownsRow_nil _ _ _ _, World.ownsRow_nil _ _ _ _, fun e => by have := (ho.lt _ e).2; omega, by simp [Value.ownBlock], by simp [Value.ownBlock], by simp [Value.ownBlock], by simp [Value.ownBlock], by simp [Value.ownBlock]⟩, fun k hk => ?_⟩
  rcases hk with e | e | e | e
  · rw [e]; exact hb.size
  · exact (ho.lt k e).1
  · simp [Value.ownBlock] at e
  · simp [Value.ownBlock] at e
theorem Spl.drew (h : Spl w W p q leaf a1 a2 a3 K V C b1 b2 b3) : Spl w W.drew p q leaf a1 a2 a3 K V C b1 b2 b3 := h.below (Below.refl _ _).drew
theorem Spl.cells (h : Spl w W p q leaf a1 a2 a3 K V C b1 b2 b3) : W.cell? ⟨p, 0, none⟩ = some (.bool leaf) ∧ W.cell? ⟨p, 1, none⟩ = some a1 ∧ W.cell? ⟨p, 2, none⟩ = some a2 ∧ W.cell? ⟨p, 3, none⟩ = some a3 ∧ (∀ i, W.frozen? ⟨p, i, none⟩ = false) ∧ p < W.heap.size ∧ W.cell? ⟨q, 2, none⟩ = some b2 ∧ W.cell? ⟨q, 3, none⟩ = some b3 ∧ (∀ i, W.frozen? ⟨q, i, none⟩ = false) ∧ q < W.heap.size ∧ ¬ p = q ∧ ¬ q = p :=
  ⟨cell_lit h.bp rfl, cell_lit h.bp rfl, cell_lit h.bp rfl, cell_lit h.bp rfl, fun i => frozen_lit h.bp i, lt_of_heap h.bp, cell_lit h.rq.blk rfl, cell_lit h.rq.blk rfl, fun i => frozen_lit h.rq.blk i, lt_of_heap h.rq.blk, fun e => by have := h.nw q (.inl rfl); have := h.pl; omega, fun e => by have := h.nw q (.inl rfl); have := h.pl; omega⟩
end
theorem clone_i {w : World} {v : Value} {K : List Nat} (h : RRow w v (K.map encN)) (hp : 0 < K.length) (hl : K.length ≤ 90000) :
    Calls Tryz.prog 216 #[v] w fun e w' => ∃ g cap, e = .returned (.slice (some ⟨g, 0, none⟩) K.length cap) ∧ Hid (w'.ownsRow w.heap.size 3 1 (.slice (some ⟨g, 0, none⟩) K.length cap) K.length (K.map encN) ∧ Below w.heap.size w w') := by
  obtain ⟨g, off, cap, rfl, hcap, hc⟩ := h.lit (by simpa using hp)
  rw [List.length_map]
  have e : ∀ L : List Nat, (L.map fun c : Nat => (c : Int)).map (Value.int .i64) = L.map encN := fun L => by rw [List.map_map]; rfl
  refine (Tryz.slices_Clone_int g off K.length cap (K.map fun c : Nat => (c : Int)) w (by simp) (by omega) fun j hj => ?_).mono ?_
  · have hj' : j < K.length := by simpa using hj
    rw [hc j (by simpa using hj'), getD_at _ _ hj]; simp [encN]
  · rintro e' w' ⟨v', rfl, ho, hne, hb⟩
    rw [List.take_of_length_le (by simp), e] at ho
    rcases ho.2 with ⟨rfl, -⟩ | ⟨g', cap', cur, rfl, -⟩
    · exact absurd rfl hne
    · exact ⟨g', cap', rfl, ho, hb⟩
theorem split_leaf (p : Nat) (K : List ByteArray) (V : List ByteArray) (vk vv vi : Value) (w : World) (h : NdP w p true K V [] vk vv vi) (hv : V.length = K.length) (hK : ∀ k ∈ K, k.size ≤ 96) (hV : ∀ v ∈ V, v.size ≤ 56) (hn : K.length ≤ 65536)
    (hcut : ∀ i, i ≤ K.length → szUp true K V K.length / 2 ≤ szUp true K V i → (0 < i → szUp true K V (i - 1) < szUp true K V K.length / 2) → 0 < i ∧ i < K.length) (hp : 0 < K.length) :
    Calls Tryz.prog 179 #[.pointer (some ⟨p, 0, none⟩)] w fun e w' => ∃ q, e = .returned (.pointer (some ⟨q, 0, none⟩)) ∧ Hid (∃ i g cap g2 cap2 b1 b2 b3, 0 < i ∧ i < K.length ∧ szUp true K V K.length / 2 ≤ szUp true K V i ∧ szUp true K V (i - 1) < szUp true K V K.length / 2 ∧ vk = .slice (some ⟨g, 0, none⟩) K.length cap ∧ vv = .slice (some ⟨g2, 0, none⟩) K.length cap2 ∧
      Spl w w' p q true (.slice (some ⟨g, 0, none⟩) i i) (.slice (some ⟨g2, 0, none⟩) i i) vi (K.drop i) (V.drop i) [] b1 b2 b3) := by
  have hr := h.ks
  have hr2 := h.vs
  have hgp : vk.ownBlock ≠ some p := h.pk
  have hgp2 : vv.ownBlock ≠ some p := h.pv
  rcases hr.2 with ⟨rfl, h0⟩ | ⟨g, cap, cur0, rfl, -⟩
  · omega
  rcases hr2.2 with ⟨rfl, h0⟩ | ⟨g2, cap2, cur2, rfl, -⟩
  · omega
  rw [hv] at h hr2
  obtain ⟨c0, c1, c2, c3, cf, cl⟩ := h.cells
  have hcap : K.length ≤ cap := by obtain ⟨cur, g1, g2, g3, -⟩ := row_lit hr; exact g3
  have hcap2 : K.length ≤ cap2 := by obtain ⟨cur, g1, g2, g3, -⟩ := row_lit hr2; exact g3
  have SZ : Hid (∀ W, Below w.heap.size w W → Calls Tryz.prog 178 #[.pointer (some ⟨p, 0, none⟩)] W fun e w' => e = .returned (.int .i64 (szUp true K V K.length : Nat)) ∧ w' = W) := Lib.hid fun W hW => by
    have h' := h.below hW
    exact size_c p true K V _ _ _ (0, 0) W h'.blk (.of_own h'.ks) hp (fun _ => ⟨by have := h'.vs; rw [← hv] at this; have := RRow.of_own this; rw [hv] at this; exact this, hv⟩) hK hV hn
  have hgB : Hid (g < w.heap.size ∧ ¬ g = p) := Lib.hid ⟨(hr.lt g rfl).2, fun e => hgp (by rw [← e]; rfl)⟩
  have hgB2 : Hid (g2 < w.heap.size ∧ ¬ g2 = p) := Lib.hid ⟨(hr2.lt g2 rfl).2, fun e => hgp2 (by rw [← e]; rfl)⟩
  have RK : Hid (∀ W, Upd (fun k => k = p) w W → RRow W (.slice (some ⟨g, 0, none⟩) K.length cap) (K.map Value.string)) := Lib.hid fun W hW => (RRow.of_own hr).kept fun k e => by
    simp [Value.ownBlock] at e; subst e; exact hW.block _ hgB.out.1 hgB.out.2
  have RX : Hid (∀ W, Upd (fun k => k = p) w W → RRow W (.slice (some ⟨g2, 0, none⟩) K.length cap2) (V.map Value.string)) := Lib.hid fun W hW => (RRow.of_own hr2).kept fun k e => by
    simp [Value.ownBlock] at e; subst e; exact hW.block _ hgB2.out.1 hgB2.out.2
  have SZ1 : Hid (∀ W b i, i < K.length → Below w.heap.size w W → W.heap[b]? = some (.cells #[.bool true, .slice (some ⟨g, i, none⟩) 1 (cap - i), .slice (some ⟨g2, i, none⟩) 1 (cap2 - i), .slice none 0 0] 222 (0, 0)) → Calls Tryz.prog 178 #[.pointer (some ⟨b, 0, none⟩)] W fun e w' => e = .returned (.int .i64 ((3 + esz true K V i : Nat) : Int)) ∧ w' = W) := Lib.hid fun W b i hi hW hb => by
    have hU : Upd (fun k => k = p) w W := (hW.upd' (Nat.le_refl _)).mono fun _ _ e => False.elim e
    have r1 := (RK.out W hU).one (i := i) (by simp) hi
    have r2 := (RX.out W hU).one (i := i) (by simp [hv]) hi
    rw [Nat.zero_add] at r1 r2
    have e := szUp_one true K V i
    rw [← e]
    refine size_c b true [K.getD i ByteArray.empty] [V.getD i ByteArray.empty] _ _ _ (0, 0) W hb ?_ (by simp) ?_ ?_ ?_ (by simp)
    · rw [getD_at _ _ hi]; simpa using r1
    · intro _
      have hi' : i < V.length := by omega
      rw [getD_at _ _ hi']; exact ⟨by simpa using r2, rfl⟩
    · intro k hk; simp at hk; rw [hk]; have := hK _ (List.getElem_mem hi); simpa [hi] using this
    · have hi' : i < V.length := by omega
      intro k hk; simp at hk; rw [hk]; have := hV _ (List.getElem_mem hi'); simpa [hi'] using this
  have CK : Hid (∀ W i, 0 < i → i < K.length → Upd (fun k => k = p) w W → Calls Tryz.prog 215 #[.slice (some ⟨g, i, none⟩) (K.length - i) (cap - i)] W fun e w' => ∃ g' cap', e = .returned (.slice (some ⟨g', 0, none⟩) (K.length - i) cap') ∧ Hid (w'.ownsRow W.heap.size 9 1 (.slice (some ⟨g', 0, none⟩) (K.length - i) cap') (K.drop i).length ((K.drop i).map Value.string) ∧ Below W.heap.size W w')) := Lib.hid fun W i h0 hi hU => by
    have r1 := (RK.out W hU).drop (i := i) (by simp) hi
    rw [Nat.zero_add, ← List.map_drop] at r1
    have := clone_s r1 (by rw [List.length_drop]; omega) (by rw [List.length_drop]; omega)
    rw [List.length_drop] at this ⊢
    exact this
  have CX : Hid (∀ W i, 0 < i → i < K.length → Upd (fun k => k = p) w W → Calls Tryz.prog 215 #[.slice (some ⟨g2, i, none⟩) (K.length - i) (cap2 - i)] W fun e w' => ∃ g' cap', e = .returned (.slice (some ⟨g', 0, none⟩) (K.length - i) cap') ∧ Hid (w'.ownsRow W.heap.size 9 1 (.slice (some ⟨g', 0, none⟩) (K.length - i) cap') (V.drop i).length ((V.drop i).map Value.string) ∧ Below W.heap.size W w')) := Lib.hid fun W i h0 hi hU => by
    have r1 := (RX.out W hU).drop (i := i) (by simp [hv]) hi
    rw [Nat.zero_add, ← List.map_drop] at r1
    have := clone_s r1 (by rw [List.length_drop]; omega) (by rw [List.length_drop]; omega)
    rw [List.length_drop, hv] at this
    rw [List.length_drop, hv]
    exact this
  have hsz := Lib.hid (szUp_le true K V hK hV)
  have hes := Lib.hid (esz_le true K V hK hV)
  have HH := Lib.hid h
  have HP := Lib.hid h.blk
  have HCUT := Lib.hid hcut
  have HN := Lib.hid hn
  have HVL := Lib.hid hv
  have hstep : Hid (∀ i, szUp true K V (i + 1) = szUp true K V i + esz true K V i) := Lib.hid fun i => rfl
  clear h hr hr2 hcut hK hV hgp hgp2 hv
  go_enter Tryz.func179, Tryz.ntmps179
  go_wp2_with fail
  go_loopg [3, 4] K.length (fun gg s3 s4 wr => ∃ i : Nat, gg = K.length - i ∧ i ≤ K.length ∧ s3 = .int .i64 (szUp true K V i : Nat) ∧ s4 = .int .i64 (i : Int) ∧ Hid (0 < i → szUp true K V (i - 1) < szUp true K V K.length / 2) ∧ Hid (Below w.heap.size w wr))
  case atStart => exact ⟨0, rfl, Nat.zero_le _, rfl, rfl, Lib.hid fun e => absurd e (by omega), Lib.hid (Below.refl _ _)⟩
  case round =>
    obtain ⟨i, rfl, hi, rfl, rfl, hf, HB⟩ := hrel
    have S1 := Lib.hid (SZ.out wr HB.out)
    have e1 := hes.out i
    have e2 := hsz.out i
    have e3 := hsz.out K.length
    have e4 := hstep.out i
    obtain ⟨d0, d1, d2, d3, df, dl⟩ := (HH.out.below HB.out).cells
    clear c0 c1 c2 c3 cf cl
    by_cases hlt : szUp true K V i < szUp true K V K.length / 2
    · have hik : i < K.length := by
        by_cases h : i < K.length
        · exact h
        · obtain rfl : i = K.length := by omega
          omega
      go_wp2_with (go_at_call 178; refine S1.out.mono ?_; rintro e W1 ⟨rfl, rfl⟩)
      have w1 : IntKind.i64.wrap ((i : Int) + 1) = (i : Int) + 1 := wrap_small (by omega) (by omega)
      have w2 : ((0 : Int) ≤ (i : Int) + 1) = True := by simp <;> omega
      have w3 : ((i : Int) + 1 ≤ (cap : Int)) = True := by simp <;> omega
      have w4 : ((i : Int) < (cap : Int)) = True := by simp <;> omega
      have w5 : (i ≤ ((i : Int) + 1).toNat) = True := by simp <;> omega
      have w6 : (cap = i) = False := by simp <;> omega
      have w7 : ((i : Int) + 1).toNat - i = 1 := by omega
      have w8 : ((i : Int) + 1 ≤ (cap2 : Int)) = True := by simp <;> omega
      have w9 : ((i : Int) < (cap2 : Int)) = True := by simp <;> omega
      have w10 : (cap2 = i) = False := by simp <;> omega
      have SZ2 := Lib.hid (fun W b => SZ1.out W b i hik)
      have HF := Lib.hid hlt
      have HI := Lib.hid hik
      have E1 := Lib.hid e1
      have E2 := Lib.hid e2
      have E4 := Lib.hid e4
      clear e1 e2 e3 e4 hi hlt hik hp df hcap hcap2 hn hf SZ1
      go_region_held3 (fun w' => w'.cell? ⟨p, 0, none⟩ = some (.bool true) ∧ w'.cell? ⟨p, 1, none⟩ = some (.slice (some ⟨g, 0, none⟩) K.length cap)) (go_keep) (fail)
      all_goals (
        have HB1 := Lib.hid ((HB.out.alloc HB.out.size (.cells #[.bool true, .slice (some ⟨g, i, none⟩) 1 (cap - i), .slice none 0 0, .slice none 0 0] 222)).drew)
        have hone : Hid (((W1.alloc (.cells #[.bool true, .slice (some ⟨g, i, none⟩) 1 (cap - i), .slice none 0 0, .slice none 0 0] 222)).drew).heap[W1.heap.size]? = some (.cells #[.bool true, .slice (some ⟨g, i, none⟩) 1 (cap - i), .slice none 0 0, .slice none 0 0] 222 (0, 0))) := Lib.hid (heap_alloc_new _ _)
        have hbs := Lib.hid HB.out.size
        generalize ((W1.alloc (.cells #[.bool true, .slice (some ⟨g, i, none⟩) 1 (cap - i), .slice none 0 0, .slice none 0 0] 222)).drew) = W2 at *
        obtain ⟨x0, x1, x2, x3, xf, xl⟩ := (HH.out.below HB1.out).cells
        have y2 := cell_lit (i := 2) hone.out rfl
        have yf := frozen_lit hone.out 2
        clear xf d0 d1 d2 d3
        have HB3 := Lib.hid (HB1.out.setCell (p := ⟨W1.heap.size, 2, none⟩) hbs.out (.slice (some ⟨g2, i, none⟩) 1 (cap2 - i)))
        have SZ3 := Lib.hid (SZ2.out _ _ HB3.out (heap_set_lit hone.out _))
        have E1' := E1.out
        have E2' := E2.out
        go_wp2_with (go_at_call 178; refine SZ3.out.mono ?_; rintro e W5 ⟨rfl, rfl⟩)
        go_roundg (K.length - (i + 1)))
      all_goals (first
        | (case measure => have := HI.out; omega)
        | (case rel => exact ⟨i + 1, rfl, HI.out, by rw [E4.out]; congr 1; exact wrap_half E1.out E2.out HI.out HN.out, rfl, Lib.hid fun _ => HF.out, HB3⟩))
    · have hle : szUp true K V K.length / 2 ≤ szUp true K V i := by omega
      obtain ⟨k0, k1⟩ := HCUT.out i hi hle hf.out
      go_wp2_with (go_at_call 178; refine S1.out.mono ?_; rintro e W1 ⟨rfl, rfl⟩)
      have w1 : (i ≤ K.length) = True := by simp <;> omega
      have w3 : ((i : Int) ≤ (cap : Int)) = True := by simp <;> omega
      have w4 : (i ≤ cap) = True := by simp <;> omega
      have w6 : (cap = i) = False := by simp <;> omega
      have w7 : (i = 0) = False := by simp <;> omega
      have w8 : ((i : Int) ≤ (cap2 : Int)) = True := by simp <;> omega
      have w9 : (i ≤ cap2) = True := by simp <;> omega
      have w10 : (cap2 = i) = False := by simp <;> omega
      have HK0 := Lib.hid k0
      have HK1 := Lib.hid k1
      have HLE := Lib.hid hle
      have CK2 := Lib.hid (fun W => CK.out W i k0 k1)
      have CX2 := Lib.hid (fun W => CX.out W i k0 k1)
      have HU := Lib.hid (((HB.out.drew).upd' (Nat.le_refl _)).mono (S' := fun k => k = p) fun _ _ e => False.elim e)
      clear e1 e2 e3 e4 hi hle k0 k1 hlt hp df hcap hcap2 hn SZ1 CK CX S1 SZ
      go_region_law ((go_simp; go_at_call 215; refine (CK2.out _ HU.out).mono ?_; rintro e Wc ⟨g3, cap3, rfl, HR⟩
                      have HR2 := Lib.hid HR.out.2
                      have D0 : Wc.cell? ⟨p, 0, none⟩ = some (.bool true) := (World.cell?_of_block (HR2.out.block p dl)).trans d0))
      all_goals (
        have HBc := Lib.hid (HB.out.drew.trans (HR2.out.mono HB.out.size))
        have SP1 := Lib.hid (Spl.start HBc.out HP.out (ownsRow_mono HR.out.1 HB.out.size))
        generalize (Wc.alloc (.cells #[.bool true, .slice (some ⟨g3, 0, none⟩) (K.length - i) cap3, .slice none 0 0, .slice none 0 0] 222)) = W2 at *
        generalize Wc.heap.size = q at *
        clear HR HR2 D0 d0 d1 d2 d3 dl HBc HU HB CK2
        obtain ⟨x0, x1, x2, x3, xf, xl, y2, y3, yf, yl, n1, n2⟩ := SP1.out.cells
        have xf1 := xf 1
        have SP2 := Lib.hid (SP1.out.setP 1 (.slice (some ⟨g, 0, none⟩) i i) _ _ _ rfl)
        clear xf yf
        go_wp2_with fail
        refine (CX2.out _ SP2.out.up).mono ?_
        rintro e W4 ⟨g4, cap4, rfl, HR4⟩
        have SP3 := Lib.hid (SP2.out.below HR4.out.2)
        obtain ⟨z0, z1, z2, z3, zf, zl, u2, u3, uf, ul, m1, m2⟩ := SP3.out.cells
        have zfx := zf 2
        have ufx := uf 2
        have SP4 := Lib.hid (SP2.out.setV HR4.out.2 HR4.out.1)
        have SP5 := Lib.hid (SP4.out.setP 2 (.slice (some ⟨g2, 0, none⟩) i i) _ _ _ rfl)
        clear zf uf SP1 SP2 SP3 SP4 HR4 CX2 x0 x1 x2 x3 xl y2 y3 yl xf1 n1 n2
        go_wp2_with fail
        go_ret
        exact ⟨q, rfl, i, g, cap, g2, cap2, _, _, _, HK0.out, HK1.out, HLE.out, hf.out HK0.out, rfl, by rw [HVL.out], SP5.out⟩)
theorem split_inner (p : Nat) (K : List ByteArray) (C : List Nat) (vk vv vi : Value) (w : World) (h : NdP w p false K [] C vk vv vi) (hv : C.length = K.length) (hK : ∀ k ∈ K, k.size ≤ 96) (hn : K.length ≤ 65536)
    (hcut : ∀ i, i ≤ K.length → szUp false K [] K.length / 2 ≤ szUp false K [] i → (0 < i → szUp false K [] (i - 1) < szUp false K [] K.length / 2) → 0 < i ∧ i < K.length) (hp : 0 < K.length) :
    Calls Tryz.prog 179 #[.pointer (some ⟨p, 0, none⟩)] w fun e w' => ∃ q, e = .returned (.pointer (some ⟨q, 0, none⟩)) ∧ Hid (∃ i g cap g2 cap2 b1 b2 b3, 0 < i ∧ i < K.length ∧ szUp false K [] K.length / 2 ≤ szUp false K [] i ∧ szUp false K [] (i - 1) < szUp false K [] K.length / 2 ∧ vk = .slice (some ⟨g, 0, none⟩) K.length cap ∧ vi = .slice (some ⟨g2, 0, none⟩) K.length cap2 ∧
      Spl w w' p q false (.slice (some ⟨g, 0, none⟩) i i) vv (.slice (some ⟨g2, 0, none⟩) i i) (K.drop i) [] (C.drop i) b1 b2 b3) := by
  have hV : ∀ v ∈ ([] : List ByteArray), v.size ≤ 56 := by simp
  have hr := h.ks
  have hr2 := h.is
  have hgp : vk.ownBlock ≠ some p := h.pk
  have hgp2 : vi.ownBlock ≠ some p := h.pi
  rcases hr.2 with ⟨rfl, h0⟩ | ⟨g, cap, cur0, rfl, -⟩
  · omega
  rcases hr2.2 with ⟨rfl, h0⟩ | ⟨g2, cap2, cur2, rfl, -⟩
  · omega
  rw [hv] at h hr2
  obtain ⟨c0, c1, c2, c3, cf, cl⟩ := h.cells
  have hcap : K.length ≤ cap := by obtain ⟨cur, g1, g2, g3, -⟩ := row_lit hr; exact g3
  have hcap2 : K.length ≤ cap2 := by obtain ⟨cur, g1, g2, g3, -⟩ := row_lit hr2; exact g3
  have SZ : Hid (∀ W, Below w.heap.size w W → Calls Tryz.prog 178 #[.pointer (some ⟨p, 0, none⟩)] W fun e w' => e = .returned (.int .i64 (szUp false K [] K.length : Nat)) ∧ w' = W) := Lib.hid fun W hW => by
    have h' := h.below hW
    exact size_c p false K [] _ _ _ (0, 0) W h'.blk (.of_own h'.ks) hp (fun e => by cases e) hK hV hn
  have hgB : Hid (g < w.heap.size ∧ ¬ g = p) := Lib.hid ⟨(hr.lt g rfl).2, fun e => hgp (by rw [← e]; rfl)⟩
  have hgB2 : Hid (g2 < w.heap.size ∧ ¬ g2 = p) := Lib.hid ⟨(hr2.lt g2 rfl).2, fun e => hgp2 (by rw [← e]; rfl)⟩
  have RK : Hid (∀ W, Upd (fun k => k = p) w W → RRow W (.slice (some ⟨g, 0, none⟩) K.length cap) (K.map Value.string)) := Lib.hid fun W hW => (RRow.of_own hr).kept fun k e => by
    simp [Value.ownBlock] at e; subst e; exact hW.block _ hgB.out.1 hgB.out.2
  have RX : Hid (∀ W, Upd (fun k => k = p) w W → RRow W (.slice (some ⟨g2, 0, none⟩) K.length cap2) (C.map encN)) := Lib.hid fun W hW => (RRow.of_own hr2).kept fun k e => by
    simp [Value.ownBlock] at e; subst e; exact hW.block _ hgB2.out.1 hgB2.out.2
  have SZ1 : Hid (∀ W b i, i < K.length → Below w.heap.size w W → W.heap[b]? = some (.cells #[.bool false, .slice (some ⟨g, i, none⟩) 1 (cap - i), .slice none 0 0, .slice none 0 0] 222 (0, 0)) → Calls Tryz.prog 178 #[.pointer (some ⟨b, 0, none⟩)] W fun e w' => e = .returned (.int .i64 ((3 + esz false K [] i : Nat) : Int)) ∧ w' = W) := Lib.hid fun W b i hi hW hb => by
    have hU : Upd (fun k => k = p) w W := (hW.upd' (Nat.le_refl _)).mono fun _ _ e => False.elim e
    have r1 := (RK.out W hU).one (i := i) (by simp) hi
    have r2 := (RX.out W hU).one (i := i) (by simp [hv]) hi
    rw [Nat.zero_add] at r1 r2
    have e := szUp_one false K [] i
    rw [← e]
    refine size_c b false [K.getD i ByteArray.empty] [([] : List ByteArray).getD i ByteArray.empty] _ _ _ (0, 0) W hb ?_ (by simp) ?_ ?_ ?_ (by simp)
    · rw [getD_at _ _ hi]; simpa using r1
    · intro e; cases e
    · intro k hk; simp at hk; rw [hk]; have := hK _ (List.getElem_mem hi); simpa [hi] using this
    · intro k hk; simp at hk; rw [hk]; decide
  have CK : Hid (∀ W i, 0 < i → i < K.length → Upd (fun k => k = p) w W → Calls Tryz.prog 215 #[.slice (some ⟨g, i, none⟩) (K.length - i) (cap - i)] W fun e w' => ∃ g' cap', e = .returned (.slice (some ⟨g', 0, none⟩) (K.length - i) cap') ∧ Hid (w'.ownsRow W.heap.size 9 1 (.slice (some ⟨g', 0, none⟩) (K.length - i) cap') (K.drop i).length ((K.drop i).map Value.string) ∧ Below W.heap.size W w')) := Lib.hid fun W i h0 hi hU => by
    have r1 := (RK.out W hU).drop (i := i) (by simp) hi
    rw [Nat.zero_add, ← List.map_drop] at r1
    have := clone_s r1 (by rw [List.length_drop]; omega) (by rw [List.length_drop]; omega)
    rw [List.length_drop] at this ⊢
    exact this
  have CX : Hid (∀ W i, 0 < i → i < K.length → Upd (fun k => k = p) w W → Calls Tryz.prog 216 #[.slice (some ⟨g2, i, none⟩) (K.length - i) (cap2 - i)] W fun e w' => ∃ g' cap', e = .returned (.slice (some ⟨g', 0, none⟩) (K.length - i) cap') ∧ Hid (w'.ownsRow W.heap.size 3 1 (.slice (some ⟨g', 0, none⟩) (K.length - i) cap') (C.drop i).length ((C.drop i).map encN) ∧ Below W.heap.size W w')) := Lib.hid fun W i h0 hi hU => by
    have r1 := (RX.out W hU).drop (i := i) (by simp [hv]) hi
    rw [Nat.zero_add, ← List.map_drop] at r1
    have := clone_i r1 (by rw [List.length_drop]; omega) (by rw [List.length_drop]; omega)
    rw [List.length_drop, hv] at this
    rw [List.length_drop, hv]
    exact this
  have hsz := Lib.hid (szUp_le false K [] hK hV)
  have hes := Lib.hid (esz_le false K [] hK hV)
  have HH := Lib.hid h
  have HP := Lib.hid h.blk
  have HCUT := Lib.hid hcut
  have HN := Lib.hid hn
  have HVL := Lib.hid hv
  have hstep : Hid (∀ i, szUp false K [] (i + 1) = szUp false K [] i + esz false K [] i) := Lib.hid fun i => rfl
  clear h hr hr2 hcut hK hV hgp hgp2 hv
  go_enter Tryz.func179, Tryz.ntmps179
  go_wp2_with fail
  go_loopg [3, 4] K.length (fun gg s3 s4 wr => ∃ i : Nat, gg = K.length - i ∧ i ≤ K.length ∧ s3 = .int .i64 (szUp false K [] i : Nat) ∧ s4 = .int .i64 (i : Int) ∧ Hid (0 < i → szUp false K [] (i - 1) < szUp false K [] K.length / 2) ∧ Hid (Below w.heap.size w wr))
  case atStart => exact ⟨0, rfl, Nat.zero_le _, rfl, rfl, Lib.hid fun e => absurd e (by omega), Lib.hid (Below.refl _ _)⟩
  case round =>
    obtain ⟨i, rfl, hi, rfl, rfl, hf, HB⟩ := hrel
    have S1 := Lib.hid (SZ.out wr HB.out)
    have e1 := hes.out i
    have e2 := hsz.out i
    have e3 := hsz.out K.length
    have e4 := hstep.out i
    obtain ⟨d0, d1, d2, d3, df, dl⟩ := (HH.out.below HB.out).cells
    clear c0 c1 c2 c3 cf cl
    by_cases hlt : szUp false K [] i < szUp false K [] K.length / 2
    · have hik : i < K.length := by
        by_cases h : i < K.length
        · exact h
        · obtain rfl : i = K.length := by omega
          omega
      go_wp2_with (go_at_call 178; refine S1.out.mono ?_; rintro e W1 ⟨rfl, rfl⟩)
      have w1 : IntKind.i64.wrap ((i : Int) + 1) = (i : Int) + 1 := wrap_small (by omega) (by omega)
      have w2 : ((0 : Int) ≤ (i : Int) + 1) = True := by simp <;> omega
      have w3 : ((i : Int) + 1 ≤ (cap : Int)) = True := by simp <;> omega
      have w4 : ((i : Int) < (cap : Int)) = True := by simp <;> omega
      have w5 : (i ≤ ((i : Int) + 1).toNat) = True := by simp <;> omega
      have w6 : (cap = i) = False := by simp <;> omega
      have w7 : ((i : Int) + 1).toNat - i = 1 := by omega
      have w8 : ((i : Int) + 1 ≤ (cap2 : Int)) = True := by simp <;> omega
      have w9 : ((i : Int) < (cap2 : Int)) = True := by simp <;> omega
      have w10 : (cap2 = i) = False := by simp <;> omega
      have SZ2 := Lib.hid (fun W b => SZ1.out W b i hik)
      have HF := Lib.hid hlt
      have HI := Lib.hid hik
      have E1 := Lib.hid e1
      have E2 := Lib.hid e2
      have E4 := Lib.hid e4
      clear e1 e2 e3 e4 hi hlt hik hp df hcap hcap2 hn hf SZ1
      go_region_held3 (fun w' => w'.cell? ⟨p, 0, none⟩ = some (.bool false) ∧ w'.cell? ⟨p, 1, none⟩ = some (.slice (some ⟨g, 0, none⟩) K.length cap)) (go_keep) (fail)
      all_goals (
        have HB1 := Lib.hid ((HB.out.alloc HB.out.size (.cells #[.bool false, .slice (some ⟨g, i, none⟩) 1 (cap - i), .slice none 0 0, .slice none 0 0] 222)).drew)
        have hone : Hid (((W1.alloc (.cells #[.bool false, .slice (some ⟨g, i, none⟩) 1 (cap - i), .slice none 0 0, .slice none 0 0] 222)).drew).heap[W1.heap.size]? = some (.cells #[.bool false, .slice (some ⟨g, i, none⟩) 1 (cap - i), .slice none 0 0, .slice none 0 0] 222 (0, 0))) := Lib.hid (heap_alloc_new _ _)
        have hbs := Lib.hid HB.out.size
        generalize ((W1.alloc (.cells #[.bool false, .slice (some ⟨g, i, none⟩) 1 (cap - i), .slice none 0 0, .slice none 0 0] 222)).drew) = W2 at *
        obtain ⟨x0, x1, x2, x3, xf, xl⟩ := (HH.out.below HB1.out).cells
        have y2 := cell_lit (i := 2) hone.out rfl
        have yf := frozen_lit hone.out 2
        clear xf d0 d1 d2 d3
        have HB3 := HB1
        have SZ3 := Lib.hid (SZ2.out _ _ HB3.out hone.out)
        have E1' := E1.out
        have E2' := E2.out
        go_wp2_with (go_at_call 178; refine SZ3.out.mono ?_; rintro e W5 ⟨rfl, rfl⟩)
        go_roundg (K.length - (i + 1)))
      all_goals (first
        | (case measure => have := HI.out; omega)
        | (case rel => exact ⟨i + 1, rfl, HI.out, by rw [E4.out]; congr 1; exact wrap_half E1.out E2.out HI.out HN.out, rfl, Lib.hid fun _ => HF.out, HB3⟩))
    · have hle : szUp false K [] K.length / 2 ≤ szUp false K [] i := by omega
      obtain ⟨k0, k1⟩ := HCUT.out i hi hle hf.out
      go_wp2_with (go_at_call 178; refine S1.out.mono ?_; rintro e W1 ⟨rfl, rfl⟩)
      have w1 : (i ≤ K.length) = True := by simp <;> omega
      have w3 : ((i : Int) ≤ (cap : Int)) = True := by simp <;> omega
      have w4 : (i ≤ cap) = True := by simp <;> omega
      have w6 : (cap = i) = False := by simp <;> omega
      have w7 : (i = 0) = False := by simp <;> omega
      have w8 : ((i : Int) ≤ (cap2 : Int)) = True := by simp <;> omega
      have w9 : (i ≤ cap2) = True := by simp <;> omega
      have w10 : (cap2 = i) = False := by simp <;> omega
      have HK0 := Lib.hid k0
      have HK1 := Lib.hid k1
      have HLE := Lib.hid hle
      have CK2 := Lib.hid (fun W => CK.out W i k0 k1)
      have CX2 := Lib.hid (fun W => CX.out W i k0 k1)
      have HU := Lib.hid (((HB.out.drew).upd' (Nat.le_refl _)).mono (S' := fun k => k = p) fun _ _ e => False.elim e)
      clear e1 e2 e3 e4 hi hle k0 k1 hlt hp df hcap hcap2 hn SZ1 CK CX S1 SZ
      go_region_law ((go_simp; go_at_call 215; refine (CK2.out _ HU.out).mono ?_; rintro e Wc ⟨g3, cap3, rfl, HR⟩
                      have HR2 := Lib.hid HR.out.2
                      have D0 : Wc.cell? ⟨p, 0, none⟩ = some (.bool false) := (World.cell?_of_block (HR2.out.block p dl)).trans d0))
      all_goals (
        have HBc := Lib.hid (HB.out.drew.trans (HR2.out.mono HB.out.size))
        have SP1 := Lib.hid (Spl.start HBc.out HP.out (ownsRow_mono HR.out.1 HB.out.size))
        generalize (Wc.alloc (.cells #[.bool false, .slice (some ⟨g3, 0, none⟩) (K.length - i) cap3, .slice none 0 0, .slice none 0 0] 222)) = W2 at *
        generalize Wc.heap.size = q at *
        clear HR HR2 D0 d0 d1 d2 d3 dl HBc HU HB CK2
        obtain ⟨x0, x1, x2, x3, xf, xl, y2, y3, yf, yl, n1, n2⟩ := SP1.out.cells
        have xf1 := xf 1
        have SP2 := Lib.hid (SP1.out.setP 1 (.slice (some ⟨g, 0, none⟩) i i) _ _ _ rfl)
        clear xf yf
        go_wp2_with fail
        refine (CX2.out _ SP2.out.up).mono ?_
        rintro e W4 ⟨g4, cap4, rfl, HR4⟩
        have SP3 := Lib.hid (SP2.out.below HR4.out.2)
        obtain ⟨z0, z1, z2, z3, zf, zl, u2, u3, uf, ul, m1, m2⟩ := SP3.out.cells
        have zfx := zf 3
        have ufx := uf 3
        have SP4 := Lib.hid (SP2.out.setI HR4.out.2 HR4.out.1)
        have SP5 := Lib.hid (SP4.out.setP 3 (.slice (some ⟨g2, 0, none⟩) i i) _ _ _ rfl)
        clear zf uf SP1 SP2 SP3 SP4 HR4 CX2 x0 x1 x2 x3 xl y2 y3 yl xf1 n1 n2
        go_wp2_with fail
        go_ret
        exact ⟨q, rfl, i, g, cap, g2, cap2, _, _, _, HK0.out, HK1.out, HLE.out, hf.out HK0.out, rfl, by rw [HVL.out], SP5.out⟩)
end Go.Proofs.YtdcjhpafipbpkaaGreatDoor
namespace Go.Proofs.YtdcjhpafipbpkaaGreatDoor
set_option linter.unusedVariables false
set_option maxRecDepth 100000
set_option maxHeartbeats 1000000
open Go.RowKit
/-- A room that shows S, after at most m puts. -/
def RmS (w : World) (G : Nat → Prop) (rb n m : Nat) (S : RS) : Prop := ∃ puts, puts.length ≤ m ∧ Rm w G rb n puts ∧ Rep n puts S
/-- .. and goes on so. -/
def StGo (w w' : World) (G : Nat → Prop) (rb n m : Nat) (S : RS) : Prop := ∃ G', RmS w' G' rb n m S ∧ Turn G G' w w'
/-- The tree's own block. -/
def TB (w : World) (tb rb place : Nat) : Prop := w.heap[tb]? = some (.cells #[.pointer (some ⟨rb, 0, none⟩), .int .i64 (place : Int)] 190 (0, 0))
theorem RmS.below {w w' : World} {G : Nat → Prop} {rb n m : Nat} {S : RS} (h : RmS w G rb n m S) (hb : Below w.heap.size w w') : RmS w' G rb n m S := by
  obtain ⟨puts, a, b, c⟩ := h; exact ⟨puts, a, b.below hb, c⟩
theorem RmS.lt {w : World} {G : Nat → Prop} {rb n m : Nat} {S : RS} (h : RmS w G rb n m S) : ∀ k, G k → k < w.heap.size := by
  obtain ⟨puts, a, b, c⟩ := h; exact b.lt
theorem RmS.bounds {w : World} {G : Nat → Prop} {rb n m : Nat} {S : RS} (h : RmS w G rb n m S) : 1 ≤ n ∧ n ≤ 65335 := by
  obtain ⟨puts, a, b, c⟩ := h; exact b.bounds
theorem RmS.more {w : World} {G : Nat → Prop} {rb n m m' : Nat} {S : RS} (h : RmS w G rb n m S) (hm : m ≤ m') : RmS w G rb n m' S := by
  obtain ⟨puts, a, b, c⟩ := h; exact ⟨puts, by omega, b, c⟩
theorem RmS.lim {w : World} {G : Nat → Prop} {rb n m : Nat} {S : RS} (h : RmS w G rb n m S) : ∀ p, S.used p = true → p < pagesN n := by
  obtain ⟨puts, a, b, c⟩ := h; exact c.lim
theorem StGo.of_room {w w' : World} {G : Nat → Prop} {rb n m c : Nat} {S : RS} {puts : List (Int × ByteArray)} (h : RoomGo w w' G rb n puts S c) (hm : puts.length ≤ m) : StGo w w' G rb n (m + c) S := by
  obtain ⟨G', puts', a, b, d, e⟩ := h
  exact ⟨G', ⟨puts', by omega, b, d⟩, e⟩
theorem StGo.below_left {w W w' : World} {G : Nat → Prop} {rb n m : Nat} {S : RS} (hb : Below w.heap.size w W) (h : StGo W w' G rb n m S) : StGo w w' G rb n m S := by
  obtain ⟨G', a, b⟩ := h; exact ⟨G', a, b.below_left hb⟩
theorem StGo.upd {w w' : World} {G : Nat → Prop} {rb n m : Nat} {S : RS} (h : StGo w w' G rb n m S) : Upd G w w' := by
  obtain ⟨G', a, b⟩ := h; exact b.upd
theorem TB.upd {w w' : World} {tb rb place : Nat} {F : Nat → Prop} (h : TB w tb rb place) (hu : Upd F w w') (hn : ¬ F tb) : TB w' tb rb place := hu.at h hn
theorem TB.below {w w' : World} {tb rb place : Nat} (h : TB w tb rb place) (hb : Below w.heap.size w w') : TB w' tb rb place := (hb.block tb (lt_of_heap h)).trans h
theorem TB.cells {w : World} {tb rb place : Nat} (h : TB w tb rb place) : w.cell? ⟨tb, 0, none⟩ = some (.pointer (some ⟨rb, 0, none⟩)) ∧ w.cell? ⟨tb, 1, none⟩ = some (.int .i64 (place : Int)) := ⟨cell_lit h rfl, cell_lit h rfl⟩
theorem wrap_u64 {v : Nat} (h : v < 18446744073709551616) : IntKind.u64.wrap (v : Int) = (v : Int) := by
  simp only [IntKind.wrap, IntKind.bits, IntKind.signed]; simp; omega
theorem must_c (w : World) : Calls Tryz.prog 131 #[.int .i64 0] w fun e w' => e = .returned (.tuple #[]) ∧ w' = w := by
  go_enter Tryz.func131, Tryz.ntmps131
  go_wp2_with fail
  go_end0
  exact ⟨rfl, rfl⟩
theorem root_c (G : Nat → Prop) (tb rb place n m : Nat) (S : RS) (w : World) (h : RmS w G rb n m S) (ht : TB w tb rb place) (hp : place < 16) (hm : m ≤ 4000000) (hr : S.root place ≤ 65536) :
    Calls Tryz.prog 125 #[.pointer (some ⟨tb, 0, none⟩)] w fun e w' => e = .returned (.int .i64 ((S.root place : Int) - 1)) ∧ Hid (Below w.heap.size w w') := by
  obtain ⟨puts, h1, h2, h3⟩ := h
  obtain ⟨c0, c1⟩ := ht.cells
  have MU := must_c
  have RC : Hid (Calls Tryz.prog 69 #[.pointer (some ⟨rb, 0, none⟩), .int .i64 (place : Int)] w.drew fun e w' => e = .returned (.tuple #[.int .u64 (S.root place : Int), .int .i64 0]) ∧ (w'.cell? ⟨tb, 0, none⟩ = some (.pointer (some ⟨rb, 0, none⟩)) ∧ w'.cell? ⟨tb, 1, none⟩ = some (.int .i64 (place : Int))) ∧ Hid (Below w.heap.size w w')) := Lib.hid (by
    refine (Root_c G rb n puts S place w.drew (h2.below (Below.refl _ _).drew) h3 (by omega) hp).mono ?_
    rintro e w' ⟨rfl, hb⟩
    have hb' : Below w.heap.size w w' := (Below.refl w.heap.size w).drew.trans hb
    exact ⟨rfl, (ht.below hb').cells, hb'⟩)
  have hq : S.root place ≤ 65536 := hr
  generalize S.root place = v at *
  clear h2 h3 ht hr
  go_enter Tryz.func125, Tryz.ntmps125
  go_wp2_with fail
  go_region_held3 (fun w' => w'.cell? ⟨tb, 0, none⟩ = some (.pointer (some ⟨rb, 0, none⟩)) ∧ w'.cell? ⟨tb, 1, none⟩ = some (.int .i64 (place : Int))) (go_keep) ((go_at_call 69; refine Calls.at_args RC.out (by with_reducible rfl) ?_; rintro e w1 ⟨rfl, hk, HB⟩))
  go_wp2_with (go_at_call 131; refine (MU _).mono ?_; rintro e w2 ⟨rfl, rfl⟩)
  go_ret
  exact ⟨rfl, HB⟩
theorem setRoot_c (G : Nat → Prop) (tb rb place n m : Nat) (S : RS) (v : Nat) (w : World) (h : RmS w G rb n m S) (ht : TB w tb rb place) (hg : ¬ G tb) (hp : place < 16) (hm : m ≤ 4000000) (hv : v ≤ 65536) :
    Calls Tryz.prog 126 #[.pointer (some ⟨tb, 0, none⟩), .int .i64 ((v : Int) - 1)] w fun e w' => e = .returned (.tuple #[]) ∧ Hid (StGo w w' G rb n (m + 1) (setRootS S place v)) := by
  obtain ⟨puts, h1, h2, h3⟩ := h
  obtain ⟨c0, c1⟩ := ht.cells
  have MU := must_c
  have SR : Hid (Calls Tryz.prog 72 #[.pointer (some ⟨rb, 0, none⟩), .int .i64 (place : Int), .int .u64 (v : Int)] w.drew fun e w' => e = .returned (.int .i64 0) ∧ (w'.cell? ⟨tb, 0, none⟩ = some (.pointer (some ⟨rb, 0, none⟩)) ∧ w'.cell? ⟨tb, 1, none⟩ = some (.int .i64 (place : Int))) ∧ Hid (StGo w w' G rb n (m + 1) (setRootS S place v))) := Lib.hid (by
    refine (SetRoot_c G rb n puts S place v w.drew (h2.below (Below.refl _ _).drew) h3 (by omega) hp (by omega)).mono ?_
    rintro e w' ⟨rfl, hgo⟩
    have hgo' := (StGo.of_room hgo h1).below_left ((Below.refl w.heap.size w).drew)
    exact ⟨rfl, (ht.upd hgo'.upd hg).cells, hgo'⟩)
  have hw : IntKind.i64.wrap (v : Int) = (v : Int) := wrap_small (by omega) (by omega)
  have hw2 : IntKind.u64.wrap (v : Int) = (v : Int) := wrap_u64 (by omega)
  clear h2 h3 ht
  go_enter Tryz.func126, Tryz.ntmps126
  go_wp2_with fail
  go_region_held3 (fun w' => w'.cell? ⟨tb, 0, none⟩ = some (.pointer (some ⟨rb, 0, none⟩)) ∧ w'.cell? ⟨tb, 1, none⟩ = some (.int .i64 (place : Int))) (go_keep) ((first
    | (go_at_call 72; refine Calls.at_args SR.out (by with_reducible rfl) ?_; rintro e w1 ⟨rfl, hk, HG⟩)
    | (go_at_call 131; refine (MU _).mono ?_; rintro e w2 ⟨rfl, rfl⟩)))
  go_end0
  exact ⟨rfl, HG⟩
theorem ntext_c (d : Nd) (q : Nat) (F : Nat → Prop) (w : World) (hd : d.Ok) (h : RdIn w q d F) :
    Calls Tryz.prog 212 #[.pointer (some ⟨q, 0, none⟩)] w fun e w' => e = .returned (.string (ofL d.bytes)) ∧ Below w.heap.size w w' := by
  obtain ⟨vk, vv, vi, h, -⟩ := h
  cases d with
  | leaf l => exact text_leaf l q vk vv vi w hd h
  | inner l => exact text_inner l q vk vv vi w hd h
theorem write_c (G F : Nat → Prop) (tb rb place n m : Nat) (S : RS) (p q : Nat) (d : Nd) (w : World) (h : RmS w G rb n m S) (ht : TB w tb rb place) (hg : ¬ G tb) (hm : m ≤ 4000000) (hd : d.Ok) (hs : d.size ≤ 512) (hq : RdIn w q d F) (hu : S.used p = true) :
    Calls Tryz.prog 176 #[.pointer (some ⟨tb, 0, none⟩), .int .i64 (p : Int), .pointer (some ⟨q, 0, none⟩)] w fun e w' => e = .returned (.tuple #[]) ∧ Hid (StGo w w' G rb n (m + 1) (wrS S p d)) := by
  obtain ⟨puts, h1, h2, h3⟩ := h
  obtain ⟨c0, c1⟩ := ht.cells
  have MU := must_c
  have hql : q < w.heap.size := by obtain ⟨vk, vv, vi, a, b⟩ := hq; exact lt_of_heap a.blk
  have TX : Hid (Calls Tryz.prog 212 #[.pointer (some ⟨q, 0, none⟩)] w.drew fun e w' => e = .returned (.string (ofL d.bytes)) ∧ w'.cell? ⟨tb, 0, none⟩ = some (.pointer (some ⟨rb, 0, none⟩)) ∧ Hid (Below w.heap.size w w')) := Lib.hid (by
    refine (ntext_c d q F w.drew hd (hq.upd (S := fun _ => False) (Upd.refl _ _).drew fun _ _ _ e => e)).mono ?_
    rintro e w' ⟨rfl, hb⟩
    have hb' : Below w.heap.size w w' := (Below.refl w.heap.size w).drew.trans hb
    exact ⟨rfl, (ht.below hb').cells.1, hb'⟩)
  have PW : Hid (∀ W, Below w.heap.size w W → Calls Tryz.prog 172 #[.pointer (some ⟨rb, 0, none⟩), .int .i64 (p : Int), .string (ofL d.bytes)] W fun e w' => e = .returned (.int .i64 0) ∧ w'.cell? ⟨tb, 0, none⟩ = some (.pointer (some ⟨rb, 0, none⟩)) ∧ Hid (StGo w w' G rb n (m + 1) (wrS S p d))) := Lib.hid fun W hW => by
    refine (PWrite_c G rb n puts S p (ofL d.bytes) W (h2.below hW) h3 (by omega) hu (by rw [ofL_size, bytes_len]; exact hs)).mono ?_
    rintro e w' ⟨rfl, hgo⟩
    have hgo' : StGo w w' G rb n (m + 1) (wrS S p d) := (StGo.of_room hgo h1).below_left hW
    exact ⟨rfl, (ht.upd hgo'.upd hg).cells.1, hgo'⟩
  generalize ofL d.bytes = s at *
  clear h2 h3 ht hq
  go_enter Tryz.func176, Tryz.ntmps176
  go_wp2_with fail
  go_region_held3 (fun w' => w'.cell? ⟨tb, 0, none⟩ = some (.pointer (some ⟨rb, 0, none⟩))) (go_keep) ((first
    | (go_at_call 212; refine Calls.at_args TX.out (by with_reducible rfl) ?_; rintro e w1 ⟨rfl, hk, HB⟩)
    | (go_at_call 172; refine Calls.at_args (PW.out _ HB.out) (by with_reducible rfl) ?_; rintro e w3 ⟨rfl, hk3, HG⟩)
    | (go_at_call 131; refine (MU _).mono ?_; rintro e w2 ⟨rfl, rfl⟩)))
  all_goals go_end0
  all_goals exact ⟨rfl, HG⟩
theorem pad_of (l : List UInt8) : pad (ofL l) = ofL (l ++ List.replicate (512 - l.length) 0) := by
  unfold pad; rw [ofL_size, toList_ofL]; rfl
theorem read_c (G : Nat → Prop) (tb rb place n m : Nat) (S : RS) (p : Nat) (d : Nd) (w : World) (h : RmS w G rb n m S) (ht : TB w tb rb place) (hm : m ≤ 4000000) (hd : d.Ok) (hs : d.size ≤ 512) (hu : S.used p = true) (hc : S.cont p = pad (ofL d.bytes)) :
    Calls Tryz.prog 133 #[.pointer (some ⟨tb, 0, none⟩), .int .i64 (p : Int)] w fun e w' => ∃ q, e = .returned (.pointer (some ⟨q, 0, none⟩)) ∧ Hid (∃ F, IsNd w' F q d ∧ (∀ k, F k → w.heap.size ≤ k) ∧ Below w.heap.size w w') := by
  obtain ⟨puts, h1, h2, h3⟩ := h
  obtain ⟨c0, c1⟩ := ht.cells
  have MU := must_c
  have hnot : ∀ (x : Bool) (w : World), (Op.unary .not (.bool x)).run Tryz.prog w = .ok (.bool (!x)) w := fun _ _ => rfl
  have RD : Hid (Calls Tryz.prog 183 #[.pointer (some ⟨rb, 0, none⟩), .int .i64 (p : Int)] w fun e w' => e = .returned (.tuple #[.string (S.cont p), .int .i64 0]) ∧ Below w.heap.size w w') := Lib.hid (PRead_c G rb n puts S p w h2 h3 (by omega) hu)
  rw [hc, pad_of] at RD
  have PC : Hid (∀ W, Below w.heap.size w W → Calls Tryz.prog 184 #[.string (ofL (d.bytes ++ List.replicate (512 - d.bytes.length) 0))] W fun e w' => ∃ p, e = .returned (.tuple #[.pointer (some ⟨p, 0, none⟩), .bool true]) ∧ Hid (∃ F, IsNd w' F p d ∧ (∀ k, F k → w.heap.size ≤ k) ∧ Below w.heap.size w w')) := Lib.hid fun W hW => by
    have hl := bytes_len d
    refine (parse_c d (List.replicate (512 - d.bytes.length) 0) W hd (by simp; omega)).mono ?_
    rintro e w' ⟨p, rfl, F, a, b, c⟩
    exact ⟨p, rfl, F, a, fun k hk => Nat.le_trans hW.size (b k hk), hW.trans (c.mono hW.size)⟩
  generalize ofL (d.bytes ++ List.replicate (512 - d.bytes.length) 0) = s at *
  clear h2 h3 ht hc
  go_enter Tryz.func133, Tryz.ntmps133
  go_wp2_with (first
    | (go_at_call 183; refine RD.out.mono ?_; rintro e w1 ⟨rfl, hb⟩; have HB := Lib.hid hb; clear hb)
    | (go_at_call 131; refine (MU _).mono ?_; rintro e w2 ⟨rfl, rfl⟩)
    | (go_at_call 184; refine (PC.out _ HB.out).mono ?_; rintro e w3 ⟨q, rfl, HQ⟩))
  go_ret
  exact ⟨q, rfl, HQ⟩
theorem alloc_c (G : Nat → Prop) (rb n m : Nat) (S : RS) (w : World) (h : RmS w G rb n m S) (hm : m ≤ 3999990) (hfree : ∃ q, q < pagesN n ∧ S.used q = false) :
    Calls Tryz.prog 44 #[.pointer (some ⟨rb, 0, none⟩)] w fun e w' => ∃ p : Nat, e = .returned (.tuple #[.int .i64 p, .int .i64 0]) ∧ Hid (p < pagesN n ∧ S.used p = false ∧ StGo w w' G rb n (m + 2) (allocS S p)) := by
  obtain ⟨puts, h1, h2, h3⟩ := h
  refine (Alloc_c G rb n puts S w h2 h3 (by omega) hfree).mono ?_
  rintro e w' ⟨p, rfl, a, b, c⟩
  exact ⟨p, rfl, a, b, StGo.of_room c h1⟩
theorem fresh_c (G F : Nat → Prop) (tb rb place n m : Nat) (S : RS) (q : Nat) (d : Nd) (w : World) (h : RmS w G rb n m S) (ht : TB w tb rb place) (hg : ¬ G tb) (hm : m ≤ 3999980) (hd : d.Ok) (hs : d.size ≤ 512) (hq : RdIn w q d F) (hF : ∀ k, F k → ¬ G k) (hfree : ∃ q, q < pagesN n ∧ S.used q = false) :
    Calls Tryz.prog 127 #[.pointer (some ⟨tb, 0, none⟩), .pointer (some ⟨q, 0, none⟩)] w fun e w' => ∃ p : Nat, e = .returned (.int .i64 p) ∧ Hid (p < pagesN n ∧ S.used p = false ∧ StGo w w' G rb n (m + 3) (wrS (allocS S p) p d)) := by
  obtain ⟨c0, c1⟩ := ht.cells
  have MU := must_c
  have AL := Lib.hid (alloc_c G rb n m S w h (by omega) hfree)
  have hql : q < w.heap.size := by obtain ⟨vk, vv, vi, a, b⟩ := hq; exact lt_of_heap a.blk
  have htl := lt_of_heap ht
  have WR : Hid (∀ (p : Nat) W, p < pagesN n → S.used p = false → StGo w W G rb n (m + 2) (allocS S p) → Calls Tryz.prog 176 #[.pointer (some ⟨tb, 0, none⟩), .int .i64 (p : Int), .pointer (some ⟨q, 0, none⟩)] W fun e w' => e = .returned (.tuple #[]) ∧ Hid (StGo w w' G rb n (m + 3) (wrS (allocS S p) p d))) := Lib.hid fun p W hp hu hW => by
    obtain ⟨G', a, b⟩ := hW
    refine (write_c G' F tb rb place n (m + 2) (allocS S p) p q d W a (ht.upd b.upd hg) (fun e => ?_) (by omega) hd hs (hq.upd b.upd fun k hk _ => hF k hk) ?_).mono ?_
    · rcases b.sub tb e with x | x
      · exact hg x
      · omega
    · show flip S.used p p = true
      unfold flip; rw [if_pos rfl, hu]; rfl
    · rintro e w' ⟨rfl, G2, x, y⟩
      exact ⟨rfl, G2, x, b.trans y⟩
  clear h ht hq
  go_enter Tryz.func127, Tryz.ntmps127
  go_wp2_with fail
  refine AL.out.mono ?_
  rintro e w1 ⟨p, rfl, HP⟩
  have WR2 := Lib.hid (WR.out p w1 HP.out.1 HP.out.2.1 HP.out.2.2)
  clear WR AL
  go_wp2_with (first
    | (go_at_call 131; refine (MU _).mono ?_; rintro e w2 ⟨rfl, rfl⟩)
    | (go_at_call 176; refine WR2.out.mono ?_; rintro e w3 ⟨rfl, HW⟩))
  go_ret
  exact ⟨p, rfl, HP.out.1, HP.out.2.1, HW.out⟩
end Go.Proofs.YtdcjhpafipbpkaaGreatDoor
namespace Go.Proofs.YtdcjhpafipbpkaaGreatDoor
set_option linter.unusedVariables false
set_option maxRecDepth 100000
set_option maxHeartbeats 1000000
open Go.RowKit
/-- A page that holds a text. -/
def pgB (s : ByteArray) : ByteArray := ⟨#[0, 0, 0, 0, 0, UInt8.ofNat s.size]⟩ ++ s
theorem pgB_size (s : ByteArray) : (pgB s).size = 6 + s.size := by
  unfold pgB; rw [ByteArray.size_append]; rfl
theorem strSix (x : UInt8) : strOfNums [0, 0, 0, 0, 0, (x.toNat : Int)] = ⟨#[0, 0, 0, 0, 0, x]⟩ := by
  apply ByteArray.ext
  simp [strOfNums]
theorem conv_six (x : UInt8) (g : Nat) (W : World) (h0 : W.cell? ⟨g, 0, none⟩ = some (.int .u8 0)) (h1 : W.cell? ⟨g, 1, none⟩ = some (.int .u8 0)) (h2 : W.cell? ⟨g, 2, none⟩ = some (.int .u8 0)) (h3 : W.cell? ⟨g, 3, none⟩ = some (.int .u8 0)) (h4 : W.cell? ⟨g, 4, none⟩ = some (.int .u8 0)) (h5 : W.cell? ⟨g, 5, none⟩ = some (.int .u8 (x.toNat : Int))) :
    (convert 91 9 (.slice (some ⟨g, 0, none⟩) 6 6)).run Tryz.prog W = .ok (.string ⟨#[0, 0, 0, 0, 0, x]⟩) W := by
  have := run_convert_bytes_arg (P := Tryz.prog) W 91 5 Tryz.underlying91 Tryz.underlying5 g 0 6 6 [0, 0, 0, 0, 0, (x.toNat : Int)] rfl (fun i hi => by
    have : i = 0 ∨ i = 1 ∨ i = 2 ∨ i = 3 ∨ i = 4 ∨ i = 5 := by omega
    rcases this with rfl | rfl | rfl | rfl | rfl | rfl
    · exact h0
    · exact h1
    · exact h2
    · exact h3
    · exact h4
    · exact h5) 9 Tryz.underlying9
  rwa [strSix] at this
theorem page_c (s : ByteArray) (w : World) (hs : s.size ≤ 128) :
    Calls Tryz.prog 173 #[.int .i64 0, .string s] w fun e w' => e = .returned (.string (pgB s)) ∧ Hid (Below w.heap.size w w') := by
  have u1 : (UInt8.ofNat s.size).toNat = s.size := by rw [UInt8.toNat_ofNat']; omega
  have hcv := conv_six (UInt8.ofNat s.size) w.heap.size (w.alloc (.cells #[.int .u8 0, .int .u8 0, .int .u8 0, .int .u8 0, .int .u8 0, .int .u8 ((UInt8.ofNat s.size).toNat : Int)] 5)) (cell_lit (heap_alloc_new _ _) rfl) (cell_lit (heap_alloc_new _ _) rfl) (cell_lit (heap_alloc_new _ _) rfl) (cell_lit (heap_alloc_new _ _) rfl) (cell_lit (heap_alloc_new _ _) rfl) (cell_lit (heap_alloc_new _ _) rfl)
  rw [u1] at hcv
  have HB : Hid (∀ o : Obj, Below w.heap.size w (w.alloc o)) := Lib.hid fun o => (Below.refl w.heap.size w).alloc (Nat.le_refl _) o
  have HE : Hid (pgB s = (⟨#[0, 0, 0, 0, 0, UInt8.ofNat s.size]⟩ : ByteArray) ++ s) := Lib.hid rfl
  have hz : (⟨#[0, 0, 0, 0, 0, UInt8.ofNat s.size]⟩ : ByteArray).size = 6 := rfl
  generalize (⟨#[0, 0, 0, 0, 0, UInt8.ofNat s.size]⟩ : ByteArray) = hd at *
  have ha : (hd.size + s.size > 9223372036854775807) = False := by simp; omega
  have ha2 : (9223372036854775807 < hd.size + s.size) = False := ha
  have d1 : (s.size : Int) / 256 = 0 := by omega
  have d2 : (s.size : Int) % 256 = (s.size : Int) := by omega
  have b0 : (0 : Int) ≤ (s.size : Int) := by omega
  have b1 : (s.size : Int) ≤ 128 := by omega
  generalize pgB s = R at *
  clear u1 hz hs
  go_enter Tryz.func173, Tryz.ntmps173
  go_wp2_with fail
  go_ret
  exact ⟨by rw [HE.out]; rfl, HB.out _⟩
/-- The bytes of such a page. -/
theorem pg_get (s : ByteArray) (hs : s.size ≤ 128) : (∀ k, k < 5 → (pad (pgB s))[k]? = some 0) ∧ (pad (pgB s))[5]? = some (UInt8.ofNat s.size) ∧ (pad (pgB s)).extract 6 (6 + s.size) = s ∧ (pad (pgB s)).size = 512 := by
  have hl : (pad (pgB s)).data.toList = [0, 0, 0, 0, 0, UInt8.ofNat s.size] ++ (s.data.toList ++ List.replicate (512 - (pgB s).size) 0) := by
    unfold pad pgB; simp
  have hsz : (pad (pgB s)).size = 512 := pad_size (by rw [pgB_size]; omega)
  have hg : ∀ k, (h : k < 512) → (pad (pgB s))[k]? = (pad (pgB s)).data.toList[k]? := fun k h => by
    rw [getElem?_pos _ k (by rw [hsz]; exact h), List.getElem?_eq_getElem (by rw [← Lib.size_eq, hsz]; exact h)]
    rfl
  refine ⟨fun k hk => ?_, ?_, ?_, hsz⟩
  · rw [hg k (by omega), hl]
    have : k = 0 ∨ k = 1 ∨ k = 2 ∨ k = 3 ∨ k = 4 := by omega
    rcases this with rfl | rfl | rfl | rfl | rfl <;> rfl
  · rw [hg 5 (by omega), hl]; rfl
  · apply ByteArray.ext
    apply Array.ext'
    rw [ByteArray.data_extract, Array.toList_extract, List.extract, hl]
    rw [Lib.size_eq]
    simp
theorem read_b (G : Nat → Prop) (rb n m : Nat) (S : RS) (p : Nat) (s : ByteArray) (w : World) (h : RmS w G rb n m S) (hm : m ≤ 4000000) (hs : s.size ≤ 128) (hu : S.used p = true) (hc : S.cont p = pad (pgB s)) :
    Calls Tryz.prog 168 #[.pointer (some ⟨rb, 0, none⟩), .int .i64 (p : Int)] w fun e w' => e = .returned (.tuple #[.int .i64 0, .string s, .int .i64 0]) ∧ Hid (Below w.heap.size w w') := by
  obtain ⟨puts, h1, h2, h3⟩ := h
  have RD := PRead_c G rb n puts S p w h2 h3 (by omega) hu
  rw [hc] at RD
  obtain ⟨g0, g5, hex, hz⟩ := pg_get s hs
  generalize pad (pgB s) = z at *
  have i0 := fun W => run_idx_str (P := Tryz.prog) 9 z 0 0 Tryz.underlying9 (g0 0 (by decide)) W
  have i1 := fun W => run_idx_str (P := Tryz.prog) 9 z 1 0 Tryz.underlying9 (g0 1 (by decide)) W
  have i2 := fun W => run_idx_str (P := Tryz.prog) 9 z 2 0 Tryz.underlying9 (g0 2 (by decide)) W
  have i3 := fun W => run_idx_str (P := Tryz.prog) 9 z 3 0 Tryz.underlying9 (g0 3 (by decide)) W
  have i4 := fun W => run_idx_str (P := Tryz.prog) 9 z 4 0 Tryz.underlying9 (g0 4 (by decide)) W
  have i5 := fun W => run_idx_str (P := Tryz.prog) 9 z 5 _ Tryz.underlying9 g5 W
  rw [show (UInt8.ofNat s.size).toNat = s.size by rw [UInt8.toNat_ofNat']; omega] at i5
  simp only [show ((0 : Nat) : Int) = 0 from rfl, show ((1 : Nat) : Int) = 1 from rfl, show ((2 : Nat) : Int) = 2 from rfl, show ((3 : Nat) : Int) = 3 from rfl, show ((4 : Nat) : Int) = 4 from rfl, show ((5 : Nat) : Int) = 5 from rfl, show (0 : UInt8).toNat = 0 from rfl] at i0 i1 i2 i3 i4 i5
  have o0 : bits .or .i64 0 0 = 0 := by decide
  have oo : ∀ k : Fin 129, bits .or .i64 0 (k.val : Int) = (k.val : Int) := by decide +kernel
  have o1 : bits .or .i64 0 (s.size : Int) = (s.size : Int) := oo ⟨s.size, by omega⟩
  have HEX := Lib.hid hex
  obtain ⟨k, hk⟩ : ∃ k, s.size = k := ⟨_, rfl⟩
  rw [hk] at i5 o1 hex hs
  have b1 : (k : Int) ≤ 128 := by omega
  have t1 : (6 + (k : Int)).toNat = 6 + k := by omega
  have l1 : ¬ (506 : Int) < (k : Int) := by omega
  clear h2 h3 hu hc g0 g5 hk oo
  go_enter Tryz.func168, Tryz.ntmps168
  go_wp2_with fail
  refine RD.mono ?_
  rintro e w1 ⟨rfl, hb⟩
  have HB := Lib.hid hb
  clear RD hb
  go_wp2_with fail
  go_quiet (fail)
  go_wp2_with fail
  go_quiet (fail)
  go_wp2_with fail
  go_quiet (fail)
  go_wp2_with fail
  go_ret3
  exact ⟨rfl, Lib.hid (Below.drewN (Below.drewN HB.out _) _)⟩
theorem own_le9 {w : World} {base base' size n : Nat} {e : TypeId} {v : Value} {xs : List Value} (h : w.ownsRow base e size v n xs) (hb : base' ≤ base) : w.ownsRow base' e size v n xs :=
  ⟨h.1, h.2.imp id (fun ⟨g, cap, cur, a, b, c⟩ => ⟨g, cap, cur, a, Nat.le_trans hb b, c⟩)⟩
/-- A row of numbers stands where bytes are written. -/
theorem rowi_kept {w w' : World} {base n b : Nat} {v : Value} {xs : List Value} (h : w.ownsRow base 3 1 v n xs) (hk : Lib.OthersKept 5 (some b) w w') (hb : v.ownBlock ≠ some b) : w'.ownsRow base 3 1 v n xs := by
  refine ⟨h.1, ?_⟩
  rcases h.2 with h0 | ⟨g, cap, cur, rfl, hbg, hg, rest⟩
  · exact .inl h0
  · exact .inr ⟨g, cap, cur, rfl, hbg, hk g _ hg (fun e => hb e) (fun c fz e => by cases e), rest⟩
theorem bld_blank {w w' : World} (h : w'.heap[w.heap.size]? = some (.cells #[.pointer none, .slice none 0 0] 156 (0, 0))) : Bld w.heap.size w.heap.size [] w' :=
  .inl ⟨Nat.le_refl _, _, h, World.ownsRowF_of (World.ownsRow_nil _ _ _ _), by simp [Value.ownBlock]⟩
theorem bld_strK (B b : Nat) (l : List UInt8) (S : ByteArray) (w : World) (h : Bld B b l w) (hB : B ≤ w.heap.size) (hl : l.length + S.size ≤ 100000000000) :
    Calls Tryz.prog 82 #[.pointer (some ⟨b, 0, none⟩), .string S] w fun e w' => e = .returned (.tuple #[.int .i64 S.size, .nilIface]) ∧ Hid (Bld B b (l ++ S.data.toList) w' ∧ Below B w w' ∧ Lib.OthersKept 5 (some b) w w') := by
  refine (Tryz.Builder_WriteString_k B b (Lib.byteCells l) S w h (by rw [byteCells_length]; omega) hB).mono ?_
  rintro e w' ⟨rfl, h1, h2, h3⟩
  refine ⟨rfl, Lib.hid ⟨?_, h2, h3⟩⟩
  have := Bld.of (l := l ++ S.data.toList) (by simpa [Lib.byteCells, Lib.strCells] using h1)
  exact this
theorem walk_b (G : Nat → Prop) (rb n m : Nat) (S : RS) (p : Nat) (s : ByteArray) (w : World) (h : RmS w G rb n m S) (hm : m ≤ 4000000) (hs : s.size ≤ 128) (hu : S.used p = true) (hc : S.cont p = pad (pgB s)) :
    Calls Tryz.prog 117 #[.pointer (some ⟨rb, 0, none⟩), .int .i64 (p : Int)] w fun e w' => ∃ v, e = .returned (.tuple #[v, .string s, .int .i64 0]) ∧ Hid (w'.ownsRow w.heap.size 3 1 v 1 [.int .i64 (p : Int)] ∧ Below w.heap.size w w') := by
  obtain ⟨jI, hjI, hI0, hI1, hI2⟩ := info_parts infoI
  obtain ⟨w0, hw0⟩ : ∃ w0, w.alloc (.cells #[.pointer none, .slice none 0 0] 156) = w0 := ⟨_, rfl⟩
  have hb0 : Below w.heap.size w w0 := by rw [← hw0]; exact (Below.refl w.heap.size w).alloc (Nat.le_refl _) _
  have hk0 : w0.heap[w.heap.size]? = some (.cells #[.pointer none, .slice none 0 0] 156 (0, 0)) := by rw [← hw0]; exact heap_alloc_new _ _
  have RD := read_b G rb n m S p s w0 (h.below hb0) hm hs hu hc
  have HB0 := Lib.hid hb0
  have HK0 := Lib.hid hk0
  have HS := Lib.hid hs
  have HL : Hid (([] : List Nat).length + 1 ≤ maxLen ∧ (([] : List Nat).length + 1) * 8 ≤ 140737488355328) := Lib.hid (by unfold maxLen; decide)
  clear h hm hs hu hc hb0 hk0
  go_enter Tryz.func117, Tryz.ntmps117
  go_wp2_with fail
  clear hw0
  first
    | (refine wp_loop_rounds 1 ?_; rw [rounds_succ])
    | skip
  go_wp2_with fail
  refine RD.mono ?_
  rintro e w1 ⟨rfl, H1⟩
  have B1 := Lib.hid (HB0.out.trans (H1.out.mono HB0.out.size))
  have K1 := Lib.hid ((H1.out.block _ (lt_of_heap HK0.out)).trans HK0.out)
  have HO6 := Lib.hid ((World.ownsRow_nil w1 w1.heap.size 3 1).alloc (.cells #[.int .i64 (p : Int)] 3))
  have HS6 : Hid (w1.heap.size ≤ (w1.alloc (.cells #[.int .i64 (p : Int)] 3)).heap.size) := Lib.hid (by simp)
  clear RD H1
  go_wp2_with (
    (refine chkA 191 191 ⟨_, _, by with_reducible rfl⟩ ?_
     refine wpList_append_y (by rfl) _ _ _ rfl w1.heap.size 3 jI _ 1 8 Tryz.underlying191 hjI hI0 hI1 hI2 rfl (by decide) _ _ _ (by rfl) HO6.out _ 1 _ (by rfl) (yields_boxL _ #[.int .i64 (p : Int)] _ 1 1) rfl (one1 _ rfl) HL.out.1 HL.out.2 HS6.out ?_
     intro v5 W5 ho5 hg5 ha5
     have R5 : Hid (W5.ownsRow w1.heap.size 3 1 v5 1 [.int .i64 (p : Int)]) := Lib.hid (by simpa using ho5)
     have B5 : Hid (Below w1.heap.size w1 W5) := Lib.hid (((Below.refl w1.heap.size w1).alloc (Nat.le_refl _) _).grown hg5 HS6.out (fun k e => (HO6.out.lt k e).1))
     clear ho5 hg5 ha5))
  have K5 := (B5.out.block _ (lt_of_heap K1.out)).trans K1.out
  have hsz1 : w.heap.size ≤ w1.heap.size := B1.out.size
  have hsz5 : w1.heap.size ≤ W5.heap.size := B5.out.size
  have hne : v5.ownBlock ≠ some w.heap.size := fun e => by
    have h1 := (R5.out.lt _ e).1
    have h2 := lt_of_heap K1.out
    omega
  have WS := bld_strK w.heap.size w.heap.size [] s W5 (bld_blank K5) (by omega) (by have := HS.out; simp; omega)
  have HNE := Lib.hid hne
  have HZ := Lib.hid (And.intro hsz1 hsz5)
  clear K5 hsz1 hsz5 hne
  refine WS.mono ?_
  rintro e w6 ⟨rfl, H6⟩
  have ST := Tryz.Builder_String_any_k w.heap.size w.heap.size ([] ++ s.data.toList) w6 H6.out.1 (by have := H6.out.2.1.size; have := HZ.out; omega)
  have eS : (⟨(([] ++ s.data.toList : List UInt8)).toArray⟩ : ByteArray) = s := by apply ByteArray.ext; simp
  rw [eS] at ST
  clear eS
  have R6 : Hid (w6.ownsRow w1.heap.size 3 1 v5 1 [.int .i64 (p : Int)]) := Lib.hid (rowi_kept R5.out H6.out.2.2 HNE.out)
  have B6 : Hid (Below w.heap.size w w6) := Lib.hid ((B1.out.trans (B5.out.mono B1.out.size)).trans H6.out.2.1)
  obtain ⟨va5, vc5, hv5⟩ : ∃ a c, v5 = .slice a 1 c := by
    rcases R6.out.2 with ⟨rfl, h0⟩ | ⟨g, cap, cur, rfl, -⟩
    · cases h0
    · exact ⟨_, _, rfl⟩
  subst hv5
  clear WS H6 R5 B5
  go_wp2_with fail
  refine ST.mono ?_
  rintro e w7 ⟨rfl, h71, h72, h73⟩
  have HE : Hid (w7.ownsRow w.heap.size 3 1 (.slice va5 1 vc5) 1 [.int .i64 (p : Int)] ∧ Below w.heap.size w w7) := Lib.hid ⟨own_le9 (rowi_kept R6.out h73 HNE.out) HZ.out.1, B6.out.trans h72⟩
  clear ST h71 h72 h73
  go_wp2_with fail
  go_ret3
  exact ⟨_, rfl, HE⟩
theorem Get_b (G : Nat → Prop) (rb n m : Nat) (S : RS) (p : Nat) (s : ByteArray) (w : World) (h : RmS w G rb n m S) (hm : m ≤ 4000000) (hs : s.size ≤ 128) (hu : S.used p = true) (hc : S.cont p = pad (pgB s)) :
    Calls Tryz.prog 66 #[.pointer (some ⟨rb, 0, none⟩), .int .i64 (p : Int)] w fun e w' => e = .returned (.tuple #[.string s, .int .i64 0]) ∧ Hid (Below w.heap.size w w') := by
  have WK := walk_b G rb n m S p s w h hm hs hu hc
  clear h hm hs hu hc
  go_enter Tryz.func66, Tryz.ntmps66
  go_wp2_with fail
  refine WK.mono ?_
  rintro e w1 ⟨v, rfl, H1⟩
  have HB := Lib.hid H1.out.2
  clear WK H1
  go_wp2_with fail
  go_ret2
  exact ⟨rfl, Lib.hid HB.out⟩
end Go.Proofs.YtdcjhpafipbpkaaGreatDoor
namespace Go.Proofs.YtdcjhpafipbpkaaGreatDoor
set_option linter.unusedVariables false
set_option maxRecDepth 100000
set_option maxHeartbeats 1000000
open Go.RowKit
/-- A page written. -/
def wrP (S : RS) (p : Nat) (s : ByteArray) : RS := ⟨S.root, S.used, fun q => if q = p then pad s else S.cont q, S.base⟩
theorem write_s (G : Nat → Prop) (rb n m : Nat) (S : RS) (p : Nat) (s : ByteArray) (w : World) (h : RmS w G rb n m S) (hm : m ≤ 3999000) (hs : s.size ≤ 512) (hu : S.used p = true) :
    Calls Tryz.prog 172 #[.pointer (some ⟨rb, 0, none⟩), .int .i64 (p : Int), .string s] w fun e w' => e = .returned (.int .i64 0) ∧ Hid (StGo w w' G rb n (m + 1) (wrP S p s)) := by
  obtain ⟨puts, h1, h2, h3⟩ := h
  refine (PWrite_c G rb n puts S p s w h2 h3 (by omega) hu hs).mono ?_
  rintro e w' ⟨rfl, hg⟩
  exact ⟨rfl, Lib.hid (StGo.of_room hg.out h1)⟩
theorem Pages_one (n : Nat) (w : World) (h : n ≤ 506) : Calls Tryz.prog 171 #[.int .i64 (n : Int)] w fun e w' => e = .returned (.int .i64 1) ∧ w = w' := by
  have h1 : (n : Int) ≤ 506 := by omega
  clear h
  go_enter Tryz.func171, Tryz.ntmps171
  go_wp2_with fail
  go_ret
  exact ⟨rfl, rfl⟩
/-- A new page with a text. -/
def blobS (S : RS) (p : Nat) (s : ByteArray) : RS := wrP (allocS S p) p (pgB s)
theorem put_b0 (G : Nat → Prop) (rb n m : Nat) (S : RS) (s : ByteArray) (w : World) (h : RmS w G rb n m S) (hm : m ≤ 3900000) (hs : s.size ≤ 128) (hf : ∃ q, q < pagesN n ∧ S.used q = false) :
    Calls Tryz.prog 118 #[.pointer (some ⟨rb, 0, none⟩), .string s] w fun e w' => ∃ p : Nat, e = .returned (.tuple #[.int .i64 (p : Int), .int .i64 0]) ∧ Hid (p < pagesN n ∧ S.used p = false ∧ StGo w w' G rb n (m + 3) (blobS S p s)) := by
  obtain ⟨jI, hjI, hI0, hI1, hI2⟩ := info_parts infoI
  have PG := Pages_one s.size w (by omega)
  have AL := alloc_c G rb n m S w h (by omega) hf
  have HS := Lib.hid hs
  have HM := Lib.hid hm
  have HL : Hid (([] : List Nat).length + 1 ≤ maxLen ∧ (([] : List Nat).length + 1) * 8 ≤ 140737488355328) := Lib.hid (by unfold maxLen; decide)
  have b1 : (s.size : Int) ≤ 128 := by omega
  have m1 : min (s.size : Int) 506 = (s.size : Int) := by omega
  have x1 : s.extract 0 s.size = s := by apply ByteArray.ext; simp
  clear h hm hs hf
  go_enter Tryz.func118, Tryz.ntmps118
  go_wp2_with fail
  refine PG.mono ?_
  rintro e w0 ⟨rfl, rfl⟩
  clear PG
  go_wp2_with fail
  refine wp_loop_rounds 2 ?_
  rw [rounds_succ]
  go_wp2_with fail
  refine AL.mono ?_
  rintro e w1 ⟨p, rfl, H1⟩
  have P1 := Lib.hid (And.intro H1.out.1 H1.out.2.1)
  have G1 := Lib.hid H1.out.2.2
  have HO6 := Lib.hid ((World.ownsRow_nil w1 w1.heap.size 3 1).alloc (.cells #[.int .i64 (p : Int)] 3))
  have HS6 : Hid (w1.heap.size ≤ (w1.alloc (.cells #[.int .i64 (p : Int)] 3)).heap.size) := Lib.hid (by simp)
  clear AL H1
  go_wp2_with (
    (refine chkA 191 191 ⟨_, _, by with_reducible rfl⟩ ?_
     refine wpList_append_y (by rfl) _ _ _ rfl w1.heap.size 3 jI _ 1 8 Tryz.underlying191 hjI hI0 hI1 hI2 rfl (by decide) _ _ _ (by rfl) HO6.out _ 1 _ (by rfl) (yields_boxL _ #[.int .i64 (p : Int)] _ 1 1) rfl (one1 _ rfl) HL.out.1 HL.out.2 HS6.out ?_
     intro v5 W5 ho5 hg5 ha5
     have R5 : Hid (W5.ownsRow w1.heap.size 3 1 v5 1 [.int .i64 (p : Int)]) := Lib.hid (by simpa using ho5)
     have B5 : Hid (Below w1.heap.size w1 W5) := Lib.hid (((Below.refl w1.heap.size w1).alloc (Nat.le_refl _) _).grown hg5 HS6.out (fun k e => (HO6.out.lt k e).1))
     clear ho5 hg5 ha5))
  obtain ⟨G', r1, t1⟩ := G1.out
  have HR1 := Lib.hid r1
  have HT1 := Lib.hid t1
  obtain ⟨g5, vc5, hv5, hg5, hcell⟩ : ∃ g c, v5 = .slice (some ⟨g, 0, none⟩) 1 c ∧ w1.heap.size ≤ g ∧ W5.cell? ⟨g, 0, none⟩ = some (.int .i64 (p : Int)) := by
    have hr := R5.out
    rcases hr.2 with ⟨e, h0⟩ | ⟨g, cap, cur, e, hb, hg, -⟩
    · cases h0
    · subst e
      exact ⟨g, cap, rfl, hb, (hr.cellAt 0 (by simp)).trans rfl⟩
  subst hv5
  have PC := page_c s W5 HS.out
  have HG5 := Lib.hid hg5
  have hgl : g5 < W5.heap.size := World.block_lt_of_cell? W5 _ hcell
  have HCELL := Lib.hid hcell
  have HGL := Lib.hid hgl
  clear G1 r1 t1 R5 hg5
  rw [rounds_succ]
  go_wp2_with fail
  refine wp_loop_rounds 2 ?_
  rw [rounds_succ]
  go_wp2_with fail
  refine PC.mono ?_
  rintro e w7 ⟨rfl, hb7⟩
  have B7 := Lib.hid (B5.out.trans (hb7.out.mono B5.out.size))
  have C7 : w7.cell? ⟨g5, 0, none⟩ = some (.int .i64 (p : Int)) := (hb7.out.cell (p := ⟨g5, 0, none⟩) HGL.out).trans HCELL.out
  have hu : (allocS S p).used p = true := by
    show flip S.used p p = true
    unfold flip; rw [if_pos rfl, P1.out.2]; rfl
  have WR := write_s G' rb n (m + 2) (allocS S p) p (pgB s) w7 (HR1.out.below B7.out) (by have := HM.out; omega) (by rw [pgB_size]; have := HS.out; omega) hu
  have HC7 := Lib.hid C7
  clear PC hb7 hcell hgl hu C7
  go_wp2_with fail
  refine WR.mono ?_
  rintro e w8 ⟨rfl, H8⟩
  have GO : Hid (StGo w w8 G rb n (m + 3) (blobS S p s)) := Lib.hid (by
    obtain ⟨G2, r2, t2⟩ := H8.out
    exact ⟨G2, r2, HT1.out.trans (t2.below_left B7.out)⟩)
  have c8 : w8.cell? ⟨g5, 0, none⟩ = some (.int .i64 (p : Int)) := by
    have hb := H8.out.upd
    have hn : ¬ G' g5 := fun e => by have := HR1.out.lt g5 e; have := HG5.out; omega
    exact (World.cell?_of_block (hb.block g5 (World.block_lt_of_cell? w7 _ HC7.out) hn)).trans HC7.out
  clear WR H8
  go_wp2_with fail
  rw [rounds_succ]
  go_wp2_with fail
  go_ret2
  exact ⟨p, rfl, Lib.hid ⟨P1.out.1, P1.out.2, GO.out⟩⟩
theorem Put_b (G : Nat → Prop) (rb n m : Nat) (S : RS) (s : ByteArray) (w : World) (h : RmS w G rb n m S) (hm : m ≤ 3900000) (hs : s.size ≤ 128) (hf : ∃ q, q < pagesN n ∧ S.used q = false) :
    Calls Tryz.prog 67 #[.pointer (some ⟨rb, 0, none⟩), .string s] w fun e w' => ∃ p : Nat, e = .returned (.tuple #[.int .i64 (p : Int), .int .i64 0]) ∧ Hid (p < pagesN n ∧ S.used p = false ∧ StGo w w' G rb n (m + 3) (blobS S p s)) := by
  have PT := put_b0 G rb n m S s w h hm hs hf
  have MK : ∃ k : Nat, Calls Tryz.prog 114 #[.pointer (some ⟨rb, 0, none⟩)] w fun e w' => e = .returned (.int .i64 (k : Int)) ∧ w = w' := by
    obtain ⟨puts, h1, h2, h3⟩ := h
    exact ⟨_, RMark_c G rb n puts w h2⟩
  obtain ⟨k, MK⟩ := MK
  have l1 : ¬ (131072 : Int) < (s.size : Int) := by omega
  clear h hm hs hf
  go_enter Tryz.func67, Tryz.ntmps67
  go_wp2_with fail
  refine MK.mono ?_
  rintro e w1 ⟨rfl, rfl⟩
  go_wp2_with fail
  refine PT.mono ?_
  rintro e w2 ⟨p, rfl, H2⟩
  clear PT MK
  go_wp2_with fail
  go_ret2
  exact ⟨p, rfl, H2⟩
end Go.Proofs.YtdcjhpafipbpkaaGreatDoor
namespace Go.Proofs.YtdcjhpafipbpkaaGreatDoor
set_option linter.unusedVariables false
def kindB (c : UInt8) : Bool := c == 110 || c == 104 || c == 98 || c == 116
/-- Are letters kinds? -/
def rightL : List UInt8 → Bool
  | [] => true
  | [c] => kindB c || c == 114
  | c :: d :: r => kindB c && rightL (d :: r)
theorem rightL_cons {c : UInt8} {r : List UInt8} (h : r ≠ []) : rightL (c :: r) = (kindB c && rightL r) := by
  cases r with
  | nil => exact absurd rfl h
  | cons d r => rfl
theorem rightL_snoc (m : List UInt8) (c : UInt8) : rightL (m ++ [c]) = (m.all kindB && (kindB c || c == 114)) := by
  induction m with
  | nil => simp [rightL]
  | cons a m ih =>
    rw [List.cons_append, rightL_cons (by simp), ih, List.all_cons, Bool.and_assoc]
theorem dropWhile_nil {α : Type} (p : α → Bool) (l : List α) : l.dropWhile p = [] ↔ ∀ x ∈ l, p x = true := by
  induction l with
  | nil => simp
  | cons a l ih =>
    by_cases h : p a = true
    · simp [h, ih]
    · simp [h]
theorem trimS_nil (l cs : List UInt8) : Lib.trimS l cs = [] ↔ ∀ x ∈ l, cs.contains x = true := by
  unfold Lib.trimS Lib.trimLeftS Lib.trimRightS
  rw [dropWhile_nil]
  constructor
  · intro h x hx
    have h1 : x ∈ l.reverse := by simpa using hx
    rw [← List.takeWhile_append_dropWhile (p := (cs.contains ·)) (l := l.reverse)] at h1
    rcases List.mem_append.1 h1 with h2 | h2
    · have h4 : ∀ (q : UInt8 → Bool) (m : List UInt8), ∀ y ∈ m.takeWhile q, q y = true := by
        intro q m
        induction m with
        | nil => simp
        | cons a m ih =>
          intro y hy
          rw [List.takeWhile_cons] at hy
          split at hy
          · rcases List.mem_cons.1 hy with rfl | hy
            · assumption
            · exact ih y hy
          · simp at hy
      exact h4 _ _ x h2
    · exact h x (by simpa using h2)
  · intro h x hx
    exact h x (by have := List.dropWhile_sublist (cs.contains ·) (l := l.reverse); exact List.mem_reverse.1 (this.subset (by simpa using hx)))
theorem contains_kind (x : UInt8) : [(110 : UInt8), 104, 98, 116].contains x = kindB x := by
  simp only [List.contains_cons, List.contains_nil, Bool.or_false, kindB, Bool.or_assoc]
theorem right_trim (l : List UInt8) : (Lib.trimS (Lib.trimSuffix l [114]) [110, 104, 98, 116] = []) ↔ rightL l = true := by
  rw [trimS_nil]
  simp only [contains_kind]
  have hall : ∀ m : List UInt8, (∀ x ∈ m, kindB x = true) ↔ m.all kindB = true := fun m => by simp [List.all_eq_true]
  rw [hall]
  rcases List.eq_nil_or_concat l with rfl | ⟨m, c, rfl⟩
  · simp [Lib.trimSuffix, Lib.hasSuffix, rightL]
  · simp only [List.concat_eq_append]
    rw [rightL_snoc]
    by_cases hc : c = 114
    · subst hc
      have h1 : Lib.trimSuffix (m ++ [114]) [114] = m := by
        simp [Lib.trimSuffix, Lib.hasSuffix, List.isSuffixOf]
      rw [h1]; simp
    · have h1 : Lib.trimSuffix (m ++ [c]) [114] = m ++ [c] := by
        simp [Lib.trimSuffix, Lib.hasSuffix, List.isSuffixOf, Ne.symm hc]
      rw [h1, List.all_append]
      simp [hc]
theorem right_trim' (l : List UInt8) : (Lib.trimS (Lib.trimSuffix l [114]) [110, 104, 98, 116]).isEmpty = rightL l := by
  rw [Bool.eq_iff_iff, List.isEmpty_iff]; exact right_trim l
end Go.Proofs.YtdcjhpafipbpkaaGreatDoor
namespace Go.Proofs.YtdcjhpafipbpkaaGreatDoor
set_option linter.unusedVariables false
open Go.RowKit

theorem ret_bool {a b : Bool} (h : a = b) : Ending.returned (.bool a) = .returned (.bool b) := by rw [h]
set_option maxHeartbeats 400000 in
theorem Right_c (s : ByteArray) (w : World) (hs : s.size ≤ 1000000000) :
    Calls Tryz.prog 120 #[.string s] w fun e w' => e = .returned (.bool (rightL s.data.toList)) ∧ Below w.heap.size w w' := by
  go_enter Tryz.func120, Tryz.ntmps120
  go_wp2_with fail
  refine (Tryz.strings_TrimSuffix s _ w (by omega)).mono ?_
  rintro e w1 ⟨rfl, rfl⟩
  have hts : (ByteArray.mk (Lib.trimSuffix s.data.toList [114]).toArray).size ≤ s.size := by
    show (Lib.trimSuffix s.data.toList [114]).toArray.size ≤ s.size
    unfold Lib.trimSuffix
    rw [List.size_toArray]
    have : s.data.toList.length = s.size := by simp
    split
    · have := List.length_take_le (s.data.toList.length - [(114 : UInt8)].length) s.data.toList; omega
    · omega
  have e1 : (ByteArray.mk (Lib.trimSuffix s.data.toList [114]).toArray).data.toList = Lib.trimSuffix s.data.toList [114] := by simp
  have HE := Lib.hid e1
  clear e1
  generalize hx : ByteArray.mk (Lib.trimSuffix s.data.toList _).toArray = x
  rw [show (ByteArray.mk (Lib.trimSuffix s.data.toList [114]).toArray) = x from hx] at HE hts
  clear hx
  go_wp2_with fail
  refine (Any.strings_Trim_laid Tryz.lays160 (by kernel_rfl) x ⟨#[110, 104, 98, 116]⟩ _ (by omega) (by decide) (ascii_of_all (by decide))).mono ?_
  rintro e w2 ⟨rfl, hb⟩
  rw [HE.out]
  have Hb := Lib.hid hb
  clear hb
  go_wp2_with fail
  go_ret
  exact ⟨ret_bool (right_trim' _), Hb.out⟩

theorem bld_new (w : World) : Bld w.heap.size w.heap.size [] (w.alloc (.cells #[.pointer none, .slice none 0 0] 156)) :=
  .inl ⟨Nat.le_refl _, _, heap_alloc_new _ _, World.ownsRowF_of (World.ownsRow_nil _ _ _ _), by simp [Value.ownBlock]⟩
/-! Part, Cut -/
theorem extract_take (s : ByteArray) (k : Nat) : s.extract 0 k = ⟨(s.data.toList.take k).toArray⟩ := by
  apply ByteArray.ext; apply Array.ext'; simp [ByteArray.data_extract]
theorem extract_drop (s : ByteArray) (k : Nat) : s.extract k s.size = ⟨(s.data.toList.drop k).toArray⟩ := by
  apply ByteArray.ext; apply Array.ext'
  rw [Lib.extract_data, List.take_of_length_le (by simp)]
/-! The reference. -/
end Go.Proofs.YtdcjhpafipbpkaaGreatDoor
namespace Go.Proofs.YtdcjhpafipbpkaaGreatDoor
set_option linter.unusedVariables false
open Go.RowKit

/-! The reference's Right. -/
theorem u8_eq_toNat (c : UInt8) (n : Nat) (hn : n < 256) : ((c.toNat : Int) == (n : Int)) = (c == UInt8.ofNat n) := by
  rw [Bool.eq_iff_iff]; simp only [beq_iff_eq]
  constructor
  · intro h
    have : c.toNat = n := by omega
    rw [← this, UInt8.ofNat_toNat]
  · intro h; rw [h, UInt8.toNat_ofNat']; omega
/-! The reference's Cut. -/
/-! Fields. -/
abbrev Fld := Nat × ByteArray
def fcells (l : List Fld) : List Value := l.flatMap fun p => [.int .u64 p.1, .string p.2]
/-- A slice of fields, as it reads in a world. -/
def FldsAt (w : World) (v : Value) (l : List Fld) : Prop :=
  (∃ a cap, v = .slice a l.length cap ∧ ∀ k, (h : k < l.length) → ∃ b off, a = some ⟨b, off, none⟩ ∧ w.cell? ⟨b, off + k * 2, none⟩ = some (.int .u64 l[k].1) ∧ w.cell? ⟨b, off + k * 2 + 1, none⟩ = some (.string l[k].2) ∧ b < w.heap.size) ∧
    ∀ p ∈ l, p.1 < 18446744073709551616
theorem FldsAt.get {w : World} {a : Option Addr} {n cap : Nat} {l : List Fld} (h : FldsAt w (.slice a n cap) l) (k : Nat) (hk : k < l.length) :
    ∃ b off, a = some ⟨b, off, none⟩ ∧ w.cell? ⟨b, off + k * 2, none⟩ = some (.int .u64 l[k].1) ∧ w.cell? ⟨b, off + k * 2 + 1, none⟩ = some (.string l[k].2) ∧ b < w.heap.size := by
  obtain ⟨⟨a', c', e, hc⟩, _⟩ := h
  cases e
  exact hc k hk
theorem FldsAt.form {w : World} {v : Value} {l : List Fld} (h : FldsAt w v l) : ∃ a cap, v = .slice a l.length cap := by
  obtain ⟨⟨a, c, e, _⟩, _⟩ := h; exact ⟨a, c, e⟩
theorem FldsAt.below {w w' : World} {v : Value} {l : List Fld} (h : FldsAt w v l) (hb : Below w.heap.size w w') : FldsAt w' v l := by
  obtain ⟨⟨a, c, rfl, hc⟩, hn⟩ := h
  refine ⟨⟨a, c, rfl, fun k hk => ?_⟩, hn⟩
  obtain ⟨b, off, e, h1, h2, h3⟩ := hc k hk
  exact ⟨b, off, e, (hb.cell (p := ⟨b, off + k * 2, none⟩) h3).trans h1, (hb.cell (p := ⟨b, off + k * 2 + 1, none⟩) h3).trans h2, Nat.lt_of_lt_of_le h3 hb.size⟩
end Go.Proofs.YtdcjhpafipbpkaaGreatDoor
