/- maps.Copy at map[int]string. -/
import Derived.Test.YtjgihpabbogpjaaIter
import Derived.Test.YtjgihpabbogpjaaProg
import Derived.Deep.LoopGhost
import Derived.WalkSpells
import Derived.WalkLawsBesides
namespace Go.Proofs.Ytjgihpabbogpjaa
set_option linter.unusedVariables false
open Go.RowKit
def CopyRel (w : World) (dst src it : Nat) (md ms : List (Int × ByteArray)) (g : Nat) (wr : World) : Prop :=
  ∃ left md', g = left.length ∧ IterIs kInt Value.string wr it src ms left ∧ MapIs kInt Value.string wr dst md' ∧ Upd (fun k => k = dst) w wr ∧
    (∀ k, look md' k = if look left k = none then (look ms k).or (look md k) else look md k) ∧ (left.map Prod.fst).Nodup ∧ (∀ p ∈ left, p ∈ ms)
theorem copy_step {w wr w2 w3 : World} {dst src it : Nat} {md ms md' left left' : List (Int × ByteArray)} {k : Int} {a : ByteArray} (hit : w.heap.size ≤ it)
    (hi : IterIs kInt Value.string wr it src ms left) (hm : MapIs kInt Value.string wr dst md') (hu : Upd (fun k => k = dst) w wr)
    (hk : ∀ k, look md' k = if look left k = none then (look ms k).or (look md k) else look md k) (hn : (left.map Prod.fst).Nodup) (hsub : ∀ p ∈ left, p ∈ ms) (hp : left.Perm ((k, a) :: left'))
    (hi3 : IterIs kInt Value.string w3 it src ms left') (hm3 : MapIs kInt Value.string w3 dst (put md' k a)) (hu2 : Upd (fun j => j = it) wr w2) (hu3 : Upd (fun j => j = dst) w2 w3) : CopyRel w dst src it md ms left'.length w3 := by
  have hn' : (((k, a) :: left').map Prod.fst).Nodup := (hp.map _).nodup_iff.1 hn
  have hkn : look left' k = none := by
    rw [look_none]; intro p hp' e
    simp only [List.map_cons, List.nodup_cons] at hn'
    exact hn'.1 (List.mem_map.2 ⟨p, hp', e⟩)
  refine ⟨left', _, rfl, hi3, hm3, ?_, ?_, (List.nodup_cons.1 hn').2, fun p hp' => hsub p (hp.mem_iff.2 (List.mem_cons_of_mem _ hp'))⟩
  · exact (hu.trans' hu2 (fun j hj e => by omega)).trans hu3
  · intro k'
    have h1 := hk k'
    have h2 := look_perm hp hn k'
    simp only [look] at h2
    rw [look_put]
    by_cases e : k = k'
    · subst e
      have h3 : look ms k = some a := (look_some hi.map.nodup).2 (hsub _ (hp.mem_iff.2 (List.mem_cons_self ..)))
      simp [hkn, h3]
    · simp only [e, if_false] at h2 ⊢
      rw [h1, h2]

set_option maxHeartbeats 400000 in
theorem Copy_c (dst src : Nat) (md ms : List (Int × ByteArray)) (w : World) (hd : MapIs kInt Value.string w dst md) (hs : MapIs kInt Value.string w src ms) (hne : dst ≠ src) :
    Calls Try.prog 23 #[.map (some dst), .map (some src)] w fun e w' => e = .returned (.tuple #[]) ∧ Hid (∃ md', MapIs kInt Value.string w' dst md' ∧ (∀ k, look md' k = (look ms k).or (look md k)) ∧ Upd (fun k => k = dst) w w') := by
  obtain ⟨w1, hr, hi, hu, hsz⟩ := IterIs.start hs (P := Try.prog) Try.underlying52
  have ld := hd.lt
  have ls := hs.lt
  have hdn : dst ≠ w.heap.size := by omega
  have R0 : CopyRel w dst src w.heap.size md ms ms.length w1 :=
    ⟨ms, md, rfl, hi, hd.upd hu (fun e => e), hu.mono (fun _ _ e => e.elim), fun k => by
      by_cases h : look ms k = none
      · simp [h]
      · simp [h], hs.nodup, fun _ h => h⟩
  have HR := Lib.hid R0
  generalize hg : w.heap.size = it at HR hr hdn ⊢
  have hit : w.heap.size ≤ it := Nat.le_of_eq hg
  clear hg
  clear R0 hi hu hsz hd hs ld ls
  go_enter Try.func23, Try.ntmps23
  go_wp2_with fail
  go_loopg [8] ms.length (fun g s8 wr => CopyRel w dst src it md ms g wr)
  case atStart => exact HR.out
  case round =>
    obtain ⟨left, md', rfl, hi, hm, hu, hk, hn, hsub⟩ := hrel
    clear HR hr
    rcases hi.next (P := Try.prog) 0 with ⟨rfl, hnx⟩ | ⟨k, a, left', w2, hnx, hp, hi2, hu2, hsz2, hen⟩
    · have Hend : Hid (∃ md', MapIs kInt Value.string wr dst md' ∧ (∀ k, look md' k = (look ms k).or (look md k)) ∧ Upd (fun k => k = dst) w wr) := ⟨md', hm, fun k => by simpa [look] using hk k, hu⟩
      clear hi hm hu hk hn hsub
      go_wp2_with fail
      go_end0
      exact ⟨rfl, Hend⟩
    · have hm2 := hm.upd hu2 hdn
      obtain ⟨w3, hrun, hm3, hu3⟩ := run_mapUpdate hm2 Try.underlying52 Try.underlying3 k a
      have hi3 := hi2.upd hu3 hdn.symm (Ne.symm hne)
      have Hend := Lib.hid (copy_step hit hi hm hu hk hn hsub hp hi3 hm3 hu2 hu3)
      have Hlen : Hid (left.length = left'.length + 1) := Lib.hid (by have := hp.length_eq; simpa using this)
      simp only [kInt] at hnx hen hrun
      clear hi hm hu hk hn hsub hm2 hm3 hi2 hi3 hu2 hu3 hsz2 hp
      go_wp2_with fail
      go_roundg left'.length
      case measure => have := Hlen.out; omega
      case rel => exact Hend.out
theorem copy_keeps {w w' : World} {dst : Nat} {P : List (Int × ByteArray) → Prop} (h : Hid (∃ md', MapIs kInt Value.string w' dst md' ∧ P md' ∧ Upd (fun k => k = dst) w.drew w')) {b i : Nat} {v : Value} (hc : w.cell? ⟨b, i, none⟩ = some v) (hl : b < w.heap.size) (hn : dst ≠ b) : w'.cell? ⟨b, i, none⟩ = some v := by
  obtain ⟨md', _, _, hu⟩ := h
  exact (World.cell?_of_block (hu.drew_left.block b hl (Ne.symm hn))).trans hc
end Go.Proofs.Ytjgihpabbogpjaa
