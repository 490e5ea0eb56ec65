/- sector's reference: Full: the walk. -/
import Derived.Test.YtjgihpabbogpjaaSureW
import Derived.Test.YtjgihpabbogpjaaBRow
import Derived.Test.YtjgihpabbogpjaaApp
namespace Go.Proofs.Ytjgihpabbogpjaa
set_option linter.unusedVariables false
set_option maxRecDepth 100000
open Go.RowKit
theorem bytesRow_at' (s : ByteArray) (n i : Nat) (h : i < s.data.toList.length) : (bytesRow s n)[i]? = some (.int .u8 s.data.toList[i].toNat) := by
  have h' : i < s.data.size := by simpa using h
  unfold bytesRow
  rw [Array.getElem?_append_left (by simpa using h')]
  simp only [Array.getElem?_map, Option.map_eq_some_iff]
  exact ⟨_, Array.getElem?_eq_getElem h', by simp⟩
theorem brow_string {B : Nat} {v : Value} {l : List UInt8} {w : World} (h : BRow B v l w) : (convert 22 9 v).run Try.prog w = .ok (.string ⟨l.toArray⟩) w := by
  obtain ⟨g, cap, cs, fr, rfl, h1, h2, h3, h4, h5, h6⟩ := h
  have := run_convert_bytes_arg (P := Try.prog) w 22 5 Try.underlying22 Try.underlying5 g 0 l.length cap (l.map fun c => (c.toNat : Int)) (by simp) (fun i hi => by
    rw [Nat.zero_add]
    rw [cell_lit h2 (h6 i hi)]
    simp [hi]) 9 Try.underlying9
  have e : strOfNums (l.map fun c => (c.toNat : Int)) = ⟨l.toArray⟩ := by
    apply ByteArray.ext
    simp only [strOfNums, List.map_map]
    rw [List.map_congr_left (g := id) (fun c _ => by simp), List.map_id]
  rwa [e] at this
theorem brow_of_string (s : ByteArray) (w : World) (T : Nat) (hT : T = grownCap w s.size 0 5) :
    BRow w.heap.size (.slice (some ⟨w.heap.size, 0, none⟩) s.size T) s.data.toList ((w.alloc (.cells (bytesRow s T) 5 ((bytesRow s T).size, (bytesRow s T).size + 1))).drew) := by
  have hge : s.size ≤ T := by rw [hT]; exact grownCap_ge _ _ _ _
  have hsz : (bytesRow s T).size = T := by unfold bytesRow; simp; omega
  refine ⟨w.heap.size, T, _, _, by rw [Lib.size_eq], Nat.le_refl _, heap_alloc_new _ _, hsz, by rw [← Lib.size_eq]; exact hge, fun i hi => ?_, fun i hi => bytesRow_at' s T i hi⟩
  show World.frozen? (w.alloc _) _ = false
  simp only [World.frozen?, heap_alloc_new]
  have : ¬ (bytesRow s T).size ≤ i := by omega
  simp [this]
def FullRel (w : World) (s : ByteArray) (g : Nat) (s3 : Value) (wr : World) : Prop :=
  ∃ j, g = 512 - (s.size + j) ∧ s.size + j ≤ 512 ∧ BRow w.heap.size s3 (s.data.toList ++ List.replicate j 0) wr ∧ Below w.heap.size w wr
theorem RFull_c (s : ByteArray) (w : World) (hs : s.size ≤ 512) :
    Calls Try.prog 25 #[.string s] w fun e w' => e = .returned (.string (pad s)) ∧ Below w.heap.size w w' := by
  have hcv := run_bytes_of_string w 9 22 5 s Try.underlying9 Try.underlying22 Try.underlying5
  obtain ⟨T, hT⟩ : ∃ T, T = grownCap w s.size 0 5 := ⟨_, rfl⟩
  rw [← hT] at hcv
  have HT := Lib.hid hT
  clear hT
  go_enter Try.func25, Try.ntmps25
  go_wp2_with fail
  have R0 : FullRel w s (512 - s.size) (.slice (some ⟨w.heap.size, 0, none⟩) s.size T) ((w.alloc (.cells (bytesRow s T) 5 ((bytesRow s T).size, (bytesRow s T).size + 1))).drew) :=
    ⟨0, rfl, by omega, by simpa using brow_of_string s w T HT.out, ((Below.refl _ _).alloc (Nat.le_refl _) _).drew⟩
  have HR := Lib.hid R0
  clear R0 hcv
  generalize (w.alloc (.cells (bytesRow s T) 5 ((bytesRow s T).size, (bytesRow s T).size + 1))).drew = W at *
  go_loopg [3] (512 - s.size) (fun g s3 wr => FullRel w s g s3 wr)
  case atStart => exact HR.out
  case round =>
    obtain ⟨j, rfl, hj, hB, hb⟩ := hrel
    clear HR
    have hstr := brow_string hB
    have hlen : (s.data.toList ++ List.replicate j (0 : UInt8)).length = s.size + j := by rw [List.length_append, List.length_replicate, ← Lib.size_eq]
    obtain ⟨v', w', hrun, hB', hb'⟩ := brow_append (brow_alloc hB (.cells #[.int .u8 0] 5)) (by have := hb.size; simp; omega) (by rw [hlen]; omega) wr.heap.size 0 (cell_lit (heap_alloc_new _ _) rfl)
    have HB := Lib.hid hb
    have HN : Hid (s.size + (j + 1) ≤ 512 → FullRel w s (512 - (s.size + (j + 1))) v' w') := Lib.hid (fun h => ⟨j + 1, rfl, h, by rw [List.replicate_succ']; rw [List.append_assoc] at hB'; exact hB', (hb.alloc hb.size _).trans hb'⟩)
    obtain ⟨g, cap, cs, fr, rfl, -⟩ := hB
    have HE : Hid (s.size + j = 512 → (⟨(s.data.toList ++ List.replicate j 0).toArray⟩ : ByteArray) = pad s) := Lib.hid (fun h => by unfold pad; rw [show 512 - s.size = j by omega])
    rw [hlen] at hstr hrun ⊢
    generalize (⟨(s.data.toList ++ List.replicate j 0).toArray⟩ : ByteArray) = z at *
    clear hb hB' hb' hlen
    by_cases hlt : s.size + j < 512
    · have HR := Lib.hid (HN.out (by omega))
      clear hstr
      obtain ⟨n, hn⟩ : ∃ n, n = s.size + j := ⟨_, rfl⟩
      rw [← hn] at hrun hlt ⊢
      have HNN := Lib.hid hn
      clear hn
      go_wp2_with (at_builtin; refine wpList_append_run (by rfl) _ _ _ (by rfl) _ _ _ _ (by rfl) (by rfl) hrun ?_)
      have := HNN.out
      go_roundg (512 - (s.size + (j + 1)))
      case measure => omega
      case rel => exact HR.out
    · have HZ := Lib.hid (HE.out (by omega))
      obtain ⟨n, hn⟩ : ∃ n, n = s.size + j := ⟨_, rfl⟩
      rw [← hn] at hstr hlt ⊢
      clear hn hrun
      go_wp2_with fail
      go_ret
      exact ⟨ret_str HZ.out, HB.out⟩
end Go.Proofs.Ytjgihpabbogpjaa
