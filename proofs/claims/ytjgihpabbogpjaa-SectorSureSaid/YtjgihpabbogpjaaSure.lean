/- SectorSure: the walk. -/
import Derived.Test.YtjgihpabbogpjaaSureW
namespace Go.Proofs.Ytjgihpabbogpjaa
set_option linter.unusedVariables false
set_option maxRecDepth 100000
open Go.RowKit
theorem size_mk (a : List UInt8) : (⟨a.toArray⟩ : ByteArray).size = a.length := by rw [Lib.size_eq]
theorem strOne (x : UInt8) : strOfNums [(x.toNat : Int)] = one x := by
  apply ByteArray.ext
  simp [strOfNums, one]
theorem run_one_byte_d (c : Int) (w : World) : (convert 22 9 (.slice (some ⟨w.heap.size, 0, none⟩) 1 1)).run Try.prog ((w.alloc (.cells #[.int .u8 c] 5)).drew) = .ok (.string (strOfNums [c])) ((w.alloc (.cells #[.int .u8 c] 5)).drew) := by
  refine run_convert_bytes_arg _ 22 5 Try.underlying22 Try.underlying5 w.heap.size 0 1 1 [c] rfl (fun i hi => ?_) 9 Try.underlying9
  obtain rfl : i = 0 := by omega
  rw [World.cell?_drew]
  exact cell_lit (heap_alloc_new _ _) rfl
def SRel (w0 : World) (b bf bs : Nat) (m : Nat) (g : Nat) (s37 : Value) (wr : World) : Prop :=
  ∃ (k : Nat) (D : Dk) (F : Nat → UInt8) (S : Nat → List UInt8), g = m - k ∧ k ≤ m ∧ s37 = .int .i64 k ∧ SureInv k D F S ∧ SA w0 b D bf bs F S wr
set_option maxHeartbeats 4000000 in
theorem SectorSure_c (v0 v2 : Value) (l : List Int) (keep : List Bool) (t : Int) (w : World) (hl : BytesAt w v0 l) (hk : SliceAt w v2 (keep.map Value.bool)) :
    Calls Try.prog 5 #[v0, .int .i64 t, v2] w fun e w' => e = .returned (.bool true) ∧ Below w.heap.size w w' := by
  have aw := awake_c w
  have HL := Lib.hid hl
  have HK := Lib.hid hk
  obtain ⟨a0, c0, rfl, -⟩ := hl.1
  obtain ⟨a2, c2, rfl, -⟩ := hk
  simp only [List.length_map] at HL HK ⊢
  by_cases h1 : 30 < l.length
  · clear hl
    go_enter Try.func5, Try.ntmps5
    go_wp2_with (go_at_call 7; refine aw.mono ?_; rintro e w1 ⟨rfl, hb⟩)
    go_ret
    exact ⟨rfl, hb⟩
  · by_cases h2 : 60 < keep.length
    · clear hl
      go_enter Try.func5, Try.ntmps5
      go_wp2_with (go_at_call 7; refine aw.mono ?_; rintro e w1 ⟨rfl, hb⟩)
      go_ret
      exact ⟨rfl, hb⟩
    · clear hl
      go_enter Try.func5, Try.ntmps5
      go_wp2_with (go_at_call 7; refine aw.mono ?_; rintro e w1 ⟨rfl, hb⟩)
      have Hb := Lib.hid hb
      clear hb aw
      refine (New_r 8 w1 (by decide) (by decide)).mono ?_
      rintro e w2 ⟨b, rfl, h2⟩
      have h2 := Own.new h2
      have HA := Lib.hid (SA.start h2)
      clear h2
      go_wp2_with fail
      have R0 : Hid (SRel w1 b w2.heap.size (w2.heap.size + 1) l.length l.length (.int .i64 0) ((w2.alloc (.cells #[.int .u8 0, .int .u8 0, .int .u8 0, .int .u8 0, .int .u8 0, .int .u8 0, .int .u8 0, .int .u8 0] 38)).alloc
        (.cells #[.string ⟨#[]⟩, .string ⟨#[]⟩, .string ⟨#[]⟩, .string ⟨#[]⟩, .string ⟨#[]⟩, .string ⟨#[]⟩, .string ⟨#[]⟩, .string ⟨#[]⟩] 39))) := Lib.hid ⟨0, _, _, _, by omega, Nat.zero_le _, rfl, sure_start, HA.out⟩
      clear HA
      generalize w2.heap.size + 1 = bs at *
      generalize w2.heap.size = bf at *
      go_loopg [37] l.length (fun g s37 wr => SRel w1 b bf bs l.length g s37 wr)
      case atStart => exact R0.out
      case round =>
        obtain ⟨k, D, F, S, rfl, hkm, rfl, hinv, hown⟩ := hrel
        clear R0
        have HI := Lib.hid hinv
        have HO := Lib.hid hown
        by_cases hk : k < l.length
        · obtain ⟨vb, vo, rfl, hvc, hvl⟩ := (HL.out).1.get k (by simpa using hk)
          have hbd := (HL.out).2 l[k] (List.getElem_mem _)
          have hvc : w.cell? ⟨vb, vo + k, none⟩ = some (.int .u8 l[k]) := by simpa using hvc
          have hvc : wr.cell? ⟨vb, vo + k, none⟩ = some (.int .u8 l[k]) := (((Hb.out).trans (hown.below.mono (Hb.out).size)).cell (p := ⟨vb, vo + k, none⟩) hvl).trans hvc
          obtain ⟨c0', c1'⟩ := hbd
          generalize l[k] = c at hvc c0' c1'
          obtain ⟨j, hj⟩ : ∃ j : Nat, c % 8 = (j : Int) := ⟨(c % 8).toNat, by omega⟩
          have hj8 : j < 8 := by omega
          have hlen : D.loose.length ≤ 4000000000 := by have := hinv.len; omega
          have k1 : IntKind.u8.wrap (k : Int) = k := by simp [IntKind.wrap, IntKind.bits, IntKind.signed]; omega
          have k2 : IntKind.u8.wrap ((k : Int) + 1) = ((UInt8.ofNat (k + 1)).toNat : Int) := by rw [UInt8.toNat_ofNat']; simp [IntKind.wrap, IntKind.bits, IntKind.signed] <;> omega
          have k3 : (k : Int) % 256 = k := by omega
          have hcv := run_one_byte ((UInt8.ofNat (k + 1)).toNat : Int) wr
          rw [strOne] at hcv
          generalize UInt8.ofNat (k + 1) = x at *
          clear hinv hown
          go_wp2_with fail
          refine (Write_s w1 j 0 (one x) _ (HO.out.more ((Upd.refl _ _).alloc _)) hlen (write_free HI.out.down HI.out.bound (by omega) (by rw [HI.out.size]; omega) (by show 1 ≤ 512; decide))).mono ?_
          rintro e w3 ⟨rfl, h3⟩
          have HO3 := Lib.hid h3
          have HI3 := Lib.hid (HI.out.write hj8 x)
          have q3 : w3.cell? ⟨bs, j, none⟩ = some (.string ⟨(S j).toArray⟩) := cell_lit h3.cs (arrS_get S hj8)
          have f3 := frozen_lit h3.cs j
          have hcv3 := run_one_byte_d (x.toNat : Int) w3
          rw [strOne] at hcv3
          have hls := lt_of_heap h3.cs
          have hsl : (S j).length ≤ 30 := by have := HI.out.sl j; omega
          clear h3 HO HI hcv
          go_wp2_with fail
          obtain ⟨sj, hsj⟩ : ∃ sj : ByteArray, sj = ⟨(S j).toArray⟩ := ⟨_, rfl⟩
          rw [← hsj] at q3
          have hsz : sj.size ≤ 30 := by rw [hsj, Lib.size_eq]; exact hsl
          have ha1 : (sj.size + (one x).size > 9223372036854775807) = False := eq_false (by show ¬ (sj.size + 1 > 9223372036854775807); omega)
          have ha2 : (9223372036854775807 < sj.size + (one x).size) = False := eq_false (by show ¬ (9223372036854775807 < sj.size + 1); omega)
          have HSJ := Lib.hid (show sj ++ one x = ⟨(S j ++ [x]).toArray⟩ by rw [hsj]; apply ByteArray.ext; simp [one])
          generalize one x = y at *
          clear hsj
          by_cases ht : ((k : Int) == t) = true
          · go_region
            go_wp2_with fail
            have HO4 := Lib.hid ((HO3.out.addTo hj8 x HSJ.out).more (((Upd.refl _ _).alloc (.cells #[.int .u8 x.toNat] 5)).drew))
            refine (Flush_s w1 0 _ HO4.out (flush_free HI3.out.down HI3.out.bound)).mono ?_
            rintro e w5 ⟨rfl, h5⟩
            have HO5 := Lib.hid h5
            have HI5 := Lib.hid HI3.out.flush
            have HSL := Lib.hid (show ∀ n, (addS S j x n).length ≤ 31 from fun n => by have := HI3.out.sl n; omega)
            have hls5 := lt_of_heap h5.cs
            have hcs5 := h5.cs
            have hcz : (Try.prog.info? 39).map (·.size) = some (arrS (addS S j x)).size := by rw [arrS_size]; kernel_rfl
            clear h5 HO4 HO3 HI3
            go_wp2_with (refine wpList_load_row rfl 39 (.tmp 10) rfl bs rfl _ _ _ _ hcs5 Try.underlying39 rfl hcz ?_)
            have HB5 : Hid (FRel w1 b (fD (wD D (j : Int) y)) bf bs F (addS S j x) 8 (.int .i64 0) w5) := Lib.hid ⟨0, rfl, Nat.zero_le _, rfl, by rw [midF_zero]; exact HO5.out⟩
            generalize fD (wD D (j : Int) y) = D5 at *
            generalize addS S j x = S5 at *
            clear HO5 hcs5 hcz q3 f3 hcv3 ha1 ha2 HSJ hvc hls hls5
            go_loopg [71] 8 (fun g s71 wr => FRel w1 b D5 bf bs F S5 g s71 wr)
            case atStart => exact HB5.out
            case round =>
              obtain ⟨n, rfl, hn, rfl, hS⟩ := hrel
              clear HB5
              have HS := Lib.hid hS
              clear hS
              by_cases hlt : n < 8
              · have hidx := run_index_arr (P := Try.prog) 39 9 8 (arrS S5) n _ Try.underlying39 (fun w => by kernel_rfl) (fun w => by kernel_rfl) hlt (arrS_get S5 hlt)
                obtain ⟨sn, hsn⟩ : ∃ sn : ByteArray, sn = ⟨(S5 n).toArray⟩ := ⟨_, rfl⟩
                rw [← hsn] at hidx
                rcases List.eq_nil_or_concat (S5 n) with h0 | ⟨m, d, h0⟩
                · have e1 : sn.toList = [] := by rw [hsn, h0, Lib.toList_data]
                  have e2 : sn.toList.isEmpty = true := by rw [e1]; rfl
                  have H0 := Lib.hid h0
                  clear h0 hsn
                  go_wp2_with fail
                  go_roundg (8 - (n + 1))
                  case measure => omega
                  case rel => exact ⟨n + 1, rfl, by omega, by simp, by rw [← midF_nil H0.out]; exact HS.out⟩
                · rw [List.concat_eq_append] at h0
                  have e1 : sn.toList = m ++ [d] := by rw [hsn, h0, Lib.toList_data]
                  have e2 : sn.toList.isEmpty = false := by rw [e1]; simp
                  have e3 : sn.size = m.length + 1 := by rw [hsn, h0, size_mk, List.length_append]; rfl
                  have e4 : ∀ w, (Instr.index 9 (.string sn) (.int .i64 (m.length : Int))).run Try.prog w = .ok (.int .u8 (d.toNat : Int)) w := fun w => run_index_str _ _ _ _ Try.underlying9 (get_last e1) w
                  have e5 : m.length ≤ 40 := by have := HSL.out n; rw [h0, List.length_append] at this; omega
                  have q5 := cell_lit HS.out.cf (arrF_get (midF F S5 n) hlt)
                  have f5 := frozen_lit HS.out.cf n
                  have H0 := Lib.hid h0
                  clear h0 hsn e1
                  go_wp2_with fail
                  go_roundg (8 - (n + 1))
                  case measure => omega
                  case rel => exact ⟨n + 1, rfl, by omega, by simp, by have := HS.out.setF hlt d; rwa [midF_snoc H0.out] at this⟩
              · obtain rfl : n = 8 := by omega
                have z0 := cell_lit HS.out.cs (arrS_get S5 (k := 0) (by decide))
                have g0 := frozen_lit HS.out.cs 0
                have z1 := cell_lit HS.out.cs (arrS_get S5 (k := 1) (by decide))
                have g1 := frozen_lit HS.out.cs 1
                have z2 := cell_lit HS.out.cs (arrS_get S5 (k := 2) (by decide))
                have g2 := frozen_lit HS.out.cs 2
                have z3 := cell_lit HS.out.cs (arrS_get S5 (k := 3) (by decide))
                have g3 := frozen_lit HS.out.cs 3
                have z4 := cell_lit HS.out.cs (arrS_get S5 (k := 4) (by decide))
                have g4 := frozen_lit HS.out.cs 4
                have z5 := cell_lit HS.out.cs (arrS_get S5 (k := 5) (by decide))
                have g5 := frozen_lit HS.out.cs 5
                have z6 := cell_lit HS.out.cs (arrS_get S5 (k := 6) (by decide))
                have g6 := frozen_lit HS.out.cs 6
                have z7 := cell_lit HS.out.cs (arrS_get S5 (k := 7) (by decide))
                have g7 := frozen_lit HS.out.cs 7
                go_wp2_with fail
                have HE := Lib.hid (HS.out.done.clear)
                go_roundg (l.length - (k + 1))
                case measure => omega
                case rel => exact ⟨k + 1, _, _, _, rfl, by omega, by simp, HI5.out, HE.out⟩
          · have ht1 : ((k : Int) == t) = false := by simpa using ht
            clear ht
            go_region
            go_wp2_with fail
            have HO4 := Lib.hid ((HO3.out.addTo hj8 x HSJ.out).more (((Upd.refl _ _).alloc (.cells #[.int .u8 x.toNat] 5)).drew))
            go_roundg (l.length - (k + 1))
            case measure => omega
            case rel => exact ⟨k + 1, _, _, _, rfl, by omega, by simp, HI3.out, HO4.out⟩
        · obtain rfl : k = l.length := by omega
          have hlen : D.loose.length ≤ 4000000000 := by have := hinv.len; omega
          have hb2 := Lib.hid (bools_of_slice ((HK.out).upd ((Hb.out).trans (hown.below.mono (Hb.out).size))))
          have HF : Hid (∀ k : Nat, k < 8 → ∃ c, (c = F k ∨ c ∈ S k) ∧ dkRead (dkFall D keep) (k : Int) = (pad (one c), 0)) := Lib.hid (fun k hk => hinv.fall keep hk)
          have HSL := Lib.hid (show ∀ n, (S n).length ≤ 30 from fun n => by have := hinv.sl n; omega)
          clear hinv hown
          go_wp2_with fail
          refine (Fall_s w1 _ keep wr HO.out hb2.out hlen HI.out.l512 (by omega)).mono ?_
          rintro e w6 ⟨rfl, h6⟩
          have HL6 := Lib.hid (show (dkFall D keep).loose = [] from rfl)
          have HD6 := Lib.hid (show (dkFall D keep).down = false from rfl)
          generalize dkFall D keep = D6 at *
          have HO6 : Hid (RRel8 w1 b D6 bf bs F S 8 (.int .i64 0) w6) := Lib.hid ⟨0, rfl, by omega, rfl, h6⟩
          clear h6 HO hb2 HI hlen
          go_wp2_with fail
          go_loopg [90] 8 (fun g s90 wr => RRel8 w1 b D6 bf bs F S g s90 wr)
          case atStart => exact HO6.out
          case round =>
            obtain ⟨n, rfl, hn, rfl, hS⟩ := hrel
            clear HO6
            have HS := Lib.hid hS
            clear hS
            by_cases hlt : n < 8
            · obtain ⟨c, hc, hread⟩ := HF.out n hlt
              have HC := Lib.hid hc
              obtain ⟨p1, p2, p3⟩ := pad_head c
              have p4 : (pad (one c))[0]? = some c := by rw [getElem?_pos _ 0 p1, p3]
              have HR := Lib.hid hread
              generalize pad (one c) = z at *
              have p5 : ((z.size : Int) == 512) = true := by simp; omega
              have p6 : ((z.size : Int) != 512) = false := by simp; omega
              obtain rfl : z[0] = c := p3 p1
              clear hc hread p3
              go_wp2_with fail
              refine (Read_s w1 n 0 z wr HS.out HR.out).mono ?_
              rintro e w7 ⟨rfl, h7⟩
              have HS7 := Lib.hid h7
              have q7 := cell_lit h7.cf (arrF_get F hlt)
              have r7 := cell_lit h7.cs (arrS_get S hlt)
              clear h7 HS HR
              go_wp2_with fail
              obtain ⟨b0, hb0⟩ : ∃ b0, ((z[0].toNat : Int) == ((F n).toNat : Int)) = b0 := ⟨_, rfl⟩
              go_region
              go_wp2_with fail
              have HI0 : Hid (IRel w1 b D6 bf bs F S b0 z[0] (S n) (S n).length (.bool b0) (.int .i64 0) w7.drew) := Lib.hid ⟨0, rfl, Nat.zero_le _, by simp [okB], rfl, HS7.out.more (Upd.refl _ _).drew⟩
              have HB0 := Lib.hid hb0
              clear HS7 q7 r7 hb0
              generalize hl : S n = sl at *
              have HSn := Lib.hid hl
              have hll : sl.length ≤ 30 := by rw [← hl]; exact HSL.out n
              clear hl
              go_loopg [19, 20] sl.length (fun g s19 s20 wr => IRel w1 b D6 bf bs F S b0 z[0] sl g s19 s20 wr)
              case atStart => exact HI0.out
              case round =>
                obtain ⟨m, rfl, hm, rfl, rfl, hS⟩ := hrel
                clear HI0
                have HS := Lib.hid hS
                have r7 := cell_lit hS.cs (arrS_get S hlt)
                rw [HSn.out] at r7
                obtain ⟨sn, hsn⟩ : ∃ sn : ByteArray, sn = ⟨sl.toArray⟩ := ⟨_, rfl⟩
                rw [← hsn] at r7
                have hsz : sn.size = sl.length := by rw [hsn, size_mk]
                clear hS
                by_cases hlm : m < sl.length
                · have e4 := fun w => run_index_str (P := Try.prog) _ sn m sl[m] Try.underlying9 (by rw [hsn, getElem?_pos _ m (by rw [size_mk]; exact hlm)]; rfl) w
                  have hst := okB_step (b0 := b0) (c := z[0]) hlm
                  generalize sl[m] = d at *
                  cases hok : okB b0 z[0] sl m
                  · rw [hok] at hst
                    have HST := Lib.hid hst
                    clear hst hok hsn
                    go_wp2_with fail
                    go_region
                    go_wp2_with fail
                    go_roundg (sl.length - (m + 1))
                    case measure => omega
                    case rel => exact ⟨m + 1, rfl, by omega, by rw [HST.out]; rfl, by simp, HS.out.more (Upd.refl _ _).drew⟩
                  · rw [hok] at hst
                    have HST := Lib.hid hst
                    clear hst hok hsn
                    go_wp2_with fail
                    go_region
                    go_wp2_with fail
                    go_roundg (sl.length - (m + 1))
                    case measure => omega
                    case rel => exact ⟨m + 1, rfl, by omega, by rw [HST.out]; rfl, by simp, HS.out.more (Upd.refl _ _).drew⟩
                · obtain rfl : m = sl.length := by omega
                  have hok : okB b0 z[0] sl sl.length = true := okB_all (x := F n) HC.out HB0.out.symm
                  rw [hok]
                  clear hsn hok
                  go_wp2_with fail
                  go_roundg (8 - (n + 1))
                  case measure => omega
                  case rel => exact ⟨n + 1, rfl, by omega, by simp, HS.out⟩
            · obtain rfl : n = 8 := by omega
              go_wp2_with fail
              refine (Loose_s w1 wr HS.out HL6.out).mono ?_
              rintro e w8 ⟨a, cc, rfl, h8⟩
              have HS8 := Lib.hid h8
              clear h8 HS
              go_wp2_with fail
              refine (Down_s w1 false w8 HS8.out HD6.out).mono ?_
              rintro e w9 ⟨rfl, rfl⟩
              go_wp2_with fail
              go_ret
              exact ⟨rfl, (Hb.out).trans (HS8.out.below.mono (Hb.out).size)⟩
theorem SectorSure_walk (v0 v1 v2 : Value) (w : World) (g0 : Reads w 22 v0) (g1 : Reads w 3 v1) (g2 : Reads w 23 v2) :
    Calls Try.prog 5 #[v0, v1, v2] w fun e w' => e = .returned (.bool true) ∧ Below w.heap.size w w' := by
  obtain ⟨l, h1, h2⟩ := reads_ints Try.underlying22 (by kernel_rfl) Try.underlying5 g0
  obtain ⟨t, rfl, ht⟩ := reads_int Try.underlying3 g1
  obtain ⟨keep, h3⟩ := reads_bools Try.underlying23 (by kernel_rfl) Try.underlying4 g2
  exact SectorSure_c v0 v2 l keep t w ⟨h1, fun n hn => u8_bounds (h2 n hn)⟩ h3
end Go.Proofs.Ytjgihpabbogpjaa
