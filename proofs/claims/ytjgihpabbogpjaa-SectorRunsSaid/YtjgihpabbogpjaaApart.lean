/- SectorApart: the walk. -/
import Derived.Test.YtjgihpabbogpjaaSecE
import Derived.Test.YtjgihpabbogpjaaRead
namespace Go.Proofs.Ytjgihpabbogpjaa
set_option linter.unusedVariables false
open Go.RowKit

def wD (D : Dk) (i : Int) (s : ByteArray) : Dk := { D with loose := D.loose ++ [(i, pad s)], now := put D.now i (pad s) }
def fD (D : Dk) : Dk := { D with firm := mrg D.now D.firm, loose := [], now := [] }
theorem write_free {D : Dk} {i : Int} {s : ByteArray} (hd : D.down = false) (hb : D.bound = false) (i0 : 0 ≤ i) (i1 : i < D.size) (hs : s.size ≤ 512) : dkWrite D i s = (0, wD D i s) := by
  simp [dkWrite, dkStep, hd, hb, show ¬ (i < 0 ∨ D.size ≤ i) by omega, show ¬ (512 < s.size) by omega, wD]
theorem flush_free {D : Dk} (hd : D.down = false) (hb : D.bound = false) : dkFlush D = (0, fD D) := by simp [dkFlush, dkStep, hd, hb, fD]

/-- A disk whose sector 'one' has firm content z, and no write since. -/
structure ApInv (one : Int) (z : ByteArray) (k : Nat) (D : Dk) : Prop where
  size : D.size = 10
  bound : D.bound = false
  down : D.down = false
  len : D.loose.length ≤ k
  l512 : ∀ p ∈ D.loose, p.2.size = 512
  lne : ∀ p ∈ D.loose, p.1 ≠ one
  now : look D.now one = none
  firm : look D.firm one = some z
theorem ApInv.write {one : Int} {z : ByteArray} {k : Nat} {D : Dk} (h : ApInv one z k D) {i : Int} (hi : i ≠ one) {s : ByteArray} (hs : s.size ≤ 512) : ApInv one z (k + 1) (wD D i s) := by
  refine ⟨h.size, h.bound, h.down, by have := h.len; simp [wD]; omega, ?_, ?_, ?_, h.firm⟩
  · intro p hp
    rcases List.mem_append.1 hp with hp | hp
    · exact h.l512 p hp
    · simp at hp; rw [hp]; exact pad_size hs
  · intro p hp
    rcases List.mem_append.1 hp with hp | hp
    · exact h.lne p hp
    · simp at hp; rw [hp]; exact hi
  · simp only [wD, look_put, hi, if_false]; exact h.now
theorem ApInv.flush {one : Int} {z : ByteArray} {k : Nat} {D : Dk} (h : ApInv one z k D) : ApInv one z k (fD D) := by
  refine ⟨h.size, h.bound, h.down, by simp [fD], by simp [fD], by simp [fD], rfl, ?_⟩
  simp only [fD, look_mrg, h.now]; exact h.firm
theorem ApInv.mono {one : Int} {z : ByteArray} {k k' : Nat} {D : Dk} (h : ApInv one z k D) (hk : k ≤ k') : ApInv one z k' D := ⟨h.size, h.bound, h.down, Nat.le_trans h.len hk, h.l512, h.lne, h.now, h.firm⟩
theorem look_fall {one : Int} (firm l : List (Int × ByteArray)) (keep : List Bool) (hl : ∀ p ∈ l, p.1 ≠ one) : look (fallFirm firm l keep) one = look firm one := by
  induction l generalizing firm keep with
  | nil => rfl
  | cons p r ih =>
    cases keep with
    | nil => rfl
    | cons b ks =>
      simp only [fallFirm]
      rw [ih _ ks (fun q hq => hl q (List.mem_cons_of_mem _ hq))]
      cases b
      · rfl
      · simp only [if_true, look_put, hl p (List.mem_cons_self ..), if_false]
theorem ApInv.fall {one : Int} {z : ByteArray} {k : Nat} {D : Dk} (h : ApInv one z k D) (i0 : 0 ≤ one) (i1 : one < 10) (keep : List Bool) : dkRead (dkFall D keep) one = (z, 0) := by
  have h1 : look (fallFirm D.firm D.loose keep) one = some z := by rw [look_fall _ _ _ h.lne]; exact h.firm
  simp [dkRead, dkFall, h.size, show ¬ (one < 0 ∨ 10 ≤ one) by omega, h1, look]
theorem ApInv.read {one : Int} {z : ByteArray} {k : Nat} {D : Dk} (h : ApInv one z k D) (i0 : 0 ≤ one) (i1 : one < 10) : dkRead D one = (z, 0) := by
  simp [dkRead, h.size, h.down, h.now, h.firm, show ¬ (one < 0 ∨ 10 ≤ one) by omega]
def bOwn : ByteArray := ⟨#[111, 119, 110]⟩
def zOwn : ByteArray := pad bOwn
theorem zOwn_head : (zOwn.extract 0 3).toList = [111, 119, 110] := by decide +kernel
theorem zOwn_three : 3 ≤ (zOwn.size : Int) := by decide +kernel
theorem ap_start {one : Int} (i0 : 0 ≤ one) (i1 : one < 10) : ApInv one zOwn 0 (fD (wD (dkNew 10) one bOwn)) :=
  ⟨rfl, rfl, rfl, by simp [fD], by simp [fD], by simp [fD], rfl, by simp [fD, wD, dkNew, mrg, put, del, look, zOwn]⟩

/-- A slice of bytes that came in. -/
def BytesAt (w : World) (v : Value) (l : List Int) : Prop := SliceAt w v (l.map (Value.int .u8)) ∧ ∀ n ∈ l, 0 ≤ n ∧ n < 256
theorem SliceAt.upd {w w' : World} {v : Value} {l : List Value} (h : SliceAt w v l) (hb : Below w.heap.size w w') : SliceAt w' v l := by
  obtain ⟨a, cap, rfl, h1, h2, h3⟩ := h
  refine ⟨a, cap, rfl, h1, h2, fun k hk => ?_⟩
  obtain ⟨b, off, e, g1, g2⟩ := h3 k hk
  exact ⟨b, off, e, (hb.cell (p := ⟨b, off + k, none⟩) g2).trans g1, Nat.lt_of_lt_of_le g2 hb.size⟩
theorem SliceAt.get {w : World} {a : Option Addr} {n cap : Nat} {l : List Value} (h : SliceAt w (.slice a n cap) l) (k : Nat) (hk : k < l.length) : ∃ b off, a = some ⟨b, off, none⟩ ∧ w.cell? ⟨b, off + k, none⟩ = some l[k] ∧ b < w.heap.size := by
  obtain ⟨a', c', e, _, _, hc⟩ := h
  cases e
  exact hc k hk
theorem bools_of_slice {w : World} {v : Value} {l : List Bool} (h : SliceAt w v (l.map Value.bool)) : BoolsAt w v l := by
  obtain ⟨a, cap, rfl, _, _, hc⟩ := h
  refine ⟨a, cap, by simp, fun k hk => ?_⟩
  obtain ⟨b, off, e, g1, g2⟩ := hc k (by simpa using hk)
  exact ⟨b, off, e, by simpa using g1, g2⟩
theorem u8_bounds {n : Int} (h : (Lit.int .u8 n).wf = true) : 0 ≤ n ∧ n < 256 := by
  have := bounds_u8 h; omega
/-- string([]byte{c}): the byte's box has just been laid. -/
theorem run_one_byte (c : Int) (w : World) : (convert 22 9 (.slice (some ⟨w.heap.size, 0, none⟩) 1 1)).run Try.prog (w.alloc (.cells #[.int .u8 c] 5)) = .ok (.string (strOfNums [c])) (w.alloc (.cells #[.int .u8 c] 5)) := by
  refine run_convert_bytes_arg _ 22 5 Try.underlying22 Try.underlying5 w.heap.size 0 1 1 [c] rfl (fun i hi => ?_) 9 Try.underlying9
  obtain rfl : i = 0 := by omega
  exact cell_lit (heap_alloc_new _ _) rfl
theorem strOne_size (c : Int) : (strOfNums [c]).size = 1 := strOfNums_size _
def ApRel (w w0 : World) (b : Nat) (one : Int) (z : ByteArray) (m : Nat) (g : Nat) (s50 : Value) (wr : World) : Prop :=
  ∃ (k : Nat) (D : Dk), g = m - k ∧ k ≤ m ∧ s50 = .int .i64 k ∧ ApInv one z k D ∧ Own w0 b D wr
theorem apRel_next {w w0 wr : World} {b : Nat} {one : Int} {z : ByteArray} {m k : Nat} {D : Dk} (hk : k < m) (h : ApInv one z (k + 1) D) (ho : Own w0 b D wr) : ApRel w w0 b one z m (m - (k + 1)) (.int .i64 (k + 1)) wr :=
  ⟨k + 1, D, rfl, hk, by simp, h, ho⟩
set_option maxHeartbeats 1000000 in
theorem SectorApart_c (v0 v2 : Value) (l : List Int) (keep : List Bool) (t : Int) (w : World) (hl : BytesAt w v0 l) (hk : SliceAt w v2 (keep.map Value.bool)) (t0 : 0 ≤ t) (t1 : t < 256) :
    Calls Try.prog 3 #[v0, .int .u8 t, v2] w fun e w' => e = .returned (.bool true) ∧ Below w.heap.size w w' := by
  have aw := awake_c w
  have HL := Lib.hid hl
  have HK := Lib.hid hk
  obtain ⟨a0, c0, rfl, -⟩ := hl.1
  obtain ⟨a2, c2, rfl, -⟩ := hk
  simp only [List.length_map] at HL HK ⊢
  by_cases h1 : 30 < l.length
  · clear hl
    go_enter Try.func3, Try.ntmps3
    go_wp2_with (go_at_call 7; refine aw.mono ?_; rintro e w1 ⟨rfl, hb⟩)
    go_ret
    exact ⟨rfl, hb⟩
  · by_cases h2 : 60 < keep.length
    · clear hl
      go_enter Try.func3, Try.ntmps3
      go_wp2_with (go_at_call 7; refine aw.mono ?_; rintro e w1 ⟨rfl, hb⟩)
      go_ret
      exact ⟨rfl, hb⟩
    · clear hl
      go_enter Try.func3, Try.ntmps3
      go_wp2_with (go_at_call 7; refine aw.mono ?_; rintro e w1 ⟨rfl, hb⟩)
      have Hb := Lib.hid hb
      clear hb aw
      refine (New_r 10 w1 (by decide) (by decide)).mono ?_
      rintro e w2 ⟨b, rfl, h2⟩
      have h2 := Own.new h2
      go_wp2_with fail
      refine (Write_o w1 b (dkNew 10) (wD (dkNew 10) (t % 10) bOwn) (t % 10) 0 bOwn w2 h2 (by decide) (write_free rfl rfl (by omega) (by show t % 10 < 10; omega) (by decide))).mono ?_
      rintro e w3 ⟨rfl, h3⟩
      clear h2
      go_wp2_with fail
      refine (Flush_o w1 b _ (fD (wD (dkNew 10) (t % 10) bOwn)) 0 w3 h3 (flush_free rfl rfl)).mono ?_
      rintro e w4 ⟨rfl, h4⟩
      clear h3
      have AI := Lib.hid (ap_start (one := t % 10) (by omega) (by omega))
      generalize fD (wD (dkNew 10) (t % 10) bOwn) = D0 at h4 AI
      go_wp2_with fail
      refine (Read_o w1 b D0 (t % 10) 0 zOwn w4 h4 (AI.out.read (by omega) (by omega))).mono ?_
      rintro e w5 ⟨rfl, h5⟩
      clear h4
      have R0 : ApRel w w1 b (t % 10) zOwn l.length l.length (.int .i64 0) w5 := ⟨0, D0, by omega, Nat.zero_le _, rfl, AI.out, h5⟩
      have HR := Lib.hid R0
      have Z1 := zOwn_head
      have Z2 := zOwn_three
      clear R0 h5 AI
      generalize zOwn = z at *
      generalize ht : t % 10 = one at *
      have o0 : 0 ≤ one := by omega
      have o1 : one < 10 := by omega
      clear ht
      go_wp2_with fail
      go_loopg [50] l.length (fun g s50 wr => ApRel w w1 b one z l.length g s50 wr)
      case atStart => exact HR.out
      case round =>
        obtain ⟨k, D, rfl, hkm, rfl, hinv, hown⟩ := hrel
        clear HR
        by_cases hk : k < l.length
        · obtain ⟨vb, vo, rfl, hvc, hvl⟩ := (HL.out).1.get k (by simpa using hk)
          have hbd := (HL.out).2 l[k] (List.getElem_mem _)
          have hvc : w.cell? ⟨vb, vo + k, none⟩ = some (.int .u8 l[k]) := by simpa using hvc
          have hvc : wr.cell? ⟨vb, vo + k, none⟩ = some (.int .u8 l[k]) := (((Hb.out).trans (hown.below.mono (Hb.out).size)).cell (p := ⟨vb, vo + k, none⟩) hvl).trans hvc
          obtain ⟨c0', c1'⟩ := hbd
          generalize l[k] = c at hvc c0' c1'
          have hlen : D.loose.length ≤ 4000000000 := by have := hinv.len; omega
          have AI := Lib.hid hinv
          clear hinv hvl
          have hcv := run_one_byte c wr
          by_cases e1 : c % 10 = one
          · have q1 : (c % 10 == one) = true := by simpa using e1
            have q3 : (c % 10 != one) = false := by simpa using e1
            clear hcv
            by_cases e2 : c % 2 = 1
            · have q2 : (c % 2 == 1) = true := by simpa using e2
              have E3 := Lib.hid (flush_free AI.out.down AI.out.bound)
              clear e1 e2
              go_wp2_with fail
              refine (Flush_o w1 b D _ 0 wr hown E3.out).mono ?_
              rintro e w7 ⟨rfl, h7⟩
              clear hown hvc
              go_wp2_with fail
              go_roundg (l.length - (k + 1))
              case measure => omega
              case rel => exact apRel_next hk (AI.out.flush.mono (by omega)) h7
            · have q2 : (c % 2 == 1) = false := by simpa using e2
              clear e1 e2
              go_wp2_with fail
              go_roundg (l.length - (k + 1))
              case measure => omega
              case rel => exact apRel_next hk (AI.out.mono (by omega)) hown
          · have q1 : (c % 10 == one) = false := by simpa using e1
            have q3 : (c % 10 != one) = true := by simpa using e1
            have m0 : 0 ≤ c % 10 ∧ c % 10 < 10 := by omega
            have E1 := Lib.hid e1
            have E2 := Lib.hid (write_free (s := strOfNums [c]) AI.out.down AI.out.bound m0.1 (by rw [AI.out.size]; exact m0.2) (by rw [strOne_size]; omega))
            clear m0
            by_cases e2 : c % 2 = 1
            · have q2 : (c % 2 == 1) = true := by simpa using e2
              clear e1 e2
              go_wp2_with fail
              refine (Write_o w1 b D _ (c % 10) 0 _ _ (hown.more ((Upd.refl _ _).alloc _)) hlen E2.out).mono ?_
              rintro e w6 ⟨rfl, h6⟩
              have E3 := Lib.hid (flush_free (D := wD D (c % 10) (strOfNums [c])) AI.out.down AI.out.bound)
              clear hown hcv hvc
              go_wp2_with fail
              refine (Flush_o w1 b _ _ 0 w6 h6 E3.out).mono ?_
              rintro e w7 ⟨rfl, h7⟩
              clear h6
              go_wp2_with fail
              go_roundg (l.length - (k + 1))
              case measure => omega
              case rel => exact apRel_next hk ((AI.out.write E1.out (by rw [strOne_size]; omega)).flush) h7
            · have q2 : (c % 2 == 1) = false := by simpa using e2
              clear e1 e2
              go_wp2_with fail
              refine (Write_o w1 b D _ (c % 10) 0 _ _ (hown.more ((Upd.refl _ _).alloc _)) hlen E2.out).mono ?_
              rintro e w6 ⟨rfl, h6⟩
              clear hown hcv hvc
              go_wp2_with fail
              go_roundg (l.length - (k + 1))
              case measure => omega
              case rel => exact apRel_next hk (AI.out.write E1.out (by rw [strOne_size]; omega)) h6
        · obtain rfl : k = l.length := by omega
          have hlen : D.loose.length ≤ 4000000000 := by have := hinv.len; omega
          have AI := Lib.hid hinv
          have hb2 := Lib.hid (bools_of_slice ((HK.out).upd ((Hb.out).trans (hown.below.mono (Hb.out).size))))
          clear hinv
          go_wp2_with fail
          refine (Fall_o w1 b D _ keep wr hown hb2.out hlen AI.out.l512 (by omega)).mono ?_
          rintro e w6 ⟨rfl, h6⟩
          clear hown
          go_wp2_with fail
          refine (Read_o w1 b _ one 0 z w6 h6 (AI.out.fall o0 o1 keep)).mono ?_
          rintro e w7 ⟨rfl, h7⟩
          clear h6
          have HB := Lib.hid ((Hb.out).trans (h7.below.mono (Hb.out).size))
          clear h7
          go_wp2_with fail
          go_ret
          exact ⟨rfl, HB.out⟩
theorem SectorApart_walk (v0 v1 v2 : Value) (w : World) (g0 : Reads w 22 v0) (g1 : Reads w 5 v1) (g2 : Reads w 23 v2) :
    Calls Try.prog 3 #[v0, v1, v2] w fun e w' => e = .returned (.bool true) ∧ Below w.heap.size w w' := by
  obtain ⟨l, h1, h2⟩ := reads_ints Try.underlying22 (by kernel_rfl) Try.underlying5 g0
  obtain ⟨t, rfl, ht⟩ := reads_int Try.underlying5 g1
  obtain ⟨keep, h3⟩ := reads_bools Try.underlying23 (by kernel_rfl) Try.underlying4 g2
  have := u8_bounds ht
  exact SectorApart_c v0 v2 l keep t w ⟨h1, fun n hn => u8_bounds (h2 n hn)⟩ h3 this.1 this.2
end Go.Proofs.Ytjgihpabbogpjaa
