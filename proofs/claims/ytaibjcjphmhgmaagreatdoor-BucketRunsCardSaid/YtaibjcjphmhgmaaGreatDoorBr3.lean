/- Parts of the proof of BucketRuns, joined: NameRk, BukS, BukU, BukV, BukW, BukX, BukY, BukL. No condition. -/
import Derived.Test.YtaibjcjphmhgmaaGreatDoorBr2
set_option linter.unusedSimpArgs false
set_option linter.unusedVariables false
set_option linter.unusedSectionVars false
namespace Go.Proofs.YtaibjcjphmhgmaaGreatDoor
set_option linter.unusedVariables false
set_option maxRecDepth 100000
set_option maxHeartbeats 2000000
open Go.RowKit
theorem name_cases (c : Nat) : (97 ≤ c ∧ c ≤ 122) ∨ (48 ≤ c ∧ c ≤ 57) ∨ c = 45 ∨ 122 < c ∨ (57 < c ∧ c < 97) ∨ (c < 48 ∧ c ≠ 45) := by omega
def BkRel (w : World) (s : ByteArray) (g : Nat) (s3 : Value) (wr : World) : Prop := ∃ k, g = s.size - k ∧ k ≤ s.size ∧ s3 = .int .i64 k ∧ (s.data.toList.take k).all nameB = true ∧ w = wr
theorem all_step {l : List UInt8} {k : Nat} (h : k < l.length) : (l.take (k + 1)).all nameB = ((l.take k).all nameB && nameB l[k]) := by
  rw [List.take_succ_eq_append_getElem h, List.all_append]; simp
theorem all_no {l : List UInt8} {k : Nat} (h : k < l.length) (hn : nameB l[k] = false) : l.all nameB = false := by
  rw [List.all_eq_false]; exact ⟨l[k], List.getElem_mem h, by simp [hn]⟩
theorem RBucket_c (s : ByteArray) (w : World) (hs : s.size ≤ 1000000000) :
    Calls Tryz.prog 55 #[.string s] w fun e w' => e = .returned (.bool (bktB s.data.toList)) ∧ w = w' := by
  have hl := Lib.size_eq s
  by_cases h1 : s.size < 3
  · have HE := Lib.hid (show bktB s.data.toList = false by unfold bktB; rw [← hl]; simp; omega)
    clear hl
    go_enter Tryz.func55, Tryz.ntmps55
    go_wp2_with fail
    go_ret
    exact ⟨ret_bool HE.out.symm, rfl⟩
  · by_cases h2 : 16 < s.size
    · have HE := Lib.hid (show bktB s.data.toList = false by unfold bktB; rw [← hl]; simp; omega)
      clear hl
      go_enter Tryz.func55, Tryz.ntmps55
      go_wp2_with fail
      go_ret
      exact ⟨ret_bool HE.out.symm, rfl⟩
    · have hb : bktB s.data.toList = (endsB s.data.toList && s.data.toList.all nameB) := by unfold bktB; rw [← hl]; simp only [show 3 ≤ s.size by omega, show s.size ≤ 16 by omega, decide_true, Bool.true_and]
      obtain ⟨n, hn⟩ : ∃ n : Nat, s.size = n + 1 := ⟨s.size - 1, by omega⟩
      have hget : ∀ k (h : k < s.size), s.data.toList[k]? = some s[k] := fun k h => by
        rw [List.getElem?_eq_getElem (by rw [← hl]; exact h)]
        have : s[k] = s.data.toList[k]'(by rw [← hl]; exact h) := by simp; rfl
        rw [this]
      have p0 : 0 < s.size := by omega
      have pn : n < s.size := by omega
      have he : endsB s.data.toList = (!((s[0].toNat : Int) == 45) && !((s[n].toNat : Int) == 45)) := by
        have a1 : s.data.toList.head? = some s[0] := by rw [List.head?_eq_getElem?, hget 0 p0]
        have a2 : s.data.toList.getLast? = some s[n] := by
          rw [List.getLast?_eq_getElem?, ← hl]
          have : s.size - 1 = n := by omega
          rw [this, hget n pn]
        have b : ∀ x : UInt8, (some x != some (45 : UInt8)) = !((x.toNat : Int) == 45) := fun x => by
          rw [Bool.eq_iff_iff]
          simp only [bne_iff_ne, ne_eq, Option.some.injEq, Bool.not_eq_true', beq_eq_false_iff_ne]
          exact ⟨fun h e => h (UInt8.toNat_inj.1 (by simpa using Int.ofNat_inj.1 e)), fun h e => h (by rw [e]; rfl)⟩
        unfold endsB
        rw [a1, a2, b, b]
      rw [he] at hb
      have HG := Lib.hid hget
      have hcase : ∃ q0 q1 : Bool, ((s[0].toNat : Int) == 45) = q0 ∧ ((s[n].toNat : Int) == 45) = q1 := ⟨_, _, rfl, rfl⟩
      obtain ⟨q0, q1, c0, c1⟩ := hcase
      rw [c0, c1] at hb
      have HB := Lib.hid hb
      have hn1 : n ≤ 15 := by omega
      clear he hb hget hl
      cases q0
      · cases q1
        · go_enter Tryz.func55, Tryz.ntmps55
          go_wp2_with fail
          go_loopg [3] s.size (fun g s3 wr => BkRel w s g s3 wr)
          case atStart => exact ⟨0, by omega, Nat.zero_le _, rfl, rfl, rfl⟩
          case round =>
            obtain ⟨k, rfl, hk, rfl, hall, rfl⟩ := hrel
            have HALL := Lib.hid hall
            clear hall c0 c1
            by_cases hlt : k < s.size
            · have hln : k < s.data.toList.length := by rw [← Lib.size_eq]; exact hlt
              have hge : s.data.toList[k] = s[k] := by
                have := HG.out k hlt
                rw [List.getElem?_eq_getElem hln] at this
                exact Option.some.inj this
              have hst := all_step hln
              have hno := all_no hln
              rw [hge] at hst hno
              rw [HALL.out] at hst
              have HST := Lib.hid hst
              have HNO := Lib.hid hno
              have hlt2 : k < n + 1 := by omega
              clear hst hno hge HALL
              generalize hck : s[k] = c at *
              have hidx : True := trivial
              rcases name_cases c.toNat with ⟨a1, a2⟩ | ⟨a1, a2⟩ | a1 | a1 | ⟨a1, a2⟩ | ⟨a1, a2⟩
              · have hc : nameB c = true := by unfold nameB; simp [a1, a2]
                have HR := Lib.hid (show (s.data.toList.take (k + 1)).all nameB = true by rw [HST.out, hc]; rfl)
                clear hc HST HNO
                have b0 : True := trivial
                go_wp2_with fail
                go_roundg (s.size - (k + 1))
                case measure => omega
                case rel => exact ⟨k + 1, rfl, by omega, by simp, HR.out, rfl⟩
              · have hc : nameB c = true := by unfold nameB; simp [a1, a2]
                have HR := Lib.hid (show (s.data.toList.take (k + 1)).all nameB = true by rw [HST.out, hc]; rfl)
                clear hc HST HNO
                have b1 : c.toNat < 97 := by omega
                go_wp2_with fail
                go_roundg (s.size - (k + 1))
                case measure => omega
                case rel => exact ⟨k + 1, rfl, by omega, by simp, HR.out, rfl⟩
              · have hc : nameB c = true := by unfold nameB; simp [a1]
                have HR := Lib.hid (show (s.data.toList.take (k + 1)).all nameB = true by rw [HST.out, hc]; rfl)
                clear hc HST HNO
                have b2 : ((c.toNat : Int) == 45) = true := by simp; omega
                have b3 : c.toNat < 97 := by omega
                have b4 : c.toNat < 48 := by omega
                clear a1
                go_wp2_with fail
                go_roundg (s.size - (k + 1))
                case measure => omega
                case rel => exact ⟨k + 1, rfl, by omega, by simp, HR.out, rfl⟩
              · have hc : nameB c = false := by unfold nameB; simp; omega
                have HE := Lib.hid (show bktB s.data.toList = false by rw [HB.out, HNO.out hc]; rfl)
                clear hc HST HNO
                have b2 : ((c.toNat : Int) == 45) = false := by simp; omega
                have b3 : 97 ≤ c.toNat := by omega
                have b4 : 48 ≤ c.toNat := by omega
                have b5 : 57 < c.toNat := by omega
                have b6 : decide ((c.toNat : Int) ≤ 122) = false := by simp; omega
                have b7 : decide ((c.toNat : Int) ≤ 57) = false := by simp; omega
                go_wp2_with fail
                go_ret
                exact ⟨ret_bool HE.out.symm, rfl⟩
              · have hc : nameB c = false := by unfold nameB; simp; omega
                have HE := Lib.hid (show bktB s.data.toList = false by rw [HB.out, HNO.out hc]; rfl)
                clear hc HST HNO
                have b2 : ((c.toNat : Int) == 45) = false := by simp; omega
                have b4 : 48 ≤ c.toNat := by omega
                have b7 : decide ((c.toNat : Int) ≤ 57) = false := by simp; omega
                go_wp2_with fail
                go_ret
                exact ⟨ret_bool HE.out.symm, rfl⟩
              · have hc : nameB c = false := by unfold nameB; simp; omega
                have HE := Lib.hid (show bktB s.data.toList = false by rw [HB.out, HNO.out hc]; rfl)
                clear hc HST HNO
                have b2 : ((c.toNat : Int) == 45) = false := by simp; omega
                have b3 : c.toNat < 97 := by omega
                clear a2
                go_wp2_with fail
                go_ret
                exact ⟨ret_bool HE.out.symm, rfl⟩
            · obtain rfl : k = s.size := by omega
              have HE := Lib.hid (show bktB s.data.toList = true by
                have := HALL.out
                rw [List.take_of_length_le (by rw [Lib.size_eq]; exact Nat.le_refl _)] at this
                rw [HB.out, this]; rfl)
              clear HALL
              go_wp2_with fail
              go_ret
              exact ⟨ret_bool HE.out.symm, rfl⟩
        · go_enter Tryz.func55, Tryz.ntmps55
          go_wp2_with fail
          go_ret
          exact ⟨ret_bool (by rw [HB.out]; rfl), rfl⟩
      · go_enter Tryz.func55, Tryz.ntmps55
        go_wp2_with fail
        go_ret
        exact ⟨ret_bool (by rw [HB.out]; rfl), rfl⟩
end Go.Proofs.YtaibjcjphmhgmaaGreatDoor
namespace Go.Proofs.YtaibjcjphmhgmaaGreatDoor
set_option linter.unusedVariables false
set_option maxRecDepth 100000
set_option maxHeartbeats 2000000
open Go.RowKit
def bcell (b : Bk) : List Value := [.string b.nm, .int .i64 (b.st : Int), .int .u64 (b.born : Int), .bool b.on, .string b.pre, .int .u64 (b.af : Int), .slice none 0 0, .slice none 0 0]
def bcells (B : List Bk) : List Value := B.flatMap bcell
theorem bcells_len (B : List Bk) : (bcells B).length = B.length * 8 := by
  induction B with
  | nil => rfl
  | cons b B ih => rw [show bcells (b :: B) = bcell b ++ bcells B from rfl, List.length_append, ih, List.length_cons]; simp [bcell]; omega
theorem bcells_get (B : List Bk) (i j : Nat) (h : i < B.length) (hj : j < 8) : (bcells B)[i * 8 + j]? = (bcell B[i])[j]? := by
  induction B generalizing i with
  | nil => simp at h
  | cons b B ih =>
    rw [show bcells (b :: B) = bcell b ++ bcells B from rfl]
    have hl : (bcell b).length = 8 := rfl
    cases i with
    | zero => rw [Nat.zero_mul, Nat.zero_add, List.getElem?_append_left (by omega)]; rfl
    | succ i =>
      rw [List.getElem?_append_right (by omega), hl, show (i + 1) * 8 + j - 8 = i * 8 + j by omega, ih i (by simpa using h)]
      rfl
theorem bcells_app (A C : List Bk) : bcells (A ++ C) = bcells A ++ bcells C := by simp [bcells]
/-- A row of buckets, as the reference has it. -/
def RB (w : World) (v : Value) (B : List Bk) : Prop := w.ownsRow 0 53 8 v B.length (bcells B)
theorem RB.lit {w : World} {v : Value} {B : List Bk} (h : RB w v B) : ∃ va vc, v = .slice va B.length vc := by
  rcases h.2 with ⟨rfl, h0⟩ | ⟨g, cap, cur, rfl, -⟩
  · exact ⟨_, _, by rw [h0]⟩
  · exact ⟨_, _, rfl⟩
theorem RB.at {w : World} {va : Option Addr} {n vc : Nat} {B : List Bk} (h : RB w (.slice va n vc) B) (i : Nat) (hi : i < B.length) : ∃ g, va = some ⟨g, 0, none⟩ ∧ g < w.heap.size ∧ ∀ j, j < 8 → w.cell? ⟨g, i * 8 + j, none⟩ = (bcell B[i])[j]? := by
  have h2 := h.2
  rcases h2 with ⟨e, h0⟩ | ⟨g, cap, cur, e, h1, h2, -⟩
  · omega
  · cases e
    refine ⟨g, rfl, lt_of_heap h2, fun j hj => ?_⟩
    have := World.ownsRow.cellAt h (i * 8 + j) (by omega)
    rw [this, bcells_get B i j hi hj]
theorem RB.below {w w' : World} {v : Value} {B : List Bk} (h : RB w v B) (hb : Below w.heap.size w w') : RB w' v B := ownsRow_upd h (hb.upd' (Nat.le_refl _)) fun _ _ e => e
/-- The place of a name. -/
def atI (B : List Bk) (s : ByteArray) : Int := match B.findIdx? (fun b => decide (b.nm = s)) with
  | some i => (i : Int)
  | none => -1
theorem atI_split {A C : List Bk} {b : Bk} {s : ByteArray} (hA : ∀ a ∈ A, a.nm ≠ s) (hb : b.nm = s) : atI (A ++ b :: C) s = (A.length : Int) := by
  unfold atI
  have : (A ++ b :: C).findIdx? (fun b => decide (b.nm = s)) = some A.length := by
    rw [List.findIdx?_eq_some_iff_getElem]
    refine ⟨by simp, by simp [hb], fun j hj => ?_⟩
    rw [List.getElem_append_left hj]
    simp [hA _ (List.getElem_mem hj)]
  rw [this]
theorem atI_none {B : List Bk} {s : ByteArray} (h : ∀ b ∈ B, b.nm ≠ s) : atI B s = -1 := by
  unfold atI
  have : B.findIdx? (fun b => decide (b.nm = s)) = none := by
    rw [List.findIdx?_eq_none_iff]
    intro b hb
    simp [h b hb]
  rw [this]
theorem ba_eq {a b : ByteArray} : (a.toList == b.toList) = decide (a = b) := by
  by_cases h : a = b
  · simp [h]
  · have : ¬ a.toList = b.toList := fun e => h (by
      rw [Lib.toList_data, Lib.toList_data] at e
      exact ByteArray.ext (Array.toList_inj.1 e))
    simp [h, this]
theorem take_get_drop (B : List Bk) (i : Nat) (h : i < B.length) : B.take i ++ B[i] :: B.drop (i + 1) = B := by
  induction B generalizing i with
  | nil => simp at h
  | cons b B ih =>
    cases i with
    | zero => simp
    | succ i => simp
theorem At14_c (v : Value) (nx : Int) (B : List Bk) (s : ByteArray) (w : World) (h : RB w v B) (hl : B.length ≤ 100) :
    Calls Tryz.prog 17 #[.agg #[v, .int .u64 nx], .string s] w fun e w' => e = .returned (.int .i64 (atI B s)) ∧ Hid (Below w.heap.size w w') := by
  obtain ⟨va, vc, rfl⟩ := h.lit
  obtain ⟨w0, hw0⟩ : ∃ w0, w.alloc (.cells #[.slice va B.length vc, .int .u64 nx] 35) = w0 := ⟨_, rfl⟩
  have HB0 : Hid (Below w.heap.size w w0) := Lib.hid (by rw [← hw0]; exact below_alloc _ _)
  have c0 : w0.cell? ⟨w.heap.size, 0, none⟩ = some (.slice va B.length vc) := by rw [← hw0]; exact cell_lit (heap_alloc_new _ _) rfl
  have CE := Lib.hid (h.below HB0.out).at
  have HL := Lib.hid hl
  clear h hl
  go_enter Tryz.func17, Tryz.ntmps17
  go_wp2_with fail
  go_loopg [5] B.length (fun g s5 wr => ∃ i : Nat, g = B.length - i ∧ i ≤ B.length ∧ s5 = .int .i64 (i : Int) ∧ wr = w0 ∧ Hid (∀ b ∈ B.take i, b.nm ≠ s))
  case atStart => exact ⟨0, rfl, Nat.zero_le _, rfl, rfl, Lib.hid (by simp)⟩
  case round =>
    obtain ⟨i, rfl, hi, rfl, rfl, HA⟩ := hrel
    by_cases hlt : i < B.length
    · obtain ⟨g, rfl, hg, hc⟩ := CE.out i hlt
      have d0 : wr.cell? ⟨g, i * 8, none⟩ = some (.string B[i].nm) := hc 0 (by decide)
      have hltI : (i : Int) < (B.length : Int) := by omega
      have HLT := Lib.hid hlt
      have hi1 : i ≤ 100 := by have := HL.out; omega
      by_cases he : B[i].nm = s
      · have p : (B[i].nm.toList == s.toList) = true := by rw [ba_eq]; simp [he]
        have HR : Hid (atI B s = (i : Int)) := Lib.hid (by
          have := atI_split (C := B.drop (i + 1)) HA.out he
          rw [List.length_take, Nat.min_eq_left (by omega)] at this
          exact (congrArg (fun l => atI l s) (take_get_drop B i hlt)).symm.trans this)
        generalize B[i].nm = nm at *
        clear he hc hlt
        go_wp2_with fail
        go_ret
        exact ⟨by rw [HR.out]; rfl, HB0⟩
      · have p : (B[i].nm.toList == s.toList) = false := by rw [ba_eq]; simp [he]
        have HN : Hid (∀ b ∈ B.take (i + 1), b.nm ≠ s) := Lib.hid (by
          rw [List.take_succ_eq_append_getElem hlt]
          intro b hb
          rcases List.mem_append.1 hb with hb | hb
          · exact HA.out b hb
          · simp at hb; rw [hb]; exact he)
        generalize B[i].nm = nm at *
        clear he hc hlt
        go_wp2_with fail
        go_roundg (B.length - (i + 1))
        case measure => have := HLT.out; omega
        case rel => exact ⟨i + 1, rfl, HLT.out, by congr 1, rfl, HN⟩
    · obtain rfl : i = B.length := by omega
      have HR : Hid (atI B s = -1) := Lib.hid (atI_none (by have := HA.out; rwa [List.take_length] at this))
      clear hlt hi
      go_wp2_with fail
      go_ret
      exact ⟨by rw [HR.out]; rfl, HB0⟩
end Go.Proofs.YtaibjcjphmhgmaaGreatDoor
namespace Go.Proofs.YtaibjcjphmhgmaaGreatDoor
set_option linter.unusedVariables false
set_option maxRecDepth 100000
set_option maxHeartbeats 2000000
open Go.RowKit
theorem atI_bAt (B : List Bk) (s : ByteArray) : (bAt B s = none ∧ atI B s = -1) ∨ (∃ A b C, B = A ++ b :: C ∧ (∀ a ∈ A, a.nm ≠ s) ∧ b.nm = s ∧ bAt B s = some b ∧ atI B s = (A.length : Int)) := by
  cases hf : bAt B s with
  | none => exact .inl ⟨rfl, atI_none (bAt_none hf)⟩
  | some b =>
    right
    obtain ⟨h1, A, C, h2, h3⟩ := List.find?_eq_some_iff_append.1 hf
    have hb : b.nm = s := by simpa using h1
    refine ⟨A, b, C, h2, fun a ha => by simpa using h3 a ha, hb, rfl, ?_⟩
    rw [h2]
    exact atI_split (fun a ha => by simpa using h3 a ha) hb
theorem Error14_c (v : Value) (nx : Int) (B : List Bk) (s : ByteArray) (w : World) (h : RB w v B) (hl : B.length ≤ 100) (hs : s.size ≤ 1000) :
    Calls Tryz.prog 16 #[.agg #[v, .int .u64 nx], .string s] w fun e w' => e = .returned (.int .i64 (errB B s : Int)) ∧ Hid (Below w.heap.size w w') := by
  obtain ⟨va, vc, rfl⟩ := h.lit
  obtain ⟨w0, hw0⟩ : ∃ w0, w.alloc (.cells #[.slice va B.length vc, .int .u64 nx] 35) = w0 := ⟨_, rfl⟩
  have HB0 : Hid (Below w.heap.size w w0) := Lib.hid (by rw [← hw0]; exact below_alloc _ _)
  obtain ⟨c0, c1⟩ : w0.cell? ⟨w.heap.size, 0, none⟩ = some (.slice va B.length vc) ∧ w0.cell? ⟨w.heap.size, 1, none⟩ = some (.int .u64 nx) := by rw [← hw0]; exact ⟨cell_lit (heap_alloc_new _ _) rfl, cell_lit (heap_alloc_new _ _) rfl⟩
  have BC := RBucket_c s w0 (by omega)
  have AT := At14_c _ nx B s w0 (h.below HB0.out) hl
  rcases errB_cases B s with ⟨h1, h2⟩ | ⟨h1, h2, h3⟩ | ⟨h1, h2, b, h3⟩
  · rw [h1]
    rw [h2] at BC
    clear h hl hs h1 h2 AT
    go_enter Tryz.func16, Tryz.ntmps16
    go_wp2_with fail
    refine BC.mono ?_
    rintro e w1 ⟨rfl, rfl⟩
    clear BC
    go_wp2_with fail
    go_ret
    exact ⟨rfl, HB0⟩
  · have ha : atI B s = -1 := by
      rcases atI_bAt B s with ⟨-, x⟩ | ⟨A, b, C, -, -, -, x, -⟩
      · exact x
      · rw [h3] at x; cases x
    rw [h1]
    rw [h2] at BC
    rw [ha] at AT
    clear h hl hs h1 h2 h3 ha
    go_enter Tryz.func16, Tryz.ntmps16
    go_wp2_with fail
    refine BC.mono ?_
    rintro e w1 ⟨rfl, rfl⟩
    clear BC
    go_wp2_with fail
    refine AT.mono ?_
    rintro e w2 ⟨rfl, hb⟩
    clear AT
    go_wp2_with fail
    go_ret
    exact ⟨rfl, Lib.hid (HB0.out.trans (hb.out.mono HB0.out.size))⟩
  · have ha : ¬ atI B s < 0 := by
      rcases atI_bAt B s with ⟨x, -⟩ | ⟨A, b, C, -, -, -, -, x⟩
      · rw [h3] at x; cases x
      · rw [x]; omega
    rw [h1]
    rw [h2] at BC
    generalize atI B s = k at *
    clear h hl hs h1 h2 h3
    go_enter Tryz.func16, Tryz.ntmps16
    go_wp2_with fail
    refine BC.mono ?_
    rintro e w1 ⟨rfl, rfl⟩
    clear BC
    go_wp2_with fail
    refine AT.mono ?_
    rintro e w2 ⟨rfl, hb⟩
    clear AT
    go_wp2_with fail
    go_ret
    exact ⟨rfl, Lib.hid (HB0.out.trans (hb.out.mono HB0.out.size))⟩
theorem set8 (P Q : List Value) (a0 a1 a2 a3 a4 a5 a6 a7 c0 c1 c2 c3 c4 c5 c6 c7 : Value) (k : Nat) (hk : P.length = k) :
    ((((((((P ++ a0 :: a1 :: a2 :: a3 :: a4 :: a5 :: a6 :: a7 :: Q).set k c0).set (k + 1) c1).set (k + 2) c2).set (k + 3) c3).set (k + 4) c4).set (k + 5) c5).set (k + 6) c6).set (k + 7) c7 = P ++ c0 :: c1 :: c2 :: c3 :: c4 :: c5 :: c6 :: c7 :: Q := by
  subst hk
  simp [List.set_append]
end Go.Proofs.YtaibjcjphmhgmaaGreatDoor
namespace Go.Proofs.YtaibjcjphmhgmaaGreatDoor
set_option linter.unusedVariables false
set_option maxRecDepth 100000
set_option maxHeartbeats 2000000
open Go.RowKit
theorem infoBk : (Tryz.prog.info? 53).map (fun i => (i.zero, i.size, i.bytes)) = some (some (.agg #[.string ⟨#[]⟩, .int .i64 0, .int .u64 0, .bool false, .string ⟨#[]⟩, .int .u64 0, .slice none 0 0, .slice none 0 0]), 8, 112) := by kernel_rfl
theorem yields_row {w : World} {base : Nat} {e : TypeId} {size : Nat} {v : Value} {n : Nat} {xs : List Value} (h : w.ownsRow base e size v n xs) : Yields w v n xs := by
  have h2 := h.2
  rcases h2 with ⟨rfl, rfl⟩ | ⟨g, cap, cur, rfl, -⟩
  · exact ⟨none, 0, rfl, fun _ => rfl, fun ad e => (by cases e)⟩
  · refine ⟨_, _, rfl, fun e => (by cases e), fun ad e j u hu => ?_⟩
    cases e
    exact h.cells rfl j u hu
theorem one_bcells (B : List Bk) : ∀ u ∈ bcells B, u.oneCell' = true := by
  intro u hu
  obtain ⟨b, -, hb⟩ := List.mem_flatMap.1 hu
  simp only [bcell, List.mem_cons, List.not_mem_nil, or_false] at hb
  rcases hb with rfl | rfl | rfl | rfl | rfl | rfl | rfl | rfl <;> rfl
theorem row_nil {w : World} {base : Nat} (e : TypeId) (size : Nat) (hb : base ≤ w.heap.size) : (w.alloc (.cells #[] e)).ownsRow base e size (.slice (some ⟨w.heap.size, 0, none⟩) 0 0) 0 [] :=
  ⟨by simp, .inr ⟨w.heap.size, 0, #[], rfl, hb, heap_alloc_new w _, Nat.le_refl _, Nat.zero_le _, by simp, by simp⟩⟩
theorem row_ne {W : World} {base : Nat} {e : TypeId} {size n p : Nat} {v : Value} {xs : List Value} (h : W.ownsRow base e size v n xs) (i : Nat) (u : Value) (hp : v.ownBlock ≠ some p) : (W.setCell ⟨p, i, none⟩ u).ownsRow base e size v n xs :=
  ownsRow_upd h (upd_setCell W p i u) fun k hk e => hp (by rw [hk, e])
/-- Behind the copy. -/
theorem with_put {w W4 W5 : World} {va : Option Addr} {L vc : Nat} {nx : Int} {A C : List Bk} {b b' : Bk} {v5 : Value} (hA : A.length < L) (hL : (A ++ b :: C).length = L)
    (ho : W5.ownsRow w.heap.size 53 8 v5 (0 + L) ([] ++ bcells (A ++ b :: C))) (hg : W4.grownBy W5 (Value.slice (some ⟨w.heap.size + 1 + 1 + 1, 0, none⟩) 0 0).ownBlock) (ha : v5.ownBlock = (Value.slice (some ⟨w.heap.size + 1 + 1 + 1, 0, none⟩) 0 0).ownBlock ∨ v5.ownBlock = some W4.heap.size)
    (h4 : Below w.heap.size w W4 ∧ w.heap.size ≤ W4.heap.size ∧ W4.heap.size = w.heap.size + 4)
    (hc : W4.heap[w.heap.size]? = some (.cells #[.slice va L vc, .int .u64 nx] 35 (0, 0)) ∧ W4.heap[w.heap.size + 1]? = some (.cells #[.string b'.nm, .int .i64 (b'.st : Int), .int .u64 (b'.born : Int), .bool b'.on, .string b'.pre, .int .u64 (b'.af : Int), .slice none 0 0, .slice none 0 0] 53 (0, 0)) ∧ W4.heap[w.heap.size + 2]? = some (.cells #[.slice none 0 0, .int .u64 0] 35 (0, 0))) :
    (∃ g cap, v5 = .slice (some ⟨g, 0, none⟩) L cap ∧ ¬ g = w.heap.size ∧ ¬ g = w.heap.size + 1 ∧ ¬ g = w.heap.size + 1 + 1 ∧
      (W5.cell? ⟨w.heap.size, 0, none⟩ = some (.slice va L vc) ∧ W5.cell? ⟨w.heap.size, 1, none⟩ = some (.int .u64 nx) ∧ W5.frozen? ⟨w.heap.size, 0, none⟩ = false) ∧
      (W5.cell? ⟨w.heap.size + 1, 0, none⟩ = some (.string b'.nm) ∧ W5.cell? ⟨w.heap.size + 1, 1, none⟩ = some (.int .i64 (b'.st : Int)) ∧ W5.cell? ⟨w.heap.size + 1, 2, none⟩ = some (.int .u64 (b'.born : Int)) ∧ W5.cell? ⟨w.heap.size + 1, 3, none⟩ = some (.bool b'.on) ∧ W5.cell? ⟨w.heap.size + 1, 4, none⟩ = some (.string b'.pre) ∧ W5.cell? ⟨w.heap.size + 1, 5, none⟩ = some (.int .u64 (b'.af : Int)) ∧ W5.cell? ⟨w.heap.size + 1, 6, none⟩ = some (.slice none 0 0) ∧ W5.cell? ⟨w.heap.size + 1, 7, none⟩ = some (.slice none 0 0)) ∧
      (∀ j, W5.frozen? ⟨g, j, none⟩ = false) ∧
      (W5.cell? ⟨g, A.length * 8, none⟩ = some (.string b.nm) ∧ W5.cell? ⟨g, A.length * 8 + 1, none⟩ = some (.int .i64 (b.st : Int)) ∧ W5.cell? ⟨g, A.length * 8 + 2, none⟩ = some (.int .u64 (b.born : Int)) ∧ W5.cell? ⟨g, A.length * 8 + 3, none⟩ = some (.bool b.on) ∧ W5.cell? ⟨g, A.length * 8 + 4, none⟩ = some (.string b.pre) ∧ W5.cell? ⟨g, A.length * 8 + 5, none⟩ = some (.int .u64 (b.af : Int)) ∧ W5.cell? ⟨g, A.length * 8 + 6, none⟩ = some (.slice none 0 0) ∧ W5.cell? ⟨g, A.length * 8 + 7, none⟩ = some (.slice none 0 0)) ∧
      (W5.cell? ⟨w.heap.size + 1 + 1, 0, none⟩ = some (.slice none 0 0) ∧ W5.cell? ⟨w.heap.size + 1 + 1, 1, none⟩ = some (.int .u64 0)) ∧ (∀ j, W5.frozen? ⟨w.heap.size + 1 + 1, j, none⟩ = false) ∧
      Hid (RB (((((((((((W5.setCell ⟨w.heap.size, 0, none⟩ (.slice (some ⟨g, 0, none⟩) L cap)).setCell ⟨g, A.length * 8, none⟩ (.string b'.nm)).setCell ⟨g, A.length * 8 + 1, none⟩ (.int .i64 (b'.st : Int))).setCell ⟨g, A.length * 8 + 2, none⟩ (.int .u64 (b'.born : Int))).setCell ⟨g, A.length * 8 + 3, none⟩ (.bool b'.on)).setCell ⟨g, A.length * 8 + 4, none⟩ (.string b'.pre)).setCell ⟨g, A.length * 8 + 5, none⟩ (.int .u64 (b'.af : Int))).setCell ⟨g, A.length * 8 + 6, none⟩ (.slice none 0 0)).setCell ⟨g, A.length * 8 + 7, none⟩ (.slice none 0 0)).setCell ⟨w.heap.size + 1 + 1, 0, none⟩ (.slice (some ⟨g, 0, none⟩) L cap)).setCell ⟨w.heap.size + 1 + 1, 1, none⟩ (.int .u64 nx)) (.slice (some ⟨g, 0, none⟩) L cap) (A ++ b' :: C) ∧ Below w.heap.size w (((((((((((W5.setCell ⟨w.heap.size, 0, none⟩ (.slice (some ⟨g, 0, none⟩) L cap)).setCell ⟨g, A.length * 8, none⟩ (.string b'.nm)).setCell ⟨g, A.length * 8 + 1, none⟩ (.int .i64 (b'.st : Int))).setCell ⟨g, A.length * 8 + 2, none⟩ (.int .u64 (b'.born : Int))).setCell ⟨g, A.length * 8 + 3, none⟩ (.bool b'.on)).setCell ⟨g, A.length * 8 + 4, none⟩ (.string b'.pre)).setCell ⟨g, A.length * 8 + 5, none⟩ (.int .u64 (b'.af : Int))).setCell ⟨g, A.length * 8 + 6, none⟩ (.slice none 0 0)).setCell ⟨g, A.length * 8 + 7, none⟩ (.slice none 0 0)).setCell ⟨w.heap.size + 1 + 1, 0, none⟩ (.slice (some ⟨g, 0, none⟩) L cap)).setCell ⟨w.heap.size + 1 + 1, 1, none⟩ (.int .u64 nx)) ∧ w.heap.size ≤ g)) ∧ True := by
  rw [Nat.zero_add, List.nil_append] at ho
  obtain ⟨g, cap, rfl, hgb, hgl⟩ := ho.form (by omega)
  have hgg : g = w.heap.size + 3 ∨ g = w.heap.size + 4 := by
    simp only [Value.ownBlock, Option.some.injEq] at ha
    omega
  have k0 : W5.heap[w.heap.size]? = _ := (hg.block w.heap.size (by omega) (by simp [Value.ownBlock]; omega)).trans hc.1
  have k1 : W5.heap[w.heap.size + 1]? = _ := (hg.block (w.heap.size + 1) (by omega) (by simp [Value.ownBlock])).trans hc.2.1
  have k2 : W5.heap[w.heap.size + 2]? = _ := (hg.block (w.heap.size + 2) (by omega) (by simp [Value.ownBlock])).trans hc.2.2
  have hrb : RB W5 (.slice (some ⟨g, 0, none⟩) L cap) (A ++ b :: C) := by
    unfold RB
    rw [hL]
    exact Joins.ownsRow_le ho (Nat.zero_le _)
  obtain ⟨g', e, -, hcc⟩ := hrb.at A.length (by rw [hL]; exact hA)
  cases e
  have hb : (A ++ b :: C)[A.length]'(by rw [hL]; exact hA) = b := by simp
  rw [hb] at hcc
  refine ⟨⟨g, cap, rfl, by omega, by omega, by omega, ⟨cell_lit k0 rfl, cell_lit k0 rfl, frozen_lit k0 0⟩, ⟨cell_lit k1 rfl, cell_lit k1 rfl, cell_lit k1 rfl, cell_lit k1 rfl, cell_lit k1 rfl, cell_lit k1 rfl, cell_lit k1 rfl, cell_lit k1 rfl⟩, fun j => ho.frozenAt j,
    ⟨hcc 0 (by decide), hcc 1 (by decide), hcc 2 (by decide), hcc 3 (by decide), hcc 4 (by decide), hcc 5 (by decide), hcc 6 (by decide), hcc 7 (by decide)⟩, ⟨cell_lit k2 rfl, cell_lit k2 rfl⟩, fun j => frozen_lit k2 j, Lib.hid ⟨?_, ?_, hgb⟩⟩, trivial⟩
  · have x0 := row_ne ho 0 (.slice (some ⟨g, 0, none⟩) L cap) (p := w.heap.size) (fun e => by simp [Value.ownBlock] at e; omega)
    have x1 := (x0.stored (A.length * 8) (.string b'.nm)).1
    have x2 := (x1.stored (A.length * 8 + 1) (.int .i64 (b'.st : Int))).1
    have x3 := (x2.stored (A.length * 8 + 2) (.int .u64 (b'.born : Int))).1
    have x4 := (x3.stored (A.length * 8 + 3) (.bool b'.on)).1
    have x5 := (x4.stored (A.length * 8 + 4) (.string b'.pre)).1
    have x6 := (x5.stored (A.length * 8 + 5) (.int .u64 (b'.af : Int))).1
    have x7 := (x6.stored (A.length * 8 + 6) (.slice none 0 0)).1
    have x8 := (x7.stored (A.length * 8 + 7) (.slice none 0 0)).1
    have x9 := row_ne x8 0 (.slice (some ⟨g, 0, none⟩) L cap) (p := w.heap.size + 1 + 1) (fun e => by simp [Value.ownBlock] at e; omega)
    have x10 := row_ne x9 1 (.int .u64 nx) (p := w.heap.size + 1 + 1) (fun e => by simp [Value.ownBlock] at e; omega)
    have e1 : bcells (A ++ b :: C) = bcells A ++ .string b.nm :: .int .i64 (b.st : Int) :: .int .u64 (b.born : Int) :: .bool b.on :: .string b.pre :: .int .u64 (b.af : Int) :: .slice none 0 0 :: .slice none 0 0 :: bcells C := by rw [bcells_app]; rfl
    have e2 : bcells (A ++ b' :: C) = bcells A ++ .string b'.nm :: .int .i64 (b'.st : Int) :: .int .u64 (b'.born : Int) :: .bool b'.on :: .string b'.pre :: .int .u64 (b'.af : Int) :: .slice none 0 0 :: .slice none 0 0 :: bcells C := by rw [bcells_app]; rfl
    have hl2 : (A ++ b' :: C).length = L := by rw [← hL]; simp
    rw [e1, set8 (bcells A) (bcells C) _ _ _ _ _ _ _ _ _ _ _ _ _ _ _ _ _ (bcells_len A), ← e2] at x10
    unfold RB
    rw [hl2]
    exact Joins.ownsRow_le x10 (Nat.zero_le _)
  · have h5 : Below w.heap.size w W5 := h4.1.grown hg h4.2.1 (fun k e => by simp [Value.ownBlock] at e; omega)
    exact ((((((((((h5.setCell (Nat.le_refl _) _).setCell hgb _).setCell hgb _).setCell hgb _).setCell hgb _).setCell hgb _).setCell hgb _).setCell hgb _).setCell hgb _).setCell (show w.heap.size ≤ w.heap.size + 1 + 1 by omega) _).setCell (show w.heap.size ≤ w.heap.size + 1 + 1 by omega) _
theorem With14_c (v : Value) (nx : Int) (A C : List Bk) (b b' : Bk) (w : World) (h : RB w v (A ++ b :: C)) (hl : (A ++ b :: C).length ≤ 100) :
    Calls Tryz.prog 61 #[.agg #[v, .int .u64 nx], .int .i64 (A.length : Int), .agg (bcell b').toArray] w fun e w' => ∃ v', e = .returned (.agg #[v', .int .u64 nx]) ∧ Hid (RB w' v' (A ++ b' :: C) ∧ Below w.heap.size w w' ∧ ∀ k, v'.ownBlock = some k → w.heap.size ≤ k) := by
  obtain ⟨va, vc, rfl⟩ := h.lit
  obtain ⟨jB, hjB, hB0, hB1, hB2⟩ := info_parts infoBk
  obtain ⟨L, hL⟩ : ∃ L, (A ++ b :: C).length = L := ⟨_, rfl⟩
  have HA := Lib.hid (show A.length < L by rw [← hL, List.length_append, List.length_cons]; omega)
  rw [hL] at h hl ⊢
  unfold bcell
  show Calls Tryz.prog _ #[.agg #[.slice va L vc, .int .u64 nx], .int .i64 (A.length : Int), .agg #[.string b'.nm, .int .i64 (b'.st : Int), .int .u64 (b'.born : Int), .bool b'.on, .string b'.pre, .int .u64 (b'.af : Int), .slice none 0 0, .slice none 0 0]] w _
  obtain ⟨W4, hW4⟩ : ∃ W4, (((w.alloc (.cells #[.slice va L vc, .int .u64 nx] 35)).alloc (.cells #[.string b'.nm, .int .i64 (b'.st : Int), .int .u64 (b'.born : Int), .bool b'.on, .string b'.pre, .int .u64 (b'.af : Int), .slice none 0 0, .slice none 0 0] 53)).alloc (.cells #[.slice none 0 0, .int .u64 0] 35)).alloc (.cells #[] 53) = W4 := ⟨_, rfl⟩
  have hb4 : Below w.heap.size w W4 := by
    rw [← hW4]
    exact ((((Below.refl w.heap.size w).alloc (Nat.le_refl _) _).alloc (by simp) _).alloc (by simp; omega) _).alloc (by simp; omega) _
  have hs4 : W4.heap.size = w.heap.size + 4 := by rw [← hW4]; simp
  have g0 : W4.heap[w.heap.size]? = some (.cells #[.slice va L vc, .int .u64 nx] 35 (0, 0)) := by
    rw [← hW4, heap_alloc_at, if_neg (by simp <;> omega), heap_alloc_at, if_neg (by simp <;> omega), heap_alloc_at, if_neg (by simp <;> omega), heap_alloc_new]
  have g1 : W4.heap[w.heap.size + 1]? = some (.cells #[.string b'.nm, .int .i64 (b'.st : Int), .int .u64 (b'.born : Int), .bool b'.on, .string b'.pre, .int .u64 (b'.af : Int), .slice none 0 0, .slice none 0 0] 53 (0, 0)) := by
    rw [← hW4, heap_alloc_at, if_neg (by simp <;> omega), heap_alloc_at, if_neg (by simp <;> omega), heap_alloc_at, if_pos (by simp)]
  have g2 : W4.heap[w.heap.size + 2]? = some (.cells #[.slice none 0 0, .int .u64 0] 35 (0, 0)) := by
    rw [← hW4, heap_alloc_at, if_neg (by simp), heap_alloc_at, if_pos (by simp)]
  have HR4 : Hid (W4.ownsRow w.heap.size 53 8 (.slice (some ⟨w.heap.size + 1 + 1 + 1, 0, none⟩) 0 0) 0 []) := Lib.hid (by
    have := row_nil (w := (((w.alloc (.cells #[.slice va L vc, .int .u64 nx] 35)).alloc (.cells #[.string b'.nm, .int .i64 (b'.st : Int), .int .u64 (b'.born : Int), .bool b'.on, .string b'.pre, .int .u64 (b'.af : Int), .slice none 0 0, .slice none 0 0] 53)).alloc (.cells #[.slice none 0 0, .int .u64 0] 35))) (base := w.heap.size) 53 8 (by simp <;> omega)
    rw [hW4] at this
    simpa using this)
  have HY : Hid (Yields W4 (.slice va L vc) L (bcells (A ++ b :: C))) := Lib.hid (by
    have := yields_row (h.below hb4)
    rwa [hL] at this)
  have HLIM : Hid (0 + L ≤ maxLen ∧ (0 + L) * 112 ≤ 140737488355328) := Lib.hid (by unfold maxLen; omega)
  have H4 := Lib.hid (show Below w.heap.size w W4 ∧ w.heap.size ≤ W4.heap.size ∧ W4.heap.size = w.heap.size + 4 from ⟨hb4, hb4.size, hs4⟩)
  have G4 := Lib.hid (And.intro g0 (And.intro g1 g2))
  have HLL := Lib.hid hL
  have HNL : Hid ((bcells (A ++ b :: C)).length = L * 8) := Lib.hid (by rw [bcells_len, hL])
  have HON := Lib.hid (one_bcells (A ++ b :: C))
  clear h hl hL hb4 hs4 g0 g1 g2
  go_enter Tryz.func61, Tryz.ntmps61
  have c0 : W4.cell? ⟨w.heap.size, 0, none⟩ = some (.slice va L vc) := cell_lit G4.out.1 rfl
  go_wp2_with (
    (refine chkA 32 32 ⟨_, _, by with_reducible rfl⟩ ?_
     try rw [hW4]
     refine wpList_append_y (by rfl) _ _ _ rfl w.heap.size 53 jB _ 8 112 Tryz.underlying32 hjB hB0 hB1 hB2 rfl (by decide) _ _ _ (by rfl) HR4.out _ L _ (by rfl) HY.out HNL.out HON.out HLIM.out.1 HLIM.out.2 H4.out.2.1 ?_
     intro v5 W5 ho5 hg5 ha5
     have PO := Lib.hid (with_put (b' := b') HA.out HLL.out ho5 hg5 ha5 H4.out G4.out)
     obtain ⟨g, cap, rfl, p1, p2, p3, ⟨p40, p4, p5⟩, ⟨e0, e1, e2, e3, e4, e5, e6, e7⟩, fg, ⟨y0, y1, y2, y3, y4, y5, y6, y7⟩, ⟨r0, r2⟩, r1, HEND⟩ := PO.out.1
     clear ho5 hg5 ha5))
  refine bodyPost_ret (v := .agg #[.slice (some ⟨g, 0, none⟩) L cap, .int .u64 nx]) ?_ rfl ⟨_, rfl, Lib.hid ⟨HEND.out.1, HEND.out.2.1, fun k e => by
    have e' : some g = some k := e
    cases e'; exact HEND.out.2.2⟩⟩
  have n3 : ¬ w.heap.size + 1 + 1 = g := fun e => p3 e.symm
  simp [results, Tryz.results61, go_sem, r0, r1, r2, p3, n3]
end Go.Proofs.YtaibjcjphmhgmaaGreatDoor
namespace Go.Proofs.YtaibjcjphmhgmaaGreatDoor
set_option linter.unusedVariables false
set_option maxRecDepth 100000
set_option maxHeartbeats 2000000
open Go.RowKit
/-- What the reference makes of a list when a bucket is put. -/
def RefPut (b : Bk) (B B' : List Bk) : Prop :=
  (∃ A b0 C, B = A ++ b0 :: C ∧ (∀ a ∈ A, a.nm ≠ b.nm) ∧ b0.nm = b.nm ∧ B' = A ++ b :: C) ∨
  (∃ A C, B = A ++ C ∧ (∀ a ∈ B, a.nm ≠ b.nm) ∧ (∀ a ∈ A, kless b.nm a.nm = false) ∧ (∀ c, C.head? = some c → kless b.nm c.nm = true) ∧ B' = A ++ b :: C)
def RefO : Option Bk → List Bk → List Bk → Prop
  | none, B, B' => B' = B
  | some b, B, B' => RefPut b B B'
theorem app_len_eq {α : Type} {A A' C C' : List α} (h : A ++ C = A' ++ C') (hl : A.length = A'.length) : A = A' ∧ C = C' := List.append_inj h hl
theorem kless_as {a b : ByteArray} (h : kless a b = true) : kless b a = false := by
  cases hk : kless b a with
  | false => rfl
  | true => exact absurd (kless_trans h hk) (by rw [kless_irrefl]; decide)
theorem RefPut.eq {b : Bk} {B B1 B2 : List Bk} (h : PutB b B B1) (g : RefPut b B B2) : B2 = B1 := by
  obtain ⟨A', C', rfl, h', hA, hC⟩ := h
  rcases g with ⟨A, b0, C, e, g1, g2, rfl⟩ | ⟨A, C, e, g1, g2, g3, rfl⟩
  · rcases h' with rfl | ⟨b1, hb1, rfl⟩
    · have : b0 ∈ A' ++ C' := by rw [e]; simp
      rcases List.mem_append.1 this with hm | hm
      · exact absurd g2 (kless_ne (hA _ hm))
      · exact absurd g2.symm (kless_ne (hC _ hm))
    · have hl : A.length = A'.length := by
        rcases Nat.lt_trichotomy A.length A'.length with hlt | he | hlt
        · exfalso
          have h1 : (A' ++ b1 :: C')[A.length]? = some b0 := by rw [e]; simp
          rw [List.getElem?_append_left hlt] at h1
          exact absurd g2 (kless_ne (hA b0 (List.mem_of_getElem? h1)))
        · exact he
        · exfalso
          have h1 : (A ++ b0 :: C)[A'.length]? = some b1 := by rw [← e]; simp
          rw [List.getElem?_append_left hlt] at h1
          exact g1 b1 (List.mem_of_getElem? h1) hb1
      obtain ⟨rfl, e2⟩ := app_len_eq e hl.symm
      rw [(List.cons.inj e2).2]
  · rcases h' with rfl | ⟨b1, hb1, rfl⟩
    · have hl : A.length = A'.length := by
        rcases Nat.lt_trichotomy A.length A'.length with hlt | he | hlt
        · exfalso
          cases C with
          | nil => have := congrArg List.length e; simp at this; omega
          | cons c C =>
            have h1 : (A' ++ C')[A.length]? = some c := by rw [e]; simp
            rw [List.getElem?_append_left hlt] at h1
            have := kless_as (g3 c rfl)
            rw [hA c (List.mem_of_getElem? h1)] at this; cases this
        · exact he
        · exfalso
          cases C' with
          | nil => have := congrArg List.length e; simp at this; omega
          | cons c C' =>
            have h1 : (A ++ C)[A'.length]? = some c := by rw [← e]; simp
            rw [List.getElem?_append_left hlt] at h1
            have := g2 c (List.mem_of_getElem? h1)
            rw [hC c (by simp)] at this; cases this
      obtain ⟨rfl, rfl⟩ := app_len_eq e hl.symm
      rfl
    · exact absurd hb1 (g1 b1 (by simp))
theorem RefO.eq {o : Option Bk} {B B1 B2 : List Bk} (h : PutO o B B1) (g : RefO o B B2) : B2 = B1 := by
  cases o with
  | none => exact g.trans h.symm
  | some b => exact RefPut.eq h g
/-- What a reference's call leaves. -/
def RfEnd (w w' : World) (v v' : Value) (B' : List Bk) : Prop := RB w' v' B' ∧ Below w.heap.size w w' ∧ (v' = v ∨ ∀ k, v'.ownBlock = some k → w.heap.size ≤ k)
/-- The two variables of a reference's call. -/
theorem ref_two (w : World) (v : Value) (nx : Int) : ∃ W, (w.alloc (.cells #[v, .int .u64 nx] 35)).alloc (.cells #[.slice none 0 0, .int .u64 0] 35) = W ∧ Below w.heap.size w W ∧ W.heap.size = w.heap.size + 2 ∧ W.heap[w.heap.size]? = some (.cells #[v, .int .u64 nx] 35 (0, 0)) ∧ W.heap[w.heap.size + 1]? = some (.cells #[.slice none 0 0, .int .u64 0] 35 (0, 0)) := by
  refine ⟨_, rfl, ((Below.refl w.heap.size w).alloc (Nat.le_refl _) _).alloc (by simp) _, by simp, ?_, ?_⟩
  · rw [heap_alloc_at, if_neg (by simp), heap_alloc_new]
  · rw [heap_alloc_at, if_pos (by simp)]
theorem rf_fin {w w2 : World} {v v' : Value} {B' : List Bk} (hb : Below w.heap.size w w2) (h : RB w2 v' B') (hne : v'.ownBlock ≠ some (w.heap.size + 1)) (hv : v' = v ∨ ∀ k, v'.ownBlock = some k → w.heap.size ≤ k) (x0 x1 : Value) : RfEnd w ((w2.setCell ⟨w.heap.size + 1, 0, none⟩ x0).setCell ⟨w.heap.size + 1, 1, none⟩ x1) v v' B' :=
  ⟨row_ne (row_ne h 0 x0 hne) 1 x1 hne, (hb.setCell (show w.heap.size ≤ w.heap.size + 1 by omega) _).setCell (show w.heap.size ≤ w.heap.size + 1 by omega) _, hv⟩
theorem RB.ne {w : World} {v : Value} {B : List Bk} (h : RB w v B) {k : Nat} (hk : w.heap.size ≤ k) : v.ownBlock ≠ some k := fun e => by
  have := (h.lt k e).2; omega
theorem RB.at8 {w : World} {va : Option Addr} {n vc : Nat} {A C : List Bk} {b : Bk} (h : RB w (.slice va n vc) (A ++ b :: C)) : ∃ g, va = some ⟨g, 0, none⟩ ∧ g < w.heap.size ∧ w.cell? ⟨g, A.length * 8, none⟩ = some (.string b.nm) ∧ w.cell? ⟨g, A.length * 8 + 1, none⟩ = some (.int .i64 (b.st : Int)) ∧ w.cell? ⟨g, A.length * 8 + 2, none⟩ = some (.int .u64 (b.born : Int)) ∧ w.cell? ⟨g, A.length * 8 + 3, none⟩ = some (.bool b.on) ∧ w.cell? ⟨g, A.length * 8 + 4, none⟩ = some (.string b.pre) ∧ w.cell? ⟨g, A.length * 8 + 5, none⟩ = some (.int .u64 (b.af : Int)) ∧ w.cell? ⟨g, A.length * 8 + 6, none⟩ = some (.slice none 0 0) ∧ w.cell? ⟨g, A.length * 8 + 7, none⟩ = some (.slice none 0 0) := by
  obtain ⟨g, hg, hlt, hcc⟩ := h.at A.length (by simp)
  have hb : (A ++ b :: C)[A.length]'(by simp) = b := by simp
  rw [hb] at hcc
  exact ⟨g, hg, hlt, hcc 0 (by decide), hcc 1 (by decide), hcc 2 (by decide), hcc 3 (by decide), hcc 4 (by decide), hcc 5 (by decide), hcc 6 (by decide), hcc 7 (by decide)⟩
theorem rb_eq {w : World} {v : Value} {B B2 : List Bk} (e : B = B2) (h : RB w v B) : RB w v B2 := e ▸ h
theorem at8_of {w : World} {va : Option Addr} {n vc : Nat} {A C B : List Bk} {b : Bk} (h : RB w (.slice va n vc) B) (e : B = A ++ b :: C) : ∃ g, va = some ⟨g, 0, none⟩ ∧ g < w.heap.size ∧ w.cell? ⟨g, A.length * 8, none⟩ = some (.string b.nm) ∧ w.cell? ⟨g, A.length * 8 + 1, none⟩ = some (.int .i64 (b.st : Int)) ∧ w.cell? ⟨g, A.length * 8 + 2, none⟩ = some (.int .u64 (b.born : Int)) ∧ w.cell? ⟨g, A.length * 8 + 3, none⟩ = some (.bool b.on) ∧ w.cell? ⟨g, A.length * 8 + 4, none⟩ = some (.string b.pre) ∧ w.cell? ⟨g, A.length * 8 + 5, none⟩ = some (.int .u64 (b.af : Int)) ∧ w.cell? ⟨g, A.length * 8 + 6, none⟩ = some (.slice none 0 0) ∧ w.cell? ⟨g, A.length * 8 + 7, none⟩ = some (.slice none 0 0) := by
  subst e; exact h.at8
theorem SetState14_c (v : Value) (nx : Int) (B : List Bk) (s : ByteArray) (st : Int) (w : World) (h : RB w v B) (hl : B.length ≤ 100) (hs : s.size ≤ 1000) :
    Calls Tryz.prog 19 #[.agg #[v, .int .u64 nx], .string s, .int .i64 st] w fun e w' => ∃ v', e = .returned (.tuple #[.agg #[v', .int .u64 nx], .int .i64 ((stR B s st).1 : Int)]) ∧ Hid (∃ B', RfEnd w w' v v' B' ∧ RefO (stR B s st).2 B B') := by
  obtain ⟨va, vc, rfl⟩ := h.lit
  obtain ⟨W, hW, hbW, hsW, g0, g1⟩ := ref_two w (.slice va B.length vc) nx
  have ER := Error14_c _ nx B s W (h.below hbW) hl hs
  have HW := Lib.hid (And.intro hbW (And.intro hsW (And.intro g0 g1)))
  have HR := Lib.hid (h.below hbW)
  have HR0 := Lib.hid h
  have HL := Lib.hid hl
  have c0 : W.cell? ⟨w.heap.size, 0, none⟩ = some (.slice va B.length vc) := cell_lit g0 rfl
  have c1 : W.cell? ⟨w.heap.size, 1, none⟩ = some (.int .u64 nx) := cell_lit g0 rfl
  have fin : Hid (∀ w', Below W.heap.size W w' → w'.cell? ⟨w.heap.size, 0, none⟩ = some (.slice va B.length vc) ∧ w'.cell? ⟨w.heap.size, 1, none⟩ = some (.int .u64 nx) ∧ w'.cell? ⟨w.heap.size + 1, 0, none⟩ = some (.slice none 0 0) ∧ w'.cell? ⟨w.heap.size + 1, 1, none⟩ = some (.int .u64 0) ∧ ∀ j, w'.frozen? ⟨w.heap.size + 1, j, none⟩ = false) := Lib.hid fun w' hb => by
    have x := (hb.block w.heap.size (by omega)).trans g0
    have y := (hb.block (w.heap.size + 1) (by omega)).trans g1
    exact ⟨cell_lit x rfl, cell_lit x rfl, cell_lit y rfl, cell_lit y rfl, fun j => frozen_lit y j⟩
  by_cases hE : errB B s = 0
  · obtain ⟨A, b0, C, hB, hA, hnm, hf, hi⟩ : ∃ A b C, B = A ++ b :: C ∧ (∀ a ∈ A, a.nm ≠ s) ∧ b.nm = s ∧ bAt B s = some b ∧ atI B s = (A.length : Int) := by
      rcases atI_bAt B s with ⟨x, -⟩ | x
      · exfalso
        unfold errB at hE
        rw [x] at hE
        split at hE <;> cases hE
      · exact x
    have HI := Lib.hid hi
    rw [hE] at ER
    rw [show ((0 : Nat) : Int) = 0 from rfl] at ER
    clear hbW hsW g0 g1 hi
    have HBQ := Lib.hid hB
    clear hB
    by_cases e1 : st = 1
    · subst e1
      have hR : stR B s 1 = (0, some { b0 with st := 1 }) := by unfold stR; rw [hE, if_neg (by decide), hf]; rfl
      rw [hR]
      have WT := Lib.hid (fun (W' : World) (h' : RB W' (.slice va B.length vc) B) => With14_c _ nx A C b0 { b0 with st := 1 } W' (rb_eq HBQ.out h') (by rw [← HBQ.out]; exact HL.out))
      obtain ⟨nm, st0, born, on, af, pre⟩ := b0
      have HF : Hid (∀ B', B' = A ++ ⟨nm, 1, born, on, af, pre⟩ :: C → RefO (some ⟨nm, 1, born, on, af, pre⟩) B B') := Lib.hid fun B' e => .inl ⟨A, _, C, HBQ.out, fun a ha => by rw [show (⟨nm, 1, born, on, af, pre⟩ : Bk).nm = s from hnm]; exact hA a ha, rfl, e⟩
      clear hR hE hf h hl hs hA hnm
      go_enter Tryz.func19, Tryz.ntmps19
      go_wp2_with fail
      refine ER.mono ?_
      rintro e w2 ⟨rfl, hb⟩
      obtain ⟨d0, d1, d2, d3, fz⟩ := fin.out w2 hb.out
      have AT := At14_c _ nx B s w2 (HR.out.below hb.out) HL.out
      rw [HI.out] at AT
      clear ER c0 c1
      go_wp2_with fail
      refine AT.mono ?_
      rintro e w3 ⟨rfl, hb3⟩
      have HB3 := Lib.hid (hb.out.trans (hb3.out.mono hb.out.size))
      clear d0 d1 d2 d3 fz AT
      obtain ⟨d0, d1, d2, d3, fz⟩ := fin.out w3 HB3.out
      have hr3 := HR.out.below HB3.out
      obtain ⟨g, hg, hlg, y0, y1, y2, y3, y4, y5, y6, y7⟩ := at8_of hr3 HBQ.out
      have HR3 := Lib.hid hr3
      subst hg
      have hlt : (A.length : Int) < (B.length : Int) := by rw [HBQ.out, List.length_append, List.length_cons]; omega
      have hl1 : w.heap.size < w3.heap.size := by have := HW.out; have := HB3.out.size; omega
      have hl2 : w.heap.size + 1 < w3.heap.size := by have := HW.out; have := HB3.out.size; omega
      clear hr3 hb hb3
      go_wp2_with fail
      refine (WT.out _ (HR3.out.below (below_alloc _ _))).mono ?_
      rintro e w4 ⟨v', rfl, hw⟩
      obtain ⟨va', vc', rfl⟩ := hw.out.1.lit
      have HB4 := Lib.hid (HB3.out.trans (((below_alloc w3 _).trans (hw.out.2.1.mono (by simp))).mono HB3.out.size))
      have HFR : Hid (∀ k, (Value.slice va' (A ++ (⟨nm, 1, born, on, af, pre⟩ : Bk) :: C).length vc').ownBlock = some k → W.heap.size ≤ k) := Lib.hid fun k e => by have := hw.out.2.2 k e; have := HB3.out.size; simp at *; omega
      clear d0 d1 d2 d3 fz y0 y1 y2 y3 y4 y5 y6 y7
      obtain ⟨d0, d1, d2, d3, fz⟩ := fin.out w4 HB4.out
      go_wp2_with fail
      refine bodyPost_ret (v := .tuple #[.agg #[.slice va' (A ++ (⟨nm, 1, born, on, af, pre⟩ : Bk) :: C).length vc', .int .u64 nx], .int .i64 0]) ?_ rfl ⟨_, rfl, ?_⟩
      · simp [results, Tryz.results19, go_sem, d0, d1, d2, d3, fz]
      · exact Lib.hid ⟨_, rf_fin (HW.out.1.trans (HB4.out.mono HW.out.1.size)) hw.out.1 (fun e => by have := HFR.out _ e; have := HW.out.2.1; omega) (.inr fun k e => Nat.le_trans HW.out.1.size (HFR.out k e)) _ _, HF.out _ rfl⟩
    · by_cases e2 : st = 2
      · subst e2
        have hR : stR B s 2 = (0, some { b0 with st := 2 }) := by unfold stR; rw [hE, if_neg (by decide), hf]; rfl
        rw [hR]
        have WT := Lib.hid (fun (W' : World) (h' : RB W' (.slice va B.length vc) B) => With14_c _ nx A C b0 { b0 with st := 2 } W' (rb_eq HBQ.out h') (by rw [← HBQ.out]; exact HL.out))
        obtain ⟨nm, st0, born, on, af, pre⟩ := b0
        have HF : Hid (∀ B', B' = A ++ ⟨nm, 2, born, on, af, pre⟩ :: C → RefO (some ⟨nm, 2, born, on, af, pre⟩) B B') := Lib.hid fun B' e => .inl ⟨A, _, C, HBQ.out, fun a ha => by rw [show (⟨nm, 2, born, on, af, pre⟩ : Bk).nm = s from hnm]; exact hA a ha, rfl, e⟩
        clear hR hE hf h hl hs hA hnm
        go_enter Tryz.func19, Tryz.ntmps19
        go_wp2_with fail
        refine ER.mono ?_
        rintro e w2 ⟨rfl, hb⟩
        obtain ⟨d0, d1, d2, d3, fz⟩ := fin.out w2 hb.out
        have AT := At14_c _ nx B s w2 (HR.out.below hb.out) HL.out
        rw [HI.out] at AT
        clear ER c0 c1
        go_wp2_with fail
        refine AT.mono ?_
        rintro e w3 ⟨rfl, hb3⟩
        have HB3 := Lib.hid (hb.out.trans (hb3.out.mono hb.out.size))
        clear d0 d1 d2 d3 fz AT
        obtain ⟨d0, d1, d2, d3, fz⟩ := fin.out w3 HB3.out
        have hr3 := HR.out.below HB3.out
        obtain ⟨g, hg, hlg, y0, y1, y2, y3, y4, y5, y6, y7⟩ := at8_of hr3 HBQ.out
        have HR3 := Lib.hid hr3
        subst hg
        have hlt : (A.length : Int) < (B.length : Int) := by rw [HBQ.out, List.length_append, List.length_cons]; omega
        have hl1 : w.heap.size < w3.heap.size := by have := HW.out; have := HB3.out.size; omega
        have hl2 : w.heap.size + 1 < w3.heap.size := by have := HW.out; have := HB3.out.size; omega
        clear hr3 hb hb3
        go_wp2_with fail
        refine (WT.out _ (HR3.out.below (below_alloc _ _))).mono ?_
        rintro e w4 ⟨v', rfl, hw⟩
        obtain ⟨va', vc', rfl⟩ := hw.out.1.lit
        have HB4 := Lib.hid (HB3.out.trans (((below_alloc w3 _).trans (hw.out.2.1.mono (by simp))).mono HB3.out.size))
        have HFR : Hid (∀ k, (Value.slice va' (A ++ (⟨nm, 2, born, on, af, pre⟩ : Bk) :: C).length vc').ownBlock = some k → W.heap.size ≤ k) := Lib.hid fun k e => by have := hw.out.2.2 k e; have := HB3.out.size; simp at *; omega
        clear d0 d1 d2 d3 fz y0 y1 y2 y3 y4 y5 y6 y7
        obtain ⟨d0, d1, d2, d3, fz⟩ := fin.out w4 HB4.out
        go_wp2_with fail
        refine bodyPost_ret (v := .tuple #[.agg #[.slice va' (A ++ (⟨nm, 2, born, on, af, pre⟩ : Bk) :: C).length vc', .int .u64 nx], .int .i64 0]) ?_ rfl ⟨_, rfl, ?_⟩
        · simp [results, Tryz.results19, go_sem, d0, d1, d2, d3, fz]
        · exact Lib.hid ⟨_, rf_fin (HW.out.1.trans (HB4.out.mono HW.out.1.size)) hw.out.1 (fun e => by have := HFR.out _ e; have := HW.out.2.1; omega) (.inr fun k e => Nat.le_trans HW.out.1.size (HFR.out k e)) _ _, HF.out _ rfl⟩
      · have hR : stR B s st = (30, none) := by unfold stR; rw [hE, if_neg (by decide), hf]; exact if_neg (by omega)
        rw [hR]
        have p1 : (st != 1) = true := by simpa using e1
        have p2 : (st != 2) = true := by simpa using e2
        clear hR hE hf h hl hs hA hnm e1 e2
        simp only
        go_enter Tryz.func19, Tryz.ntmps19
        go_wp2_with fail
        refine ER.mono ?_
        rintro e w2 ⟨rfl, hb⟩
        obtain ⟨d0, d1, d2, d3, fz⟩ := fin.out w2 hb.out
        clear ER c0 c1
        go_wp2_with fail
        refine bodyPost_ret (v := .tuple #[.agg #[.slice va B.length vc, .int .u64 nx], .int .i64 30]) ?_ rfl ⟨_, rfl, ?_⟩
        · simp [results, Tryz.results19, go_sem, d0, d1, d2, d3, fz]
        · exact Lib.hid ⟨B, rf_fin (HW.out.1.trans (hb.out.mono HW.out.1.size)) (HR.out.below hb.out) (HR0.out.ne (by omega)) (.inl rfl) _ _, rfl⟩
  · have hR : stR B s st = (errB B s, none) := by unfold stR; rw [if_pos hE]
    rw [hR]
    have hE1 : ((errB B s : Int) != 0) = true := by simp; omega
    simp only
    generalize (errB B s : Int) = E at *
    clear h hbW hsW g0 g1 hR hE
    go_enter Tryz.func19, Tryz.ntmps19
    go_wp2_with fail
    refine ER.mono ?_
    rintro e w2 ⟨rfl, hb⟩
    obtain ⟨d0, d1, d2, d3, fz⟩ := fin.out w2 hb.out
    clear ER c0 c1
    go_wp2_with fail
    refine bodyPost_ret (v := .tuple #[.agg #[.slice va B.length vc, .int .u64 nx], .int .i64 E]) ?_ rfl ⟨_, rfl, ?_⟩
    · simp [results, Tryz.results19, go_sem, d0, d1, d2, d3, fz]
    · exact Lib.hid ⟨B, rf_fin (HW.out.1.trans (hb.out.mono HW.out.1.size)) (HR.out.below hb.out) (HR0.out.ne (by omega)) (.inl rfl) _ _, rfl⟩
end Go.Proofs.YtaibjcjphmhgmaaGreatDoor
namespace Go.Proofs.YtaibjcjphmhgmaaGreatDoor
set_option linter.unusedVariables false
set_option maxRecDepth 100000
set_option maxHeartbeats 2000000
open Go.RowKit
/-- The three variables of a reference's call. -/
theorem ref_three (w : World) (v : Value) (nx : Int) (o : Array Value) (t : TypeId) : ∃ W, ((w.alloc (.cells #[v, .int .u64 nx] 35)).alloc (.cells o t)).alloc (.cells #[.slice none 0 0, .int .u64 0] 35) = W ∧ Below w.heap.size w W ∧ W.heap.size = w.heap.size + 3 ∧ W.heap[w.heap.size]? = some (.cells #[v, .int .u64 nx] 35 (0, 0)) ∧ W.heap[w.heap.size + 1]? = some (.cells o t (0, 0)) ∧ W.heap[w.heap.size + 2]? = some (.cells #[.slice none 0 0, .int .u64 0] 35 (0, 0)) := by
  refine ⟨_, rfl, (((Below.refl w.heap.size w).alloc (Nat.le_refl _) _).alloc (by simp) _).alloc (by simp; omega) _, by simp, ?_, ?_, ?_⟩
  · rw [heap_alloc_at, if_neg (by simp <;> omega), heap_alloc_at, if_neg (by simp <;> omega), heap_alloc_new]
  · rw [heap_alloc_at, if_neg (by simp <;> omega), heap_alloc_at, if_pos (by simp)]
  · rw [heap_alloc_at, if_pos (by simp)]
theorem rf_fink {w w2 : World} {v v' : Value} {B' : List Bk} (k : Nat) (hk : w.heap.size ≤ k) (hb : Below w.heap.size w w2) (h : RB w2 v' B') (hne : v'.ownBlock ≠ some k) (hv : v' = v ∨ ∀ k, v'.ownBlock = some k → w.heap.size ≤ k) (x0 x1 : Value) : RfEnd w ((w2.setCell ⟨k, 0, none⟩ x0).setCell ⟨k, 1, none⟩ x1) v v' B' :=
  ⟨row_ne (row_ne h 0 x0 hne) 1 x1 hne, (hb.setCell hk _).setCell hk _, hv⟩
theorem toList_ne {s : ByteArray} (h : s ≠ ⟨#[]⟩) : (s.toList == []) = false := by
  have : ¬ s.toList = [] := fun e => h (empty_of_size ((toList_nil s).1 e))
  cases hs : s.toList with
  | nil => exact absurd hs this
  | cons a l => rfl
theorem SetRule14_c (v : Value) (nx : Int) (B : List Bk) (s : ByteArray) (on : Bool) (pre : ByteArray) (af : Nat) (w : World) (h : RB w v B) (hl : B.length ≤ 100) (hs : s.size ≤ 1000) :
    Calls Tryz.prog 21 #[.agg #[v, .int .u64 nx], .string s, .agg #[.bool on, .string pre, .int .u64 (af : Int)]] w fun e w' => ∃ v', e = .returned (.tuple #[.agg #[v', .int .u64 nx], .int .i64 ((srR B s on pre af).1 : Int)]) ∧ Hid (∃ B', RfEnd w w' v v' B' ∧ RefO (srR B s on pre af).2 B B') := by
  obtain ⟨va, vc, rfl⟩ := h.lit
  obtain ⟨W, hW, hbW, hsW, g0, g1, g2⟩ := ref_three w (.slice va B.length vc) nx #[.bool on, .string pre, .int .u64 (af : Int)] 38
  have ER := Error14_c _ nx B s W (h.below hbW) hl hs
  have HW := Lib.hid (And.intro hbW (And.intro hsW (And.intro g0 g1)))
  have HR := Lib.hid (h.below hbW)
  have HR0 := Lib.hid h
  have HL := Lib.hid hl
  have c0 : W.cell? ⟨w.heap.size, 0, none⟩ = some (.slice va B.length vc) := cell_lit g0 rfl
  have c1 : W.cell? ⟨w.heap.size, 1, none⟩ = some (.int .u64 nx) := cell_lit g0 rfl
  have fin : Hid (∀ w', Below W.heap.size W w' → (w'.cell? ⟨w.heap.size, 0, none⟩ = some (.slice va B.length vc) ∧ w'.cell? ⟨w.heap.size, 1, none⟩ = some (.int .u64 nx) ∧ w'.cell? ⟨w.heap.size + 1, 0, none⟩ = some (.bool on) ∧ w'.cell? ⟨w.heap.size + 1, 1, none⟩ = some (.string pre) ∧ w'.cell? ⟨w.heap.size + 1, 2, none⟩ = some (.int .u64 (af : Int))) ∧ w'.cell? ⟨w.heap.size + 1 + 1, 0, none⟩ = some (.slice none 0 0) ∧ w'.cell? ⟨w.heap.size + 1 + 1, 1, none⟩ = some (.int .u64 0) ∧ ∀ j, w'.frozen? ⟨w.heap.size + 1 + 1, j, none⟩ = false) := Lib.hid fun w' hb => by
    have x := (hb.block w.heap.size (by omega)).trans g0
    have y := (hb.block (w.heap.size + 1) (by omega)).trans g1
    have z := (hb.block (w.heap.size + 1 + 1) (by omega)).trans g2
    exact ⟨⟨cell_lit x rfl, cell_lit x rfl, cell_lit y rfl, cell_lit y rfl, cell_lit y rfl⟩, cell_lit z rfl, cell_lit z rfl, fun j => frozen_lit z j⟩
  by_cases hE : errB B s = 0
  · obtain ⟨A, b0, C, hB, hA, hnm, hf, hi⟩ : ∃ A b C, B = A ++ b :: C ∧ (∀ a ∈ A, a.nm ≠ s) ∧ b.nm = s ∧ bAt B s = some b ∧ atI B s = (A.length : Int) := by
      rcases atI_bAt B s with ⟨x, -⟩ | x
      · exfalso
        unfold errB at hE
        rw [x] at hE
        split at hE <;> cases hE
      · exact x
    have HI := Lib.hid hi
    rw [hE] at ER
    rw [show ((0 : Nat) : Int) = 0 from rfl] at ER
    have HBQ := Lib.hid hB
    clear hbW hsW g0 g1 g2 hi hB
    have hR : srR B s on pre af = if rightB on pre af = true then (0, some { b0 with on := on, pre := pre, af := af }) else (30, none) := by unfold srR; rw [hE, if_neg (by decide), hf]
    rw [hR]
    clear hR hE hf h hl hs
    obtain ⟨nm, st0, born, on0, af0, pre0⟩ := b0
    by_cases h20 : pre.size ≤ 20
    · cases on with
      | true =>
        have hr : rightB true pre af = true := by simp [rightB, h20]
        rw [if_pos hr]
        have WT := Lib.hid (fun (W' : World) (h' : RB W' (.slice va B.length vc) B) => With14_c _ nx A C ⟨nm, st0, born, on0, af0, pre0⟩ (⟨nm, st0, born, true, af, pre⟩ : Bk) W' (rb_eq HBQ.out h') (by rw [← HBQ.out]; exact HL.out))
        have HF : Hid (∀ B', B' = A ++ (⟨nm, st0, born, true, af, pre⟩ : Bk) :: C → RefO (some (⟨nm, st0, born, true, af, pre⟩ : Bk)) B B') := Lib.hid fun B' e => .inl ⟨A, _, C, HBQ.out, fun a ha => by rw [show (⟨nm, st0, born, true, af, pre⟩ : Bk).nm = s from hnm]; exact hA a ha, rfl, e⟩
        clear hr hA hnm
        simp only
        go_enter Tryz.func21, Tryz.ntmps21
        go_wp2_with fail
        refine ER.mono ?_
        rintro e w2 ⟨rfl, hb⟩
        obtain ⟨⟨d0, d1, d2, d3, d4⟩, d5, d6, fz⟩ := fin.out w2 hb.out
        have AT := At14_c _ nx B s w2 (HR.out.below hb.out) HL.out
        rw [HI.out] at AT
        clear ER c0 c1
        go_wp2_with fail
        refine AT.mono ?_
        rintro e w3 ⟨rfl, hb3⟩
        have HB3 := Lib.hid (hb.out.trans (hb3.out.mono hb.out.size))
        clear d0 d1 d2 d3 d4 d5 d6 fz AT
        obtain ⟨⟨d0, d1, d2, d3, d4⟩, d5, d6, fz⟩ := fin.out w3 HB3.out
        have hr3 := HR.out.below HB3.out
        obtain ⟨g, hg, hlg, y0, y1, y2, y3, y4, y5, y6, y7⟩ := at8_of hr3 HBQ.out
        have HR3 := Lib.hid hr3
        subst hg
        have hlt : (A.length : Int) < (B.length : Int) := by rw [HBQ.out, List.length_append, List.length_cons]; omega
        have hl1 : w.heap.size < w3.heap.size := by have := HW.out; have := HB3.out.size; omega
        have hl2 : w.heap.size + 1 < w3.heap.size := by have := HW.out; have := HB3.out.size; omega
        have hl3 : w.heap.size + 1 + 1 < w3.heap.size := by have := HW.out; have := HB3.out.size; omega
        clear hr3 hb hb3
        go_wp2_with fail
        refine (WT.out _ (HR3.out.below (below_alloc _ _))).mono ?_
        rintro e w4 ⟨v', rfl, hw⟩
        obtain ⟨va', vc', rfl⟩ := hw.out.1.lit
        have HB4 := Lib.hid (HB3.out.trans (((below_alloc w3 _).trans (hw.out.2.1.mono (by simp))).mono HB3.out.size))
        have HFR : Hid (∀ k, (Value.slice va' (A ++ (⟨nm, st0, born, true, af, pre⟩ : Bk) :: C).length vc').ownBlock = some k → W.heap.size ≤ k) := Lib.hid fun k e => by have := hw.out.2.2 k e; have := HB3.out.size; simp at *; omega
        clear d0 d1 d2 d3 d4 d5 d6 fz y0 y1 y2 y3 y4 y5 y6 y7
        obtain ⟨⟨d0, d1, d2, d3, d4⟩, d5, d6, fz⟩ := fin.out w4 HB4.out
        go_wp2_with fail
        refine bodyPost_ret (v := .tuple #[.agg #[.slice va' (A ++ (⟨nm, st0, born, true, af, pre⟩ : Bk) :: C).length vc', .int .u64 nx], .int .i64 0]) ?_ rfl ⟨_, rfl, ?_⟩
        · simp [results, Tryz.results21, go_sem, d0, d1, d5, d6, fz]
        · exact Lib.hid ⟨_, rf_fink (w.heap.size + 1 + 1) (by omega) (HW.out.1.trans (HB4.out.mono HW.out.1.size)) hw.out.1 (fun e => by have := HFR.out _ e; have := HW.out.2.1; omega) (.inr fun k e => Nat.le_trans HW.out.1.size (HFR.out k e)) _ _, HF.out _ rfl⟩
      | false =>
        by_cases hp : pre = ⟨#[]⟩
        · subst hp
          by_cases ha : af = 0
          · have hr : rightB false ⟨#[]⟩ af = true := by subst ha; rfl
            have p3 : ((af : Int) != 0) = false := by subst ha; rfl
            rw [if_pos hr]
            clear ha
            have WT := Lib.hid (fun (W' : World) (h' : RB W' (.slice va B.length vc) B) => With14_c _ nx A C ⟨nm, st0, born, on0, af0, pre0⟩ (⟨nm, st0, born, false, af, ⟨#[]⟩⟩ : Bk) W' (rb_eq HBQ.out h') (by rw [← HBQ.out]; exact HL.out))
            have HF : Hid (∀ B', B' = A ++ (⟨nm, st0, born, false, af, ⟨#[]⟩⟩ : Bk) :: C → RefO (some (⟨nm, st0, born, false, af, ⟨#[]⟩⟩ : Bk)) B B') := Lib.hid fun B' e => .inl ⟨A, _, C, HBQ.out, fun a ha => by rw [show (⟨nm, st0, born, false, af, ⟨#[]⟩⟩ : Bk).nm = s from hnm]; exact hA a ha, rfl, e⟩
            clear hr hA hnm
            simp only
            go_enter Tryz.func21, Tryz.ntmps21
            go_wp2_with fail
            refine ER.mono ?_
            rintro e w2 ⟨rfl, hb⟩
            obtain ⟨⟨d0, d1, d2, d3, d4⟩, d5, d6, fz⟩ := fin.out w2 hb.out
            have AT := At14_c _ nx B s w2 (HR.out.below hb.out) HL.out
            rw [HI.out] at AT
            clear ER c0 c1
            go_wp2_with fail
            refine AT.mono ?_
            rintro e w3 ⟨rfl, hb3⟩
            have HB3 := Lib.hid (hb.out.trans (hb3.out.mono hb.out.size))
            clear d0 d1 d2 d3 d4 d5 d6 fz AT
            obtain ⟨⟨d0, d1, d2, d3, d4⟩, d5, d6, fz⟩ := fin.out w3 HB3.out
            have hr3 := HR.out.below HB3.out
            obtain ⟨g, hg, hlg, y0, y1, y2, y3, y4, y5, y6, y7⟩ := at8_of hr3 HBQ.out
            have HR3 := Lib.hid hr3
            subst hg
            have hlt : (A.length : Int) < (B.length : Int) := by rw [HBQ.out, List.length_append, List.length_cons]; omega
            have hl1 : w.heap.size < w3.heap.size := by have := HW.out; have := HB3.out.size; omega
            have hl2 : w.heap.size + 1 < w3.heap.size := by have := HW.out; have := HB3.out.size; omega
            have hl3 : w.heap.size + 1 + 1 < w3.heap.size := by have := HW.out; have := HB3.out.size; omega
            clear hr3 hb hb3
            go_wp2_with fail
            refine (WT.out _ (HR3.out.below (below_alloc _ _))).mono ?_
            rintro e w4 ⟨v', rfl, hw⟩
            obtain ⟨va', vc', rfl⟩ := hw.out.1.lit
            have HB4 := Lib.hid (HB3.out.trans (((below_alloc w3 _).trans (hw.out.2.1.mono (by simp))).mono HB3.out.size))
            have HFR : Hid (∀ k, (Value.slice va' (A ++ (⟨nm, st0, born, false, af, ⟨#[]⟩⟩ : Bk) :: C).length vc').ownBlock = some k → W.heap.size ≤ k) := Lib.hid fun k e => by have := hw.out.2.2 k e; have := HB3.out.size; simp at *; omega
            clear d0 d1 d2 d3 d4 d5 d6 fz y0 y1 y2 y3 y4 y5 y6 y7
            obtain ⟨⟨d0, d1, d2, d3, d4⟩, d5, d6, fz⟩ := fin.out w4 HB4.out
            go_wp2_with fail
            refine bodyPost_ret (v := .tuple #[.agg #[.slice va' (A ++ (⟨nm, st0, born, false, af, ⟨#[]⟩⟩ : Bk) :: C).length vc', .int .u64 nx], .int .i64 0]) ?_ rfl ⟨_, rfl, ?_⟩
            · simp [results, Tryz.results21, go_sem, d0, d1, d5, d6, fz]
            · exact Lib.hid ⟨_, rf_fink (w.heap.size + 1 + 1) (by omega) (HW.out.1.trans (HB4.out.mono HW.out.1.size)) hw.out.1 (fun e => by have := HFR.out _ e; have := HW.out.2.1; omega) (.inr fun k e => Nat.le_trans HW.out.1.size (HFR.out k e)) _ _, HF.out _ rfl⟩
          · have hr : rightB false ⟨#[]⟩ af = false := by simp [rightB, ha]
            have p2 : ((af : Int) != 0) = true := by simp; omega
            rw [if_neg (by rw [hr]; decide)]
            clear ha
            simp only
            clear hr hA hnm
            go_enter Tryz.func21, Tryz.ntmps21
            go_wp2_with fail
            refine ER.mono ?_
            rintro e w2 ⟨rfl, hb⟩
            obtain ⟨⟨d0, d1, d2, d3, d4⟩, d5, d6, fz⟩ := fin.out w2 hb.out
            clear ER c0 c1
            go_wp2_with fail
            refine bodyPost_ret (v := .tuple #[.agg #[.slice va B.length vc, .int .u64 nx], .int .i64 30]) ?_ rfl ⟨_, rfl, ?_⟩
            · simp [results, Tryz.results21, go_sem, d0, d1, d5, d6, fz]
            · exact Lib.hid ⟨B, rf_fink (w.heap.size + 1 + 1) (by omega) (HW.out.1.trans (hb.out.mono HW.out.1.size)) (HR.out.below hb.out) (HR0.out.ne (by omega)) (.inl rfl) _ _, rfl⟩
        · have hr : rightB false pre af = false := by
            have : ¬ pre.size = 0 := fun e => hp (empty_of_size e)
            simp [rightB, this]
          have p2 := toList_ne hp
          rw [if_neg (by rw [hr]; decide)]
          clear hp
          simp only
          clear hr hA hnm
          go_enter Tryz.func21, Tryz.ntmps21
          go_wp2_with fail
          refine ER.mono ?_
          rintro e w2 ⟨rfl, hb⟩
          obtain ⟨⟨d0, d1, d2, d3, d4⟩, d5, d6, fz⟩ := fin.out w2 hb.out
          clear ER c0 c1
          go_wp2_with fail
          refine bodyPost_ret (v := .tuple #[.agg #[.slice va B.length vc, .int .u64 nx], .int .i64 30]) ?_ rfl ⟨_, rfl, ?_⟩
          · simp [results, Tryz.results21, go_sem, d0, d1, d5, d6, fz]
          · exact Lib.hid ⟨B, rf_fink (w.heap.size + 1 + 1) (by omega) (HW.out.1.trans (hb.out.mono HW.out.1.size)) (HR.out.below hb.out) (HR0.out.ne (by omega)) (.inl rfl) _ _, rfl⟩
    · have hr : rightB on pre af = false := by simp [rightB, h20]
      rw [if_neg (by rw [hr]; decide)]
      simp only
      clear hr hA hnm
      go_enter Tryz.func21, Tryz.ntmps21
      go_wp2_with fail
      refine ER.mono ?_
      rintro e w2 ⟨rfl, hb⟩
      obtain ⟨⟨d0, d1, d2, d3, d4⟩, d5, d6, fz⟩ := fin.out w2 hb.out
      clear ER c0 c1
      go_wp2_with fail
      refine bodyPost_ret (v := .tuple #[.agg #[.slice va B.length vc, .int .u64 nx], .int .i64 30]) ?_ rfl ⟨_, rfl, ?_⟩
      · simp [results, Tryz.results21, go_sem, d0, d1, d5, d6, fz]
      · exact Lib.hid ⟨B, rf_fink (w.heap.size + 1 + 1) (by omega) (HW.out.1.trans (hb.out.mono HW.out.1.size)) (HR.out.below hb.out) (HR0.out.ne (by omega)) (.inl rfl) _ _, rfl⟩
  · have hR : srR B s on pre af = (errB B s, none) := by unfold srR; rw [if_pos hE]
    rw [hR]
    have hE1 : ((errB B s : Int) != 0) = true := by simp; omega
    simp only
    generalize (errB B s : Int) = E at *
    clear h hbW hsW g0 g1 g2 hR hE
    go_enter Tryz.func21, Tryz.ntmps21
    go_wp2_with fail
    refine ER.mono ?_
    rintro e w2 ⟨rfl, hb⟩
    obtain ⟨⟨d0, d1, d2, d3, d4⟩, d5, d6, fz⟩ := fin.out w2 hb.out
    clear ER c0 c1
    go_wp2_with fail
    refine bodyPost_ret (v := .tuple #[.agg #[.slice va B.length vc, .int .u64 nx], .int .i64 E]) ?_ rfl ⟨_, rfl, ?_⟩
    · simp [results, Tryz.results21, go_sem, d0, d1, d5, d6, fz]
    · exact Lib.hid ⟨B, rf_fink (w.heap.size + 1 + 1) (by omega) (HW.out.1.trans (hb.out.mono HW.out.1.size)) (HR.out.below hb.out) (HR0.out.ne (by omega)) (.inl rfl) _ _, rfl⟩
end Go.Proofs.YtaibjcjphmhgmaaGreatDoor
namespace Go.Proofs.YtaibjcjphmhgmaaGreatDoor
set_option linter.unusedVariables false
set_option maxRecDepth 100000
set_option maxHeartbeats 2000000
open Go.RowKit
/-- The list that Make builds. -/
def MkO (B : List Bk) (b : Bk) (i : Nat) (pl : Bool) (O : List Bk) : Prop :=
  (pl = false ∧ O = B.take i ∧ ∀ a ∈ B.take i, kless b.nm a.nm = false) ∨
  (pl = true ∧ ∃ A C, B.take i = A ++ C ∧ (∀ a ∈ A, kless b.nm a.nm = false) ∧ (∃ c, C.head? = some c ∧ kless b.nm c.nm = true) ∧ O = A ++ b :: C)
theorem MkO.start (B : List Bk) (b : Bk) : MkO B b 0 false [] := .inl ⟨rfl, by simp, by simp⟩
theorem MkO.len {B : List Bk} {b : Bk} {i : Nat} {pl : Bool} {O : List Bk} (h : MkO B b i pl O) (hi : i ≤ B.length) : O.length = i + (if pl then 1 else 0) := by
  rcases h with ⟨rfl, rfl, -⟩ | ⟨rfl, A, C, e, -, -, rfl⟩
  · simp [List.length_take, Nat.min_eq_left hi]
  · have := congrArg List.length e
    rw [List.length_take, Nat.min_eq_left hi, List.length_append] at this
    simp; omega
theorem MkO.skip {B : List Bk} {b : Bk} {i : Nat} {O : List Bk} (h : MkO B b i false O) (hi : i < B.length) (hk : kless b.nm B[i].nm = false) : MkO B b (i + 1) false (O ++ [B[i]]) := by
  rcases h with ⟨-, rfl, h2⟩ | ⟨e, -⟩
  · refine .inl ⟨rfl, (List.take_succ_eq_append_getElem hi).symm, fun a ha => ?_⟩
    rw [List.take_succ_eq_append_getElem hi] at ha
    rcases List.mem_append.1 ha with ha | ha
    · exact h2 a ha
    · simp at ha; rw [ha]; exact hk
  · cases e
theorem MkO.put {B : List Bk} {b : Bk} {i : Nat} {O : List Bk} (h : MkO B b i false O) (hi : i < B.length) (hk : kless b.nm B[i].nm = true) : MkO B b (i + 1) true ((O ++ [b]) ++ [B[i]]) := by
  rcases h with ⟨-, rfl, h2⟩ | ⟨e, -⟩
  · exact .inr ⟨rfl, B.take i, [B[i]], List.take_succ_eq_append_getElem hi, h2, ⟨_, rfl, hk⟩, by simp⟩
  · cases e
theorem MkO.on {B : List Bk} {b : Bk} {i : Nat} {O : List Bk} (h : MkO B b i true O) (hi : i < B.length) : MkO B b (i + 1) true (O ++ [B[i]]) := by
  rcases h with ⟨e, -⟩ | ⟨-, A, C, e, hA, ⟨c, hc, hk⟩, rfl⟩
  · cases e
  · refine .inr ⟨rfl, A, C ++ [B[i]], by rw [List.take_succ_eq_append_getElem hi, e, List.append_assoc], hA, ⟨c, ?_, hk⟩, by simp⟩
    cases C with
    | nil => cases hc
    | cons x C => exact hc
theorem MkO.end {B : List Bk} {b : Bk} {O : List Bk} (h : MkO B b B.length true O) (hn : ∀ a ∈ B, a.nm ≠ b.nm) : RefPut b B O := by
  rcases h with ⟨e, -⟩ | ⟨-, A, C, e, hA, ⟨c, hc, hk⟩, rfl⟩
  · cases e
  · rw [List.take_length] at e
    exact .inr ⟨A, C, e, hn, hA, fun c' hc' => by rw [hc] at hc'; cases hc'; exact hk, rfl⟩
theorem MkO.end0 {B : List Bk} {b : Bk} {O : List Bk} (h : MkO B b B.length false O) (hn : ∀ a ∈ B, a.nm ≠ b.nm) : RefPut b B (O ++ [b]) := by
  rcases h with ⟨-, rfl, h2⟩ | ⟨e, -⟩
  · rw [List.take_length] at h2 ⊢
    exact .inr ⟨B, [], by simp, hn, h2, (fun c' hc' => by cases hc'), rfl⟩
  · cases e
/-- A row under construction. -/
def RBx (base : Nat) (W : World) (v : Value) (O : List Bk) : Prop := W.ownsRow base 53 8 v O.length (bcells O)
theorem RBx.push {base : Nat} {W5 : World} {v5 : Value} {O : List Bk} {b : Bk} {xs : List Value} (hx : xs = bcell b) (ho : W5.ownsRow base 53 8 v5 (O.length + 1) (bcells O ++ xs)) : RBx base W5 v5 (O ++ [b]) := by
  unfold RBx
  rw [List.length_append, List.length_singleton, bcells_app, show bcells [b] = bcell b by simp [bcells], ← hx]
  exact ho
theorem one8 (a0 a1 a2 a3 a4 a5 a6 a7 : Value) (h0 : a0.oneCell' = true) (h1 : a1.oneCell' = true) (h2 : a2.oneCell' = true) (h3 : a3.oneCell' = true) (h4 : a4.oneCell' = true) (h5 : a5.oneCell' = true) (h6 : a6.oneCell' = true) (h7 : a7.oneCell' = true) : ∀ u ∈ [a0, a1, a2, a3, a4, a5, a6, a7], u.oneCell' = true := by
  intro u hu
  simp only [List.mem_cons, List.not_mem_nil, or_false] at hu
  rcases hu with rfl | rfl | rfl | rfl | rfl | rfl | rfl | rfl <;> assumption
theorem RB.at8i {w : World} {va : Option Addr} {n vc : Nat} {B : List Bk} (h : RB w (.slice va n vc) B) (i : Nat) (hi : i < B.length) (b : Bk) (hb : B[i] = b) : ∃ g, va = some ⟨g, 0, none⟩ ∧ g < w.heap.size ∧ w.cell? ⟨g, i * 8, none⟩ = some (.string b.nm) ∧ w.cell? ⟨g, i * 8 + 1, none⟩ = some (.int .i64 (b.st : Int)) ∧ w.cell? ⟨g, i * 8 + 2, none⟩ = some (.int .u64 (b.born : Int)) ∧ w.cell? ⟨g, i * 8 + 3, none⟩ = some (.bool b.on) ∧ w.cell? ⟨g, i * 8 + 4, none⟩ = some (.string b.pre) ∧ w.cell? ⟨g, i * 8 + 5, none⟩ = some (.int .u64 (b.af : Int)) ∧ w.cell? ⟨g, i * 8 + 6, none⟩ = some (.slice none 0 0) ∧ w.cell? ⟨g, i * 8 + 7, none⟩ = some (.slice none 0 0) := by
  subst hb
  obtain ⟨g, hg, hlt, hcc⟩ := h.at i hi
  exact ⟨g, hg, hlt, hcc 0 (by decide), hcc 1 (by decide), hcc 2 (by decide), hcc 3 (by decide), hcc 4 (by decide), hcc 5 (by decide), hcc 6 (by decide), hcc 7 (by decide)⟩
theorem RBx.lit {base : Nat} {w : World} {v : Value} {B : List Bk} (h : RBx base w v B) : ∃ va vc, v = .slice va B.length vc := by
  rcases h.2 with ⟨rfl, h0⟩ | ⟨g, cap, cur, rfl, -⟩
  · exact ⟨_, _, by rw [h0]⟩
  · exact ⟨_, _, rfl⟩
theorem mk_fin {w W6 : World} {v v6 : Value} {O : List Bk} {base : Nat} (hbase : w.heap.size + 1 < base) (hb : Below w.heap.size w W6) (h : RBx base W6 v6 O) (x0 x1 x2 : Value) : RfEnd w (((W6.setCell ⟨w.heap.size, 0, none⟩ x0).setCell ⟨w.heap.size + 1, 0, none⟩ x1).setCell ⟨w.heap.size + 1, 1, none⟩ x2) v v6 O := by
  have hk : ∀ k, v6.ownBlock = some k → base ≤ k := fun k e => (h.lt k e).1
  exact rf_fink (w.heap.size + 1) (by omega) (hb.setCell (Nat.le_refl _) _) (row_ne (Joins.ownsRow_le h (Nat.zero_le _)) 0 x0 fun e => by have := hk _ e; omega) (fun e => by have := hk _ e; omega) (.inr fun k e => by have := hk _ e; omega) x1 x2
/-- What the loop of Make keeps. -/
def MkRel (w3 : World) (B : List Bk) (b : Bk) (i : Nat) (pl : Bool) (O : List Bk) (v : Value) (W : World) : Prop := RBx w3.heap.size W v O ∧ Below w3.heap.size w3 W ∧ MkO B b i pl O
theorem Make14_c (v : Value) (nx : Int) (B : List Bk) (s : ByteArray) (now : Nat) (w : World) (h : RB w v B) (hl : B.length ≤ 99) (hs : s.size ≤ 1000) :
    Calls Tryz.prog 14 #[.agg #[v, .int .u64 nx], .string s, .int .u64 (now : Int)] w fun e w' => ∃ v', e = .returned (.tuple #[.agg #[v', .int .u64 nx], .int .i64 ((mkR B s now).1 : Int)]) ∧ Hid (∃ B', RfEnd w w' v v' B' ∧ RefO (mkR B s now).2 B B') := by
  obtain ⟨va, vc, rfl⟩ := h.lit
  obtain ⟨jB, hjB, hB0, hB1, hB2⟩ := info_parts infoBk
  obtain ⟨W, hW, hbW, hsW, g0, g1⟩ := ref_two w (.slice va B.length vc) nx
  have BC := RBucket_c s W (by omega)
  have AT := At14_c _ nx B s W (h.below hbW) (by omega)
  have HW := Lib.hid (And.intro hbW (And.intro hsW (And.intro g0 g1)))
  have HR := Lib.hid (h.below hbW)
  have HR0 := Lib.hid h
  have HL := Lib.hid hl
  have c0 : W.cell? ⟨w.heap.size, 0, none⟩ = some (.slice va B.length vc) := cell_lit g0 rfl
  have c1 : W.cell? ⟨w.heap.size, 1, none⟩ = some (.int .u64 nx) := cell_lit g0 rfl
  have fin : Hid (∀ w', Below W.heap.size W w' → (w'.cell? ⟨w.heap.size, 0, none⟩ = some (.slice va B.length vc) ∧ w'.cell? ⟨w.heap.size, 1, none⟩ = some (.int .u64 nx)) ∧ w'.cell? ⟨w.heap.size + 1, 0, none⟩ = some (.slice none 0 0) ∧ w'.cell? ⟨w.heap.size + 1, 1, none⟩ = some (.int .u64 0) ∧ (∀ j, w'.frozen? ⟨w.heap.size + 1, j, none⟩ = false) ∧ ∀ j, w'.frozen? ⟨w.heap.size, j, none⟩ = false) := Lib.hid fun w' hb => by
    have x := (hb.block w.heap.size (by omega)).trans g0
    have y := (hb.block (w.heap.size + 1) (by omega)).trans g1
    exact ⟨⟨cell_lit x rfl, cell_lit x rfl⟩, cell_lit y rfl, cell_lit y rfl, fun j => frozen_lit y j, fun j => frozen_lit x j⟩
  clear hbW hsW g0 g1
  rcases errB_cases B s with ⟨h1, h2⟩ | ⟨h1, h2, h3⟩ | ⟨h1, h2, b, h3⟩
  · have hR : mkR B s now = (28, none) := by unfold mkR; rw [h1, if_neg (by decide), if_neg (by decide)]
    rw [hR]
    rw [h2] at BC
    clear h hl hs h1 h2 AT hR
    simp only
    go_enter Tryz.func14, Tryz.ntmps14
    go_wp2_with fail
    refine BC.mono ?_
    rintro e w1 ⟨rfl, rfl⟩
    clear BC
    obtain ⟨⟨d0, d1⟩, d2, d3, fz, fy⟩ := fin.out W (Below.refl _ _)
    clear c0 c1
    go_wp2_with fail
    refine bodyPost_ret (v := .tuple #[.agg #[.slice va B.length vc, .int .u64 nx], .int .i64 28]) ?_ rfl ⟨_, rfl, ?_⟩
    · simp [results, Tryz.results14, go_sem, d0, d1, d2, d3, fz]
    · exact Lib.hid ⟨B, rf_fink (w.heap.size + 1) (by omega) HW.out.1 HR.out (HR0.out.ne (by omega)) (.inl rfl) _ _, rfl⟩
  · have ha : atI B s = -1 := by
      rcases atI_bAt B s with ⟨-, x⟩ | ⟨A, b, C, -, -, -, x, -⟩
      · exact x
      · rw [h3] at x; cases x
    have hR : mkR B s now = (0, some (⟨s, 0, now, false, 0, ⟨#[]⟩⟩ : Bk)) := by unfold mkR; rw [h1, if_pos rfl]
    have HNN : Hid (∀ a ∈ B, a.nm ≠ ((⟨s, 0, now, false, 0, ⟨#[]⟩⟩ : Bk) : Bk).nm) := Lib.hid fun a ha => bAt_none h3 a ha
    rw [hR]
    rw [h2] at BC
    rw [ha] at AT
    clear h hl hs h1 h2 h3 ha hR
    simp only
    go_enter Tryz.func14, Tryz.ntmps14
    go_wp2_with fail
    refine BC.mono ?_
    rintro e w1 ⟨rfl, rfl⟩
    clear BC
    go_wp2_with fail
    refine AT.mono ?_
    rintro e w2 ⟨rfl, hb⟩
    obtain ⟨⟨d0, d1⟩, d2, d3, fz, fy⟩ := fin.out w2 hb.out
    clear c0 c1 AT
    go_wp2_with fail
    obtain ⟨w3, hw3⟩ : ∃ w3, w2.alloc (.cells #[.string s, .int .i64 0, .int .u64 (now : Int), .bool false, .string ⟨#[]⟩, .int .u64 0, .slice none 0 0, .slice none 0 0] 53) = w3 := ⟨_, rfl⟩
    have HB3 : Hid (Below W.heap.size W w3 ∧ W.heap.size ≤ w2.heap.size ∧ w3.heap.size = w2.heap.size + 1) := Lib.hid ⟨by rw [← hw3]; exact hb.out.trans ((below_alloc w2 _).mono hb.out.size), hb.out.size, by rw [← hw3]; simp⟩
    have BLK : Hid (w3.heap[w2.heap.size]? = some (.cells #[.string s, .int .i64 0, .int .u64 (now : Int), .bool false, .string ⟨#[]⟩, .int .u64 0, .slice none 0 0, .slice none 0 0] 53 (0, 0))) := Lib.hid (by rw [← hw3]; exact heap_alloc_new _ _)
    have fin8 : Hid (∀ w', Below w3.heap.size w3 w' → (w'.cell? ⟨w.heap.size, 0, none⟩ = some (.slice va B.length vc)) ∧ RB w' (.slice va B.length vc) B ∧ (w'.cell? ⟨w2.heap.size, 0, none⟩ = some (.string s) ∧ w'.cell? ⟨w2.heap.size, 1, none⟩ = some (.int .i64 0) ∧ w'.cell? ⟨w2.heap.size, 2, none⟩ = some (.int .u64 (now : Int)) ∧ w'.cell? ⟨w2.heap.size, 3, none⟩ = some (.bool false) ∧ w'.cell? ⟨w2.heap.size, 4, none⟩ = some (.string ⟨#[]⟩) ∧ w'.cell? ⟨w2.heap.size, 5, none⟩ = some (.int .u64 0) ∧ w'.cell? ⟨w2.heap.size, 6, none⟩ = some (.slice none 0 0) ∧ w'.cell? ⟨w2.heap.size, 7, none⟩ = some (.slice none 0 0))) := Lib.hid fun w' hb' => by
      have x := (hb'.block w2.heap.size (by have := HB3.out; omega)).trans BLK.out
      have y := HB3.out.1.trans (hb'.mono HB3.out.1.size)
      exact ⟨(fin.out w' y).1.1, HR.out.below y, cell_lit x rfl, cell_lit x rfl, cell_lit x rfl, cell_lit x rfl, cell_lit x rfl, cell_lit x rfl, cell_lit x rfl, cell_lit x rfl⟩
    rw [hw3]
    clear hw3 d0 d1 d2 d3 fz fy hb
    have HS3 := HB3
    go_loopg [9, 10, 11] B.length (fun g s9 s10 s11 wr => ∃ (i : Nat) (pl : Bool) (v' : Value) (O : List Bk), g = B.length - i ∧ i ≤ B.length ∧ s9 = v' ∧ s10 = .bool pl ∧ s11 = .int .i64 (i : Int) ∧ Hid (MkRel w3 B (⟨s, 0, now, false, 0, ⟨#[]⟩⟩ : Bk) i pl O v' wr))
    case atStart => exact ⟨0, false, _, [], rfl, Nat.zero_le _, rfl, rfl, rfl, Lib.hid ⟨⟨by simp [bcells], .inl ⟨rfl, rfl⟩⟩, Below.refl _ _, MkO.start _ _⟩⟩
    case round =>
      obtain ⟨i, pl, v', O, rfl, hi, rfl, rfl, rfl, HM⟩ := hrel
      obtain ⟨d0, hrb, r0, r1, r2, r3, r4, r5, r6, r7⟩ := fin8.out wr HM.out.2.1
      by_cases hlt : i < B.length
      · have HLT := Lib.hid hlt
        obtain ⟨bb, hbb⟩ : ∃ b, B[i]'(HLT.out) = b := ⟨_, rfl⟩
        obtain ⟨g, hg, hlg, y0, y1, y2, y3, y4, y5, y6, y7⟩ := hrb.at8i i HLT.out bb hbb
        obtain ⟨nm, st, born, on, af, pre⟩ := bb
        have HBB := Lib.hid hbb
        subst hg
        have hltI : (i : Int) < (B.length : Int) := by omega
        have hi1 : i ≤ 100 := by have := HL.out; omega
        have hOl : Hid (O.length ≤ 100) := Lib.hid (by have h1 := HM.out.2.2.len hi; have := HL.out; split at h1 <;> omega)
        have HLM : Hid (O.length + 1 ≤ maxLen ∧ (O.length + 1) * 112 ≤ 140737488355328) := Lib.hid (by have := hOl.out; unfold maxLen; omega)
        have hw3r : Hid (w3.heap.size ≤ wr.heap.size) := Lib.hid HM.out.2.1.size
        clear hbb hlt hrb
        cases pl with
        | true =>
          have HN : Hid (MkO B (⟨s, 0, now, false, 0, ⟨#[]⟩⟩ : Bk) (i + 1) true (O ++ [⟨nm, st, born, on, af, pre⟩])) := Lib.hid (by have := HM.out.2.2.on HLT.out; rwa [HBB.out] at this)
          have HO6 := Lib.hid ((show wr.ownsRow w3.heap.size 53 8 _ O.length (bcells O) from HM.out.1).alloc (.cells #[.string nm, .int .i64 (st : Int), .int .u64 (born : Int), .bool on, .string pre, .int .u64 (af : Int), .slice none 0 0, .slice none 0 0] 53))
          have HS6 : Hid (w3.heap.size ≤ (wr.alloc (.cells #[.string nm, .int .i64 (st : Int), .int .u64 (born : Int), .bool on, .string pre, .int .u64 (af : Int), .slice none 0 0, .slice none 0 0] 53)).heap.size) := Lib.hid (by have := hw3r.out; simp; omega)
          go_wp2_with (
            (refine chkA 32 32 ⟨_, _, by with_reducible rfl⟩ ?_
             refine wpList_append_y (by rfl) _ _ _ rfl w3.heap.size 53 jB _ 8 112 Tryz.underlying32 hjB hB0 hB1 hB2 rfl (by decide) _ _ _ (by rfl) HO6.out _ 1 _ (by rfl) (yields_boxL _ #[.string nm, .int .i64 (st : Int), .int .u64 (born : Int), .bool on, .string pre, .int .u64 (af : Int), .slice none 0 0, .slice none 0 0] _ 1 1) rfl (one8 _ _ _ _ _ _ _ _ rfl rfl rfl rfl rfl rfl rfl rfl) HLM.out.1 HLM.out.2 HS6.out ?_
             intro v5 W5 ho5 hg5 ha5
             have HN5 : Hid (MkRel w3 B (⟨s, 0, now, false, 0, ⟨#[]⟩⟩ : Bk) (i + 1) true (O ++ [⟨nm, st, born, on, af, pre⟩]) v5 W5) := Lib.hid ⟨RBx.push rfl ho5, (HM.out.2.1.alloc hw3r.out _).grown hg5 HS6.out (fun k e => (HO6.out.lt k e).1), HN.out⟩
             clear ho5 hg5 ha5))
          go_roundg (B.length - (i + 1))
          case measure => have := HLT.out; omega
          case rel => exact ⟨i + 1, true, _, _, rfl, HLT.out, rfl, rfl, by congr 1, HN5⟩
        | false =>
          cases hk : kless s nm with
          | false =>
            have p : Op.bytesLess s.toList nm.toList = false := hk
            have HN : Hid (MkO B (⟨s, 0, now, false, 0, ⟨#[]⟩⟩ : Bk) (i + 1) false (O ++ [⟨nm, st, born, on, af, pre⟩])) := Lib.hid (by have := HM.out.2.2.skip HLT.out (by rw [HBB.out]; exact hk); rwa [HBB.out] at this)
            clear hk
            have HO6 := Lib.hid ((show wr.ownsRow w3.heap.size 53 8 _ O.length (bcells O) from HM.out.1).alloc (.cells #[.string nm, .int .i64 (st : Int), .int .u64 (born : Int), .bool on, .string pre, .int .u64 (af : Int), .slice none 0 0, .slice none 0 0] 53))
            have HS6 : Hid (w3.heap.size ≤ (wr.alloc (.cells #[.string nm, .int .i64 (st : Int), .int .u64 (born : Int), .bool on, .string pre, .int .u64 (af : Int), .slice none 0 0, .slice none 0 0] 53)).heap.size) := Lib.hid (by have := hw3r.out; simp; omega)
            go_wp2_with (
              (refine chkA 32 32 ⟨_, _, by with_reducible rfl⟩ ?_
               refine wpList_append_y (by rfl) _ _ _ rfl w3.heap.size 53 jB _ 8 112 Tryz.underlying32 hjB hB0 hB1 hB2 rfl (by decide) _ _ _ (by rfl) HO6.out _ 1 _ (by rfl) (yields_boxL _ #[.string nm, .int .i64 (st : Int), .int .u64 (born : Int), .bool on, .string pre, .int .u64 (af : Int), .slice none 0 0, .slice none 0 0] _ 1 1) rfl (one8 _ _ _ _ _ _ _ _ rfl rfl rfl rfl rfl rfl rfl rfl) HLM.out.1 HLM.out.2 HS6.out ?_
               intro v5 W5 ho5 hg5 ha5
               have HN5 : Hid (MkRel w3 B (⟨s, 0, now, false, 0, ⟨#[]⟩⟩ : Bk) (i + 1) false (O ++ [⟨nm, st, born, on, af, pre⟩]) v5 W5) := Lib.hid ⟨RBx.push rfl ho5, (HM.out.2.1.alloc hw3r.out _).grown hg5 HS6.out (fun k e => (HO6.out.lt k e).1), HN.out⟩
               clear ho5 hg5 ha5))
            go_roundg (B.length - (i + 1))
            case measure => have := HLT.out; omega
            case rel => exact ⟨i + 1, false, _, _, rfl, HLT.out, rfl, rfl, by congr 1, HN5⟩
          | true =>
            have p : Op.bytesLess s.toList nm.toList = true := hk
            have HN : Hid (MkO B (⟨s, 0, now, false, 0, ⟨#[]⟩⟩ : Bk) (i + 1) true ((O ++ [(⟨s, 0, now, false, 0, ⟨#[]⟩⟩ : Bk)]) ++ [⟨nm, st, born, on, af, pre⟩])) := Lib.hid (by have := HM.out.2.2.put HLT.out (by rw [HBB.out]; exact hk); rwa [HBB.out] at this)
            clear hk
            have HO6 := Lib.hid ((show wr.ownsRow w3.heap.size 53 8 _ O.length (bcells O) from HM.out.1).alloc (.cells #[.string s, .int .i64 0, .int .u64 (now : Int), .bool false, .string ⟨#[]⟩, .int .u64 0, .slice none 0 0, .slice none 0 0] 53))
            have HS6 : Hid (w3.heap.size ≤ (wr.alloc (.cells #[.string s, .int .i64 0, .int .u64 (now : Int), .bool false, .string ⟨#[]⟩, .int .u64 0, .slice none 0 0, .slice none 0 0] 53)).heap.size) := Lib.hid (by have := hw3r.out; simp; omega)
            have HLM7 : Hid ((O ++ [(⟨s, 0, now, false, 0, ⟨#[]⟩⟩ : Bk)]).length + 1 ≤ maxLen ∧ ((O ++ [(⟨s, 0, now, false, 0, ⟨#[]⟩⟩ : Bk)]).length + 1) * 112 ≤ 140737488355328) := Lib.hid (by have := hOl.out; unfold maxLen; simp; omega)
            go_wp2_with (
              (refine chkA 32 32 ⟨_, _, by with_reducible rfl⟩ ?_
               first
                 | (refine wpList_append_y (by rfl) _ _ _ rfl w3.heap.size 53 jB _ 8 112 Tryz.underlying32 hjB hB0 hB1 hB2 rfl (by decide) _ _ _ (by rfl) HO6.out _ 1 _ (by rfl) (yields_boxL _ #[.string s, .int .i64 0, .int .u64 (now : Int), .bool false, .string ⟨#[]⟩, .int .u64 0, .slice none 0 0, .slice none 0 0] _ 1 1) rfl (one8 _ _ _ _ _ _ _ _ rfl rfl rfl rfl rfl rfl rfl rfl) HLM.out.1 HLM.out.2 HS6.out ?_
                    intro v5 W5 ho5 hg5 ha5
                    have HN5 : Hid (RBx w3.heap.size W5 v5 (O ++ [(⟨s, 0, now, false, 0, ⟨#[]⟩⟩ : Bk)]) ∧ Below w3.heap.size w3 W5) := Lib.hid ⟨RBx.push rfl ho5, (HM.out.2.1.alloc hw3r.out _).grown hg5 HS6.out (fun k e => (HO6.out.lt k e).1)⟩
                    clear ho5 hg5 ha5 d0 y0 y1 y2 y3 y4 y5 y6 y7 r0 r1 r2 r3 r4 r5 r6 r7
                    obtain ⟨d0, hrb5, r0, r1, r2, r3, r4, r5, r6, r7⟩ := fin8.out W5 HN5.out.2
                    obtain ⟨g5, hg5', hlg5, y0, y1, y2, y3, y4, y5, y6, y7⟩ := hrb5.at8i i HLT.out _ HBB.out
                    cases hg5'
                    clear hrb5
                    have HO7 := Lib.hid ((show W5.ownsRow w3.heap.size 53 8 v5 (O ++ [(⟨s, 0, now, false, 0, ⟨#[]⟩⟩ : Bk)]).length (bcells (O ++ [(⟨s, 0, now, false, 0, ⟨#[]⟩⟩ : Bk)])) from HN5.out.1).alloc (.cells #[.string nm, .int .i64 (st : Int), .int .u64 (born : Int), .bool on, .string pre, .int .u64 (af : Int), .slice none 0 0, .slice none 0 0] 53))
                    have HS7 : Hid (w3.heap.size ≤ (W5.alloc (.cells #[.string nm, .int .i64 (st : Int), .int .u64 (born : Int), .bool on, .string pre, .int .u64 (af : Int), .slice none 0 0, .slice none 0 0] 53)).heap.size) := Lib.hid (by have := HN5.out.2.size; simp; omega))
                 | (refine wpList_append_y (by rfl) _ _ _ rfl w3.heap.size 53 jB _ 8 112 Tryz.underlying32 hjB hB0 hB1 hB2 rfl (by decide) _ _ _ (by rfl) HO7.out _ 1 _ (by rfl) (yields_boxL _ #[.string nm, .int .i64 (st : Int), .int .u64 (born : Int), .bool on, .string pre, .int .u64 (af : Int), .slice none 0 0, .slice none 0 0] _ 1 1) rfl (one8 _ _ _ _ _ _ _ _ rfl rfl rfl rfl rfl rfl rfl rfl) HLM7.out.1 HLM7.out.2 HS7.out ?_
                    intro v8 W8 ho5 hg5 ha5
                    have HN8 : Hid (MkRel w3 B (⟨s, 0, now, false, 0, ⟨#[]⟩⟩ : Bk) (i + 1) true ((O ++ [(⟨s, 0, now, false, 0, ⟨#[]⟩⟩ : Bk)]) ++ [⟨nm, st, born, on, af, pre⟩]) v8 W8) := Lib.hid ⟨RBx.push rfl ho5, (HN5.out.2.alloc HN5.out.2.size _).grown hg5 HS7.out (fun k e => (HO7.out.lt k e).1), HN.out⟩
                    clear ho5 hg5 ha5)))
            go_roundg (B.length - (i + 1))
            case measure => have := HLT.out; omega
            case rel => exact ⟨i + 1, true, _, _, rfl, HLT.out, rfl, rfl, by congr 1, HN8⟩
      · obtain rfl : i = B.length := by omega
        have hw3r : Hid (w3.heap.size ≤ wr.heap.size) := Lib.hid HM.out.2.1.size
        clear hlt hi hrb
        cases pl with
        | true =>
          have HEND : Hid (RefPut (⟨s, 0, now, false, 0, ⟨#[]⟩⟩ : Bk) B O) := Lib.hid (HM.out.2.2.end HNN.out)
          obtain ⟨va6, vc6, rfl⟩ := HM.out.1.lit
          clear d0
          obtain ⟨⟨d0, d1⟩, d2, d3, fz, fy⟩ := fin.out wr (HB3.out.1.trans (HM.out.2.1.mono HB3.out.1.size))
          go_wp2_with fail
          refine bodyPost_ret (v := .tuple #[.agg #[.slice va6 O.length vc6, .int .u64 nx], .int .i64 0]) ?_ rfl ⟨_, rfl, ?_⟩
          · simp [results, Tryz.results14, go_sem, d0, d1, d2, d3, fz, fy]
          · exact Lib.hid ⟨O, mk_fin (base := w3.heap.size) (by have := HW.out.2.1; have := HB3.out; omega) (HW.out.1.trans ((HB3.out.1.trans (HM.out.2.1.mono HB3.out.1.size)).mono HW.out.1.size)) HM.out.1 _ _ _, HEND.out⟩
        | false =>
          have HEND : Hid (RefPut (⟨s, 0, now, false, 0, ⟨#[]⟩⟩ : Bk) B (O ++ [(⟨s, 0, now, false, 0, ⟨#[]⟩⟩ : Bk)])) := Lib.hid (HM.out.2.2.end0 HNN.out)
          have hOl : Hid (O.length ≤ 100) := Lib.hid (by have h1 := HM.out.2.2.len (Nat.le_refl _); have := HL.out; split at h1 <;> omega)
          have HLM : Hid (O.length + 1 ≤ maxLen ∧ (O.length + 1) * 112 ≤ 140737488355328) := Lib.hid (by have := hOl.out; unfold maxLen; omega)
          have HO6 := Lib.hid ((show wr.ownsRow w3.heap.size 53 8 _ O.length (bcells O) from HM.out.1).alloc (.cells #[.string s, .int .i64 0, .int .u64 (now : Int), .bool false, .string ⟨#[]⟩, .int .u64 0, .slice none 0 0, .slice none 0 0] 53))
          have HS6 : Hid (w3.heap.size ≤ (wr.alloc (.cells #[.string s, .int .i64 0, .int .u64 (now : Int), .bool false, .string ⟨#[]⟩, .int .u64 0, .slice none 0 0, .slice none 0 0] 53)).heap.size) := Lib.hid (by have := hw3r.out; simp; omega)
          go_wp2_with (
            (refine chkA 32 32 ⟨_, _, by with_reducible rfl⟩ ?_
             refine wpList_append_y (by rfl) _ _ _ rfl w3.heap.size 53 jB _ 8 112 Tryz.underlying32 hjB hB0 hB1 hB2 rfl (by decide) _ _ _ (by rfl) HO6.out _ 1 _ (by rfl) (yields_boxL _ #[.string s, .int .i64 0, .int .u64 (now : Int), .bool false, .string ⟨#[]⟩, .int .u64 0, .slice none 0 0, .slice none 0 0] _ 1 1) rfl (one8 _ _ _ _ _ _ _ _ rfl rfl rfl rfl rfl rfl rfl rfl) HLM.out.1 HLM.out.2 HS6.out ?_
             intro v5 W5 ho5 hg5 ha5
             have HN5 : Hid (RBx w3.heap.size W5 v5 (O ++ [(⟨s, 0, now, false, 0, ⟨#[]⟩⟩ : Bk)]) ∧ Below w3.heap.size w3 W5) := Lib.hid ⟨RBx.push rfl ho5, (HM.out.2.1.alloc hw3r.out _).grown hg5 HS6.out (fun k e => (HO6.out.lt k e).1)⟩
             clear ho5 hg5 ha5
             obtain ⟨va6, vc6, rfl⟩ := HN5.out.1.lit
             clear d0
             obtain ⟨⟨d0, d1⟩, d2, d3, fz, fy⟩ := fin.out W5 (HB3.out.1.trans (HN5.out.2.mono HB3.out.1.size))))
          refine bodyPost_ret (v := .tuple #[.agg #[.slice va6 (O ++ [(⟨s, 0, now, false, 0, ⟨#[]⟩⟩ : Bk)]).length vc6, .int .u64 nx], .int .i64 0]) ?_ rfl ⟨_, rfl, ?_⟩
          · simp [results, Tryz.results14, go_sem, d0, d1, d2, d3, fz, fy]
          · exact Lib.hid ⟨_, mk_fin (base := w3.heap.size) (by have := HW.out.2.1; have := HB3.out; omega) (HW.out.1.trans ((HB3.out.1.trans (HN5.out.2.mono HB3.out.1.size)).mono HW.out.1.size)) HN5.out.1 _ _ _, HEND.out⟩
  · have ha : ¬ atI B s < 0 := by
      rcases atI_bAt B s with ⟨x, -⟩ | ⟨A, b, C, -, -, -, -, x⟩
      · rw [h3] at x; cases x
      · rw [x]; omega
    have hR : mkR B s now = (21, none) := by unfold mkR; rw [h1, if_neg (by decide), if_pos rfl]
    rw [hR]
    rw [h2] at BC
    generalize atI B s = k at *
    have ha2 : 0 ≤ k := by omega
    clear h hl hs h1 h2 h3 hR ha
    simp only
    go_enter Tryz.func14, Tryz.ntmps14
    go_wp2_with fail
    refine BC.mono ?_
    rintro e w1 ⟨rfl, rfl⟩
    clear BC
    go_wp2_with fail
    refine AT.mono ?_
    rintro e w2 ⟨rfl, hb⟩
    clear AT
    obtain ⟨⟨d0, d1⟩, d2, d3, fz, fy⟩ := fin.out w2 hb.out
    clear c0 c1
    go_wp2_with fail
    refine bodyPost_ret (v := .tuple #[.agg #[.slice va B.length vc, .int .u64 nx], .int .i64 21]) ?_ rfl ⟨_, rfl, ?_⟩
    · simp [results, Tryz.results14, go_sem, d0, d1, d2, d3, fz]
    · exact Lib.hid ⟨B, rf_fink (w.heap.size + 1) (by omega) (HW.out.1.trans (hb.out.mono HW.out.1.size)) (HR.out.below hb.out) (HR0.out.ne (by omega)) (.inl rfl) _ _, rfl⟩
end Go.Proofs.YtaibjcjphmhgmaaGreatDoor
namespace Go.Proofs.YtaibjcjphmhgmaaGreatDoor
set_option linter.unusedVariables false
set_option maxRecDepth 100000
set_option maxHeartbeats 2000000
open Go.RowKit
def RefD (s : ByteArray) (B B' : List Bk) : Prop := (errB B s = 0 ∧ ∃ A C b, B = A ++ b :: C ∧ (∀ a ∈ A, a.nm ≠ s) ∧ b.nm = s ∧ B' = A ++ C) ∨ (errB B s ≠ 0 ∧ B' = B)
theorem er_on {B : List Bk} {i k : Nat} (hi : i < B.length) (h : i ≠ k) : (B.take (i + 1)).eraseIdx k = (B.take i).eraseIdx k ++ [B[i]] := by
  rw [List.take_succ_eq_append_getElem hi]
  have hl : (B.take i).length = i := by rw [List.length_take]; omega
  by_cases hk : k < i
  · rw [List.eraseIdx_append_of_lt_length (by omega)]
  · rw [List.eraseIdx_append_of_length_le (by omega), hl, List.eraseIdx_of_length_le (by omega : (B.take i).length ≤ k), List.eraseIdx_of_length_le (by simp; omega)]
theorem er_at {B : List Bk} {i : Nat} (hi : i < B.length) : (B.take (i + 1)).eraseIdx i = (B.take i).eraseIdx i := by
  rw [List.take_succ_eq_append_getElem hi]
  have hl : (B.take i).length = i := by rw [List.length_take]; omega
  rw [List.eraseIdx_append_of_length_le (by omega), hl, List.eraseIdx_of_length_le (by omega : (B.take i).length ≤ i)]
  simp
theorem er_end {A C : List Bk} {b : Bk} : ((A ++ b :: C).take (A ++ b :: C).length).eraseIdx A.length = A ++ C := by
  rw [List.take_length, List.eraseIdx_append_of_length_le (by omega)]
  simp
/-- What the loop of Drop keeps. -/
def DrRel (w3 : World) (B : List Bk) (k i : Nat) (O : List Bk) (v : Value) (W : World) : Prop := RBx w3.heap.size W v O ∧ Below w3.heap.size w3 W ∧ O = (B.take i).eraseIdx k
theorem DrRel.len {w3 W : World} {B O : List Bk} {k i : Nat} {v : Value} (h : DrRel w3 B k i O v W) : O.length ≤ i := by
  rw [h.2.2]
  exact Nat.le_trans (List.length_eraseIdx_le _ _) (by rw [List.length_take]; omega)
theorem Drop14_c (v : Value) (nx : Int) (B : List Bk) (s : ByteArray) (w : World) (h : RB w v B) (hl : B.length ≤ 100) (hs : s.size ≤ 1000) :
    Calls Tryz.prog 23 #[.agg #[v, .int .u64 nx], .string s] w fun e w' => ∃ v', e = .returned (.tuple #[.agg #[v', .int .u64 nx], .int .i64 (errB B s : Int)]) ∧ Hid (∃ B', RfEnd w w' v v' B' ∧ RefD s B B') := by
  obtain ⟨va, vc, rfl⟩ := h.lit
  obtain ⟨jB, hjB, hB0, hB1, hB2⟩ := info_parts infoBk
  obtain ⟨W, hW, hbW, hsW, g0, g1⟩ := ref_two w (.slice va B.length vc) nx
  have ER := Error14_c _ nx B s W (h.below hbW) hl hs
  have HW := Lib.hid (And.intro hbW (And.intro hsW (And.intro g0 g1)))
  have HR := Lib.hid (h.below hbW)
  have HR0 := Lib.hid h
  have HL := Lib.hid hl
  have c0 : W.cell? ⟨w.heap.size, 0, none⟩ = some (.slice va B.length vc) := cell_lit g0 rfl
  have c1 : W.cell? ⟨w.heap.size, 1, none⟩ = some (.int .u64 nx) := cell_lit g0 rfl
  have fin : Hid (∀ w', Below W.heap.size W w' → (w'.cell? ⟨w.heap.size, 0, none⟩ = some (.slice va B.length vc) ∧ w'.cell? ⟨w.heap.size, 1, none⟩ = some (.int .u64 nx)) ∧ w'.cell? ⟨w.heap.size + 1, 0, none⟩ = some (.slice none 0 0) ∧ w'.cell? ⟨w.heap.size + 1, 1, none⟩ = some (.int .u64 0) ∧ (∀ j, w'.frozen? ⟨w.heap.size + 1, j, none⟩ = false) ∧ ∀ j, w'.frozen? ⟨w.heap.size, j, none⟩ = false) := Lib.hid fun w' hb => by
    have x := (hb.block w.heap.size (by omega)).trans g0
    have y := (hb.block (w.heap.size + 1) (by omega)).trans g1
    exact ⟨⟨cell_lit x rfl, cell_lit x rfl⟩, cell_lit y rfl, cell_lit y rfl, fun j => frozen_lit y j, fun j => frozen_lit x j⟩
  by_cases hE : errB B s = 0
  · have HE := Lib.hid hE
    obtain ⟨A, b0, C, hB, hA, hnm, hf, hi⟩ : ∃ A b C, B = A ++ b :: C ∧ (∀ a ∈ A, a.nm ≠ s) ∧ b.nm = s ∧ bAt B s = some b ∧ atI B s = (A.length : Int) := by
      rcases atI_bAt B s with ⟨x, -⟩ | x
      · exfalso
        unfold errB at hE
        rw [x] at hE
        split at hE <;> cases hE
      · exact x
    have HI := Lib.hid hi
    rw [hE] at ER ⊢
    rw [show ((0 : Nat) : Int) = 0 from rfl] at ER
    have HBQ := Lib.hid hB
    have HD : Hid (RefD s B ((B.take B.length).eraseIdx A.length)) := Lib.hid (.inl ⟨hE, A, C, b0, hB, hA, hnm, by subst hB; exact er_end⟩)
    clear hbW hsW g0 g1 hi hB hE hf h hl hs hA hnm
    go_enter Tryz.func23, Tryz.ntmps23
    go_wp2_with fail
    refine ER.mono ?_
    rintro e w2 ⟨rfl, hb⟩
    obtain ⟨⟨d0, d1⟩, d2, d3, fz, fy⟩ := fin.out w2 hb.out
    have AT := At14_c _ nx B s w2 (HR.out.below hb.out) HL.out
    rw [HI.out] at AT
    clear ER c0 c1
    go_wp2_with fail
    refine AT.mono ?_
    rintro e w3 ⟨rfl, hb3⟩
    have HB3 : Hid (Below W.heap.size W w3 ∧ W.heap.size ≤ w3.heap.size) := Lib.hid ⟨hb.out.trans (hb3.out.mono hb.out.size), Nat.le_trans hb.out.size hb3.out.size⟩
    clear d0 d1 d2 d3 fz fy AT
    obtain ⟨⟨d0, d1⟩, d2, d3, fz, fy⟩ := fin.out w3 HB3.out.1
    obtain ⟨g, hg, hlg, -, -, -, -, -, -, y6, y7⟩ := at8_of (HR.out.below HB3.out.1) HBQ.out
    subst hg
    have hlt : (A.length : Int) < (B.length : Int) := by rw [HBQ.out, List.length_append, List.length_cons]; omega
    clear hb hb3
    go_wp2_with fail
    clear d0 d1 d2 d3 fz fy y6 y7 hlg
    go_loopg [8, 9] B.length (fun g' s8 s9 wr => ∃ (i : Nat) (v' : Value) (O : List Bk), g' = B.length - i ∧ i ≤ B.length ∧ s8 = v' ∧ s9 = .int .i64 (i : Int) ∧ Hid (DrRel w3 B A.length i O v' wr))
    case atStart => exact ⟨0, _, [], rfl, Nat.zero_le _, rfl, rfl, Lib.hid ⟨⟨by simp [bcells], .inl ⟨rfl, rfl⟩⟩, Below.refl _ _, by simp⟩⟩
    case round =>
      obtain ⟨i, v', O, rfl, hi, rfl, rfl, HM⟩ := hrel
      have HBW : Hid (Below W.heap.size W wr) := Lib.hid (HB3.out.1.trans (HM.out.2.1.mono HB3.out.2))
      obtain ⟨⟨d0, d1⟩, d2, d3, fz, fy⟩ := fin.out wr HBW.out
      by_cases hlt : i < B.length
      · have HLT := Lib.hid hlt
        obtain ⟨bb, hbb⟩ : ∃ b, B[i]'(HLT.out) = b := ⟨_, rfl⟩
        obtain ⟨g', hg', hlg, y0, y1, y2, y3, y4, y5, y6, y7⟩ := (HR.out.below HBW.out).at8i i HLT.out bb hbb
        cases hg'
        obtain ⟨nm, st, born, on, af, pre⟩ := bb
        have HBB := Lib.hid hbb
        have hltI : (i : Int) < (B.length : Int) := by omega
        have hi1 : i ≤ 100 := by have := HL.out; omega
        by_cases hk : i = A.length
        · have p : ((i : Int) != (A.length : Int)) = false := by subst hk; simp
          have HN : Hid (DrRel w3 B A.length (i + 1) O _ wr) := Lib.hid ⟨HM.out.1, HM.out.2.1, by rw [HM.out.2.2, ← hk]; exact (er_at HLT.out).symm⟩
          clear hbb hlt hk
          go_wp2_with fail
          go_roundg (B.length - (i + 1))
          case measure => have := HLT.out; omega
          case rel => exact ⟨i + 1, _, _, rfl, HLT.out, rfl, by congr 1, HN⟩
        · have p : ((i : Int) != (A.length : Int)) = true := by simp; omega
          have HLM : Hid (O.length + 1 ≤ maxLen ∧ (O.length + 1) * 112 ≤ 140737488355328) := Lib.hid (by have := HM.out.len; unfold maxLen; omega)
          have hw3r : Hid (w3.heap.size ≤ wr.heap.size) := Lib.hid HM.out.2.1.size
          have HN : Hid (O ++ [⟨nm, st, born, on, af, pre⟩] = (B.take (i + 1)).eraseIdx A.length) := Lib.hid (by rw [er_on HLT.out hk, HM.out.2.2, HBB.out])
          have HO6 := Lib.hid ((show wr.ownsRow w3.heap.size 53 8 _ O.length (bcells O) from HM.out.1).alloc (.cells #[.string nm, .int .i64 (st : Int), .int .u64 (born : Int), .bool on, .string pre, .int .u64 (af : Int), .slice none 0 0, .slice none 0 0] 53))
          have HS6 : Hid (w3.heap.size ≤ (wr.alloc (.cells #[.string nm, .int .i64 (st : Int), .int .u64 (born : Int), .bool on, .string pre, .int .u64 (af : Int), .slice none 0 0, .slice none 0 0] 53)).heap.size) := Lib.hid (by have := hw3r.out; simp; omega)
          clear hbb hlt hk
          go_wp2_with (
            (refine chkA 32 32 ⟨_, _, by with_reducible rfl⟩ ?_
             refine wpList_append_y (by rfl) _ _ _ rfl w3.heap.size 53 jB _ 8 112 Tryz.underlying32 hjB hB0 hB1 hB2 rfl (by decide) _ _ _ (by rfl) HO6.out _ 1 _ (by rfl) (yields_boxL _ #[.string nm, .int .i64 (st : Int), .int .u64 (born : Int), .bool on, .string pre, .int .u64 (af : Int), .slice none 0 0, .slice none 0 0] _ 1 1) rfl (one8 _ _ _ _ _ _ _ _ rfl rfl rfl rfl rfl rfl rfl rfl) HLM.out.1 HLM.out.2 HS6.out ?_
             intro v5 W5 ho5 hg5 ha5
             have HN5 : Hid (DrRel w3 B A.length (i + 1) (O ++ [⟨nm, st, born, on, af, pre⟩]) v5 W5) := Lib.hid ⟨RBx.push rfl ho5, (HM.out.2.1.alloc hw3r.out _).grown hg5 HS6.out (fun k e => (HO6.out.lt k e).1), HN.out⟩
             clear ho5 hg5 ha5))
          go_roundg (B.length - (i + 1))
          case measure => have := HLT.out; omega
          case rel => exact ⟨i + 1, _, _, rfl, HLT.out, rfl, by congr 1, HN5⟩
      · obtain rfl : i = B.length := by omega
        clear hlt hi
        obtain ⟨va6, vc6, rfl⟩ := HM.out.1.lit
        go_wp2_with fail
        refine bodyPost_ret (v := .tuple #[.agg #[.slice va6 O.length vc6, .int .u64 nx], .int .i64 0]) ?_ rfl ⟨_, rfl, ?_⟩
        · simp [results, Tryz.results23, go_sem, d0, d1, d2, d3, fz, fy]
        · exact Lib.hid ⟨O, mk_fin (base := w3.heap.size) (by have := HW.out.2.1; have := HB3.out.2; omega) (HW.out.1.trans (HBW.out.mono HW.out.1.size)) HM.out.1 _ _ _, by rw [HM.out.2.2]; exact HD.out⟩
  · have hE1 : ((errB B s : Int) != 0) = true := by simp; omega
    have HD : Hid (RefD s B B) := Lib.hid (.inr ⟨hE, rfl⟩)
    generalize (errB B s : Int) = E at *
    clear h hbW hsW g0 g1 hE
    go_enter Tryz.func23, Tryz.ntmps23
    go_wp2_with fail
    refine ER.mono ?_
    rintro e w2 ⟨rfl, hb⟩
    obtain ⟨⟨d0, d1⟩, d2, d3, fz, fy⟩ := fin.out w2 hb.out
    clear ER c0 c1
    go_wp2_with fail
    refine bodyPost_ret (v := .tuple #[.agg #[.slice va B.length vc, .int .u64 nx], .int .i64 E]) ?_ rfl ⟨_, rfl, ?_⟩
    · simp [results, Tryz.results23, go_sem, d0, d1, d2, d3, fz]
    · exact Lib.hid ⟨B, rf_fink (w.heap.size + 1) (by omega) (HW.out.1.trans (hb.out.mono HW.out.1.size)) (HR.out.below hb.out) (HR0.out.ne (by omega)) (.inl rfl) _ _, HD.out⟩
end Go.Proofs.YtaibjcjphmhgmaaGreatDoor
