/- sector: Loose, Fall. -/
import Derived.Test.YtjgihpabbogpjaaSecC
namespace Go.Proofs.Ytjgihpabbogpjaa
set_option linter.unusedVariables false
open Go.RowKit
attribute [local go_sem ↓] Go.wp_at_zero Go.wp_at_succ

def ints (l : List Int) : List Value := l.map (Value.int .i64)
theorem infoI : (Try.prog.info? 3).map (fun i => (i.zero, i.size, i.bytes)) = some (some (.int .i64 0), 1, 8) := by kernel_rfl
theorem wrs_length (l : List (Int × ByteArray)) : (wrs l).length = l.length * 2 := by
  induction l with
  | nil => rfl
  | cons p r ih => simp only [wrs, List.flatMap_cons, List.length_append, List.length_cons] at *; simp only [List.length_nil]; omega
theorem wrs_get (l : List (Int × ByteArray)) (k : Nat) (h : k < l.length) : (wrs l)[k * 2]? = some (.int .i64 l[k].1) ∧ (wrs l)[k * 2 + 1]? = some (.string l[k].2) := by
  induction l generalizing k with
  | nil => simp at h
  | cons p r ih =>
    cases k with
    | zero => simp [wrs]
    | succ k =>
      have := ih k (by simpa using h)
      have e : wrs (p :: r) = [.int .i64 p.1, .string p.2] ++ wrs r := by simp [wrs]
      rw [e, List.getElem?_append_right (by simp; omega), List.getElem?_append_right (by simp; omega)]
      simp only [List.length_cons, List.length_nil, List.getElem_cons_succ]
      exact ⟨by rw [show (k + 1) * 2 - (0 + 1 + 1) = k * 2 by omega]; exact this.1, by rw [show (k + 1) * 2 + 1 - (0 + 1 + 1) = k * 2 + 1 by omega]; exact this.2⟩
/-- The cells of loose writes. -/
theorem loose_cells {w : World} {g n cap : Nat} {l : List (Int × ByteArray)} (h : w.ownsRow 0 58 2 (.slice (some ⟨g, 0, none⟩) n cap) n (wrs l)) {k : Nat} (hk : k < l.length) :
    w.cell? ⟨g, k * 2, none⟩ = some (.int .i64 l[k].1) ∧ w.cell? ⟨g, k * 2 + 1, none⟩ = some (.string l[k].2) := by
  obtain ⟨h1, h2⟩ := wrs_get l k hk
  have c1 := h.cells rfl _ _ h1
  have c2 := h.cells rfl _ _ h2
  have add (j : Nat) : (⟨g, 0, none⟩ : Addr).add j = ⟨g, j, none⟩ := by unfold Addr.add; split <;> simp_all
  rw [add] at c1 c2
  exact ⟨c1, c2⟩

theorem Loose_nil (w : World) : Calls Try.prog 16 #[.pointer none] w fun e w' => e = .returned (.slice none 0 0) ∧ w = w' := by
  go_enter Try.func16, Try.ntmps16
  go_wp2
  go_ret
  exact ⟨rfl, rfl⟩

def LooseRel (w : World) (l : List (Int × ByteArray)) (g : Nat) (s3 s13 : Value) (wr : World) : Prop :=
  ∃ k, g = l.length - k ∧ k ≤ l.length ∧ s13 = .int .i64 k ∧ wr.ownsRow w.heap.size 3 1 s3 k (ints ((l.take k).map Prod.fst)) ∧ Below w.heap.size w wr
theorem loose_step {w wr : World} {l : List (Int × ByteArray)} {k : Nat} (hk : k < l.length) {s3 : Value} (ho : wr.ownsRow w.heap.size 3 1 s3 k (ints ((l.take k).map Prod.fst))) (hb : Below w.heap.size w wr) :
    ∀ (o1 o2 : Obj) (v' : Value) (w4 : World) (x : Unit), w4.ownsRow w.heap.size 3 1 v' (k + 1) (ints ((l.take k).map Prod.fst) ++ [.int .i64 l[k].1]) → ((wr.alloc o1).alloc o2).grownBy w4 s3.ownBlock →
      LooseRel w l (l.length - (k + 1)) v' (.int .i64 (k + 1)) w4 := by
  intro o1 o2 v' w4 _ h1 h2
  refine ⟨k + 1, rfl, by omega, by simp, ?_, ?_⟩
  · have e : ints ((l.take (k + 1)).map Prod.fst) = ints ((l.take k).map Prod.fst) ++ [.int .i64 l[k].1] := by
      rw [List.take_succ_eq_append_getElem hk]; simp only [ints, List.map_append, List.map_cons, List.map_nil]
    rw [e]; exact h1
  · exact ((hb.alloc hb.size _).alloc (by have := hb.size; simp; omega) _).grown h2 (by have := hb.size; simp; omega) (fun j hj => (ho.lt j hj).1)

set_option maxHeartbeats 1000000 in
theorem Loose_c (b : Nat) (D : Dk) (F : Nat → Prop) (mf mn : Nat) (lv : Value) (w : World) (h : IsDk w F b D mf mn lv) (hl : D.loose.length ≤ 4000000000) :
    Calls Try.prog 16 #[.pointer (some ⟨b, 0, none⟩)] w fun e w' => Hid (∃ v, e = .returned v ∧ w'.ownsRow w.heap.size 3 1 v D.loose.length (ints (D.loose.map Prod.fst)) ∧ Below w.heap.size w w') := by
  obtain ⟨-, -, c2, -, -, -, -⟩ := h.c
  have hown := h.loose
  have llt := h.loose.lt
  clear h
  generalize D.loose = l at hl hown ⊢
  clear D
  obtain ⟨j0, hj, hz0, hz1, hz2⟩ := info_parts infoI
  rcases hown.2 with ⟨rfl, h0⟩ | ⟨g, cap, cur, rfl, -⟩
  · have hl0 : l = [] := List.eq_nil_of_length_eq_zero h0
    subst hl0
    clear hown llt h0 hl
    go_enter Try.func16, Try.ntmps16
    go_wp2_with fail
    go_loopg [3, 13] 0 (fun g s3 s13 wr => g = 0 ∧ s3 = .slice none 0 0 ∧ s13 = .int .i64 0 ∧ w = wr)
    case atStart => exact ⟨rfl, rfl, rfl, rfl⟩
    case round =>
      obtain ⟨-, rfl, rfl, rfl⟩ := hrel
      go_wp2_with fail
      go_ret
      exact ⟨_, rfl, World.ownsRow_nil _ _ _ _, Below.refl _ _⟩
  · have lg := (llt g rfl).2
    have R0 : LooseRel w l l.length (.slice none 0 0) (.int .i64 0) w := ⟨0, by omega, Nat.zero_le _, rfl, by simp [ints]; exact World.ownsRow_nil _ _ _ _, Below.refl _ _⟩
    have HR := Lib.hid R0
    have HO := Lib.hid hown
    clear R0 hown llt
    go_enter Try.func16, Try.ntmps16
    go_wp2_with fail
    go_loopg [3, 13] l.length (fun g s3 s13 wr => LooseRel w l g s3 s13 wr)
    case atStart => exact HR.out
    case round =>
      obtain ⟨k, rfl, hkl, rfl, ho, hb⟩ := hrel
      clear HR
      by_cases hk : k < l.length
      · obtain ⟨q1, q2⟩ := loose_cells HO.out hk
        have q1 := (hb.cell (p := ⟨g, k * 2, none⟩) lg).trans q1
        have q2 := (hb.cell (p := ⟨g, k * 2 + 1, none⟩) lg).trans q2
        have E1 := Lib.hid (loose_step (l := l) (k := k) hk ho hb)
        go_wp2_with (at_builtin; refine wpList_append_lies _ rfl _ _ _ rfl w.heap.size 3 j0 _ 1 8 Try.underlying40 hj hz0 hz1 hz2 rfl (by decide) _ k _ rfl ((ho.alloc _).alloc _) ⟨wr.heap.size + 1, 0, none⟩ 1 1 [.int .i64 l[k].1] rfl rfl (World.news_of_block (alloc2_new _ _ _)) (one1 _ rfl) (by decide) (by unfold maxLen; omega) (by omega) (by have := hb.size; simp; omega) (wr.heap.size + 2) (by simp) ?_; intro gg cap' w4 hown4 hgrow hat hlt; have E2 := Lib.hid (E1.out _ _ _ _ () hown4 hgrow); clear hown4 hgrow hat hlt E1)
        go_roundg (l.length - (k + 1))
        case measure => omega
        case rel => exact E2.out
      · obtain rfl : k = l.length := by omega
        have Hend : Hid (∃ v, Ending.returned u3 = .returned v ∧ wr.ownsRow w.heap.size 3 1 v l.length (ints (l.map Prod.fst)) ∧ Below w.heap.size w wr) := Lib.hid ⟨_, rfl, by simpa using ho, hb⟩
        clear ho hb
        go_wp2_with fail
        go_ret
        exact Hend

/-! Fall -/
/-- The firm contents behind a fall: those loose writes that are kept. -/
def fallFirm (firm : List (Int × ByteArray)) : List (Int × ByteArray) → List Bool → List (Int × ByteArray)
  | [], _ => firm
  | _ :: _, [] => firm
  | p :: l, b :: keep => fallFirm (if b = true then put firm p.1 p.2 else firm) l keep
def dkFall (D : Dk) (keep : List Bool) : Dk := { D with firm := fallFirm D.firm D.loose keep, loose := [], now := [], down := false, bound := false }
theorem Fall_nil (v : Value) (w : World) : Calls Try.prog 12 #[.pointer none, v] w fun e w' => e = .returned (.tuple #[]) ∧ w = w' := by
  go_enter Try.func12, Try.ntmps12
  go_wp2
  (try simp only [Exit.inBlock, Exit.then])
  refine bodyPost_ret (results_none rfl _ _ _) rfl ?_
  exact ⟨rfl, rfl⟩
/-- A slice of bools, as it reads in a world. -/
def BoolsAt (w : World) (v : Value) (l : List Bool) : Prop := ∃ a cap, v = .slice a l.length cap ∧ ∀ k, (h : k < l.length) → ∃ b off, a = some ⟨b, off, none⟩ ∧ w.cell? ⟨b, off + k, none⟩ = some (.bool l[k]) ∧ b < w.heap.size
theorem fall_step (firm : List (Int × ByteArray)) (l : List (Int × ByteArray)) (keep : List Bool) (k : Nat) (hk : k < l.length) :
    fallFirm firm (l.take (k + 1)) keep = if keep[k]? = some true then put (fallFirm firm (l.take k) keep) l[k].1 l[k].2 else fallFirm firm (l.take k) keep := by
  induction l generalizing firm keep k with
  | nil => simp at hk
  | cons p r ih =>
    cases keep with
    | nil => cases k <;> simp [fallFirm]
    | cons b ks =>
      cases k with
      | zero => cases b <;> simp [fallFirm]
      | succ k => simpa [fallFirm] using ih (if b = true then put firm p.1 p.2 else firm) ks k (by simpa using hk)
theorem fall_sub (firm : List (Int × ByteArray)) (l : List (Int × ByteArray)) (keep : List Bool) (hf : ∀ k s, look firm k = some s → s.size = 512) (hl : ∀ p ∈ l, p.2.size = 512) :
    ∀ k s, look (fallFirm firm l keep) k = some s → s.size = 512 := by
  induction l generalizing firm keep with
  | nil => exact hf
  | cons p r ih =>
    cases keep with
    | nil => exact hf
    | cons b ks =>
      simp only [fallFirm]
      refine ih _ ks ?_ (fun q hq => hl q (List.mem_cons_of_mem _ hq))
      intro k s hs
      cases b
      · exact hf k s hs
      · simp only [if_true] at hs
        rw [look_put] at hs
        split at hs
        · cases hs; exact hl p (List.mem_cons_self ..)
        · exact hf k s hs
def FallRel (w : World) (F : Nat → Prop) (b : Nat) (D : Dk) (mf mn : Nat) (lv : Value) (keep : List Bool) (g : Nat) (s13 : Value) (wr : World) : Prop :=
  ∃ k, g = D.loose.length - k ∧ k ≤ D.loose.length ∧ s13 = .int .i64 k ∧ IsDk wr F b { D with firm := fallFirm D.firm (D.loose.take k) keep } mf mn lv ∧ Upd (fun j => j = mf) w wr
theorem BoolsAt.get {w : World} {a : Option Addr} {n cap : Nat} {l : List Bool} (h : BoolsAt w (.slice a n cap) l) (k : Nat) (hk : k < l.length) : ∃ b off, a = some ⟨b, off, none⟩ ∧ w.cell? ⟨b, off + k, none⟩ = some (.bool l[k]) ∧ b < w.heap.size := by
  obtain ⟨a', c', e, hc⟩ := h
  cases e
  exact hc k hk
theorem boolsAt_upd {w w' : World} {S : Nat → Prop} {v : Value} {l : List Bool} (h : BoolsAt w v l) (hu : Upd S w w') (hn : ∀ b o x, w.cell? ⟨b, o, none⟩ = some x → ¬ S b) : BoolsAt w' v l := by
  obtain ⟨a, cap, rfl, hc⟩ := h
  refine ⟨a, cap, rfl, fun k hk => ?_⟩
  obtain ⟨b, off, e, h1, h2⟩ := hc k hk
  exact ⟨b, off, e, (World.cell?_of_block (hu.block b h2 (hn _ _ _ h1))).trans h1, Nat.lt_of_lt_of_le h2 hu.size⟩
theorem map_no_cell {κ α : Type} [DecidableEq κ] {K : KEnc κ} {V : α → Value} {w : World} {r : Nat} {m : List (κ × α)} (h : MapIs K V w r m) {b o : Nat} {x : Value} (hc : w.cell? ⟨b, o, none⟩ = some x) : b ≠ r := by
  obtain ⟨es, clock, m0, hb, _⟩ := h
  intro e; subst e; simp [World.cell?, hb] at hc

set_option maxHeartbeats 1000000 in
theorem Fall_c (b : Nat) (D : Dk) (F : Nat → Prop) (mf mn : Nat) (lv : Value) (v : Value) (keep : List Bool) (w : World) (h : IsDk w F b D mf mn lv) (hv : BoolsAt w v keep) (hl : D.loose.length ≤ 4000000000) (h512 : ∀ p ∈ D.loose, p.2.size = 512) (hkl : keep.length ≤ 9223372036854775807) :
    Calls Try.prog 12 #[.pointer (some ⟨b, 0, none⟩), v] w fun e w' => e = .returned (.tuple #[]) ∧ Hid (∃ F', IsDisk w' F' b (dkFall D keep) ∧ Turn F F' w w') := by
  obtain ⟨-, -, c2, -, -, -, -⟩ := h.c
  obtain ⟨a, cp, rfl, hcell⟩ := hv
  have HV := Lib.hid (show BoolsAt w (.slice a keep.length cp) keep from ⟨a, cp, rfl, hcell⟩)
  obtain ⟨la, lcap, hlv⟩ : ∃ la lcap, lv = .slice la D.loose.length lcap := by
    rcases h.loose.2 with ⟨rfl, h0⟩ | ⟨g, cap, cur, rfl, -⟩
    · exact ⟨none, 0, by rw [h0]⟩
    · exact ⟨_, _, rfl⟩
  have HL := Lib.hid h
  have R0 : FallRel w F b D mf mn lv keep D.loose.length (.int .i64 0) w := ⟨0, by omega, Nat.zero_le _, rfl, by simpa [fallFirm] using h, Upd.refl _ _⟩
  have HR := Lib.hid R0
  subst hlv
  clear R0 h hcell
  go_enter Try.func12, Try.ntmps12
  go_wp2_with fail
  go_loopg [13] D.loose.length (fun g s13 wr => FallRel w F b D mf mn (.slice la D.loose.length lcap) keep g s13 wr)
  case atStart => exact HR.out
  case round =>
    obtain ⟨k, rfl, hk0, rfl, hd, hu⟩ := hrel
    clear HR
    by_cases hk : k < D.loose.length
    · have Hl : Hid (BoolsAt wr (.slice a keep.length cp) keep) := Lib.hid (boolsAt_upd HV.out hu (fun b o x hx => map_no_cell (HL.out).firm hx))
      obtain ⟨g, rfl⟩ : ∃ g, la = some ⟨g, 0, none⟩ := by
        rcases hd.loose.2 with ⟨e, h0⟩ | ⟨g, cap, cur, e, -⟩
        · simp only at h0; omega
        · simp only [Value.slice.injEq] at e; exact ⟨g, e.1⟩
      obtain ⟨q1, q2⟩ := loose_cells hd.loose hk
      obtain ⟨-, r1, -, -, -, -, -⟩ := hd.c
      have lg := (hd.loose.lt g rfl).2
      have lb := lt_of_heap hd.cells
      have HD := Lib.hid hd
      have HU := Lib.hid hu
      by_cases hk2 : k < keep.length
      · obtain ⟨vb, vo, rfl, hvc, hvl⟩ := (Hl.out).get k hk2
        clear HV Hl
        by_cases hb : keep[k] = true
        · rw [hb] at hvc
          have hm0 : MapIs kInt Value.string (wr.alloc (.cells #[.int .i64 D.loose[k].1, .string D.loose[k].2] 58)).drew mf (fallFirm D.firm (D.loose.take k) keep) := (hd.firm.alloc _).of_heap rfl
          obtain ⟨w3, hrun, hm3, hu3⟩ := run_mapUpdate hm0 Try.underlying52 Try.underlying3 D.loose[k].1 D.loose[k].2
          have hU3 : Upd (fun j => j = mf) wr w3 := ((Upd.refl _ _).alloc _).trans hu3.drew_left
          have Hend : Hid (FallRel w F b D mf mn (.slice (some ⟨g, 0, none⟩) D.loose.length lcap) keep (D.loose.length - (k + 1)) (.int .i64 (k + 1)) w3) := by
            refine Lib.hid ⟨k + 1, rfl, by omega, by simp, ?_, hu.trans hU3⟩
            have e1 : fallFirm D.firm (D.loose.take (k + 1)) keep = put (fallFirm D.firm (D.loose.take k) keep) D.loose[k].1 D.loose[k].2 := by
              rw [fall_step _ _ _ _ hk, List.getElem?_eq_getElem hk2, hb]; simp
            rw [e1]
            refine ⟨hU3.at hd.cells (Ne.symm hd.nf), hm3, hd.now.upd hU3 (Ne.symm hd.ne), ownsRow_upd hd.loose hU3 (fun j hj e => hd.nl.2.1 (by rw [hj, e])), hd.ne, hd.own, ⟨hd.wf.1, hd.wf.2, hd.wf.3, hd.wf.4, hd.wf.5, hd.wf.6, ?_⟩⟩
            rw [← e1]
            exact fall_sub _ _ _ (HL.out).wf.7 (fun p hp => h512 p (List.mem_of_mem_take hp))
          have g3 : w3.cell? ⟨b, 1, none⟩ = some (.map (some mf)) := (World.cell?_of_block (hU3.block b lb (Ne.symm hd.nf))).trans r1
          have g5 : w3.cell? ⟨wr.heap.size, 0, none⟩ = some (.int .i64 D.loose[k].1) := (World.cell?_of_block (hu3.drew_left.block wr.heap.size (by simp) (by have := hd.firm.lt; omega))).trans (cell_lit (heap_alloc_new _ _) rfl)
          have g6 : w3.cell? ⟨wr.heap.size, 1, none⟩ = some (.string D.loose[k].2) := (World.cell?_of_block (hu3.drew_left.block wr.heap.size (by simp) (by have := hd.firm.lt; omega))).trans (cell_lit (heap_alloc_new _ _) rfl)
          simp only [kInt] at hrun
          have nb := Lib.hid lb
          clear hd hu hm0 hm3 hu3 hU3
          go_wp2_with fail
          go_region_held3 (fun w' => w'.cell? ⟨b, 1, none⟩ = some (.map (some mf)) ∧ w'.cell? ⟨wr.heap.size, 0, none⟩ = some (.int .i64 D.loose[k].1) ∧ w'.cell? ⟨wr.heap.size, 1, none⟩ = some (.string D.loose[k].2)) (go_keep) (fail)
          go_wp2_with fail
          go_roundg (D.loose.length - (k + 1))
          case measure => omega
          case rel => exact Hend.out
        · have hb : keep[k] = false := by simpa using hb
          rw [hb] at hvc
          have Hend : Hid (FallRel w F b D mf mn (.slice (some ⟨g, 0, none⟩) D.loose.length lcap) keep (D.loose.length - (k + 1)) (.int .i64 (k + 1)) (wr.alloc (.cells #[.int .i64 D.loose[k].1, .string D.loose[k].2] 58))) := by
            refine Lib.hid ⟨k + 1, rfl, by omega, by simp, ?_, hu.alloc _⟩
            rw [fall_step _ _ _ _ hk, List.getElem?_eq_getElem hk2, hb, if_neg (by simp)]
            exact hd.frame (S := fun _ => False) ((Upd.refl _ _).alloc _) (fun _ _ e => e)
          clear hd hu
          go_wp2_with fail
          go_roundg (D.loose.length - (k + 1))
          case measure => omega
          case rel => exact Hend.out
      · clear HV Hl
        have Hend : Hid (FallRel w F b D mf mn (.slice (some ⟨g, 0, none⟩) D.loose.length lcap) keep (D.loose.length - (k + 1)) (.int .i64 (k + 1)) (wr.alloc (.cells #[.int .i64 D.loose[k].1, .string D.loose[k].2] 58))) := by
          refine Lib.hid ⟨k + 1, rfl, by omega, by simp, ?_, hu.alloc _⟩
          rw [fall_step _ _ _ _ hk, List.getElem?_eq_none (by omega), if_neg (by simp)]
          exact hd.frame (S := fun _ => False) ((Upd.refl _ _).alloc _) (fun _ _ e => e)
        clear hd hu
        go_wp2_with fail
        go_roundg (D.loose.length - (k + 1))
        case measure => omega
        case rel => exact Hend.out
    · obtain rfl : k = D.loose.length := by omega
      have se := settle_c b _ F mf mn _ wr hd
      have HD := Lib.hid hd
      have HU := Lib.hid hu
      clear hd hu c2
      go_wp2_with (first | (go_at_call 24; refine se.mono ?_; rintro e w3 ⟨rfl, hs3, hu3⟩; have k5 := cell_lit hs3.cells (i := 5) rfl; have k6 := cell_lit hs3.cells (i := 6) rfl; have f5 := frozen_lit hs3.cells 5; have f6 := frozen_lit hs3.cells 6; have Hs3 := Lib.hid hs3; have Hu3 := Lib.hid hu3; clear hs3 hu3))
      go_end0
      have hs := Hs3.out
      have hU2 : Upd (· = b) w3 ((w3.setCell ⟨b, 6, none⟩ (.bool false)).setCell ⟨b, 5, none⟩ (.bool false)) := (upd_setCell _ _ _ _).trans (upd_setCell _ _ _ _)
      have o := (HL.out).own
      refine ⟨rfl, fun k => k = b ∨ k = mf ∨ k = mn, ⟨mf, mn, .slice none 0 0, ?_⟩, ?_, fun k hk => ?_⟩
      · refine hs.recell hU2 (heap_set_lit (heap_set_lit hs.cells _) _) ?_ rfl rfl ⟨hs.wf.1, hs.wf.2, hs.wf.3, hs.wf.4, by simp [dkFall], hs.wf.6, ?_⟩
        · simp [dkFall]
        · have := hs.wf.7; simpa [dkFall] using this
      · refine ((HU.out).mono (fun k _ e => (o k).2 (.inr (.inl e)))).trans (((Hu3.out).mono (fun k _ e => (o k).2 (e.elim .inl (fun e => .inr (.inr (.inl e)))))).trans (hU2.mono (fun k _ e => (o k).2 (.inl e))))
      · exact .inl ((o k).2 (by rcases hk with e | e | e <;> simp [e]))
end Go.Proofs.Ytjgihpabbogpjaa
