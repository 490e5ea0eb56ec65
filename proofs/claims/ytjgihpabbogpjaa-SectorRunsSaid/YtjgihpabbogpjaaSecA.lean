/- sector: the functions of a disk but Fall, Loose. -/
import Derived.Test.YtjgihpabbogpjaaShelf
import Derived.Test.YtjgihpabbogpjaaBase
import Derived.WalkSpells
import Derived.WalkLawsBesides
import Derived.Deep.RegionHeld3
import Derived.Deep.AppendLies
import Derived.Deep.DrawnRows
namespace Go.Proofs.Ytjgihpabbogpjaa
open Go.RowKit

def pad (s : ByteArray) : ByteArray := ⟨(s.data.toList ++ List.replicate (512 - s.size) 0).toArray⟩
theorem ret_str {a b : ByteArray} (h : a = b) : Ending.returned (.string a) = .returned (.string b) := by rw [h]
theorem repeat_zero (n : Nat) : Lib.repeatL [(0 : UInt8)] n = List.replicate n 0 := by
  induction n with
  | zero => rfl
  | succ n ih => simp [Lib.repeatL, ih, List.replicate_succ]

set_option maxHeartbeats 400000 in
theorem full_any (s : ByteArray) (w : World) (h : s.size ≤ 512) :
    Calls Try.prog 22 #[.string s] w fun e w' => e = .returned (.string (pad s)) ∧ Below w.heap.size w w' := by
  obtain ⟨n, hn⟩ : ∃ n : Nat, n = 512 - s.size := ⟨_, rfl⟩
  have e : (512 - (s.size : Int)) = (n : Int) := by omega
  have Hn := Lib.hid hn
  have He := Lib.hid e
  clear hn e
  go_enter Try.func22, Try.ntmps22
  go_wp2_with fail
  rw [He.out]
  have h1 := Hn.out
  refine (Try.strings_Repeat _ n w (by omega) (show 1 * n ≤ _ by omega)).mono ?_
  rintro e w1 ⟨rfl, hb⟩
  generalize hz : ByteArray.mk (Lib.repeatL _ n).toArray = z
  rw [show (({ data := #[0] } : ByteArray).data.toList) = [0] from rfl, repeat_zero, h1] at hz
  have hs : z.size ≤ 512 := by rw [← hz]; show (List.replicate (512 - s.size) (0 : UInt8)).toArray.size ≤ 512; rw [List.size_toArray, List.length_replicate]; omega
  have Hz := Lib.hid hz
  clear h1 hz
  go_wp2_with fail
  go_ret
  refine ⟨ret_str ?_, hb⟩
  unfold pad
  rw [← Hz.out]
  apply ByteArray.ext
  simp

/-- A disk, as the code holds it. -/
structure Dk where
  size : Int
  firm : List (Int × ByteArray)
  loose : List (Int × ByteArray)
  now : List (Int × ByteArray)
  fuel : Int
  bound : Bool
  down : Bool
def dkCells (D : Dk) (mf mn : Nat) (lv : Value) : Array Value :=
  #[.int .i64 D.size, .map (some mf), lv, .map (some mn), .int .i64 D.fuel, .bool D.bound, .bool D.down]
def wrs (l : List (Int × ByteArray)) : List Value := l.flatMap fun p => [.int .i64 p.1, .string p.2]

structure DkWf (D : Dk) : Prop where
  size0 : 0 ≤ D.size
  size1 : D.size ≤ 65536
  fuel0 : -9223372036854775808 ≤ D.fuel
  fuel1 : D.fuel ≤ 9223372036854775807
  fuel2 : D.bound = true → 0 ≤ D.fuel
  nowSub : ∀ k s, look D.now k = some s → s.size = 512
  firmSub : ∀ k s, look D.firm k = some s → s.size = 512
structure IsDk (w : World) (F : Nat → Prop) (b : Nat) (D : Dk) (mf mn : Nat) (lv : Value) : Prop where
  cells : w.heap[b]? = some (.cells (dkCells D mf mn lv) 55 (0, 0))
  firm : MapIs kInt Value.string w mf D.firm
  now : MapIs kInt Value.string w mn D.now
  loose : w.ownsRow 0 58 2 lv D.loose.length (wrs D.loose)
  ne : mf ≠ mn
  own : ∀ k, F k ↔ k = b ∨ k = mf ∨ k = mn ∨ lv.ownBlock = some k
  wf : DkWf D
def IsDisk (w : World) (F : Nat → Prop) (b : Nat) (D : Dk) : Prop := ∃ mf mn lv, IsDk w F b D mf mn lv

theorem IsDk.c {w : World} {F : Nat → Prop} {b : Nat} {D : Dk} {mf mn : Nat} {lv : Value} (h : IsDk w F b D mf mn lv) :
    w.cell? ⟨b, 0, none⟩ = some (.int .i64 D.size) ∧ w.cell? ⟨b, 1, none⟩ = some (.map (some mf)) ∧ w.cell? ⟨b, 2, none⟩ = some lv ∧ w.cell? ⟨b, 3, none⟩ = some (.map (some mn)) ∧
      w.cell? ⟨b, 4, none⟩ = some (.int .i64 D.fuel) ∧ w.cell? ⟨b, 5, none⟩ = some (.bool D.bound) ∧ w.cell? ⟨b, 6, none⟩ = some (.bool D.down) :=
  ⟨cell_lit h.cells rfl, cell_lit h.cells rfl, cell_lit h.cells rfl, cell_lit h.cells rfl, cell_lit h.cells rfl, cell_lit h.cells rfl, cell_lit h.cells rfl⟩

theorem Down_nil (w : World) : Calls Try.prog 14 #[.pointer none] w fun e w' => e = .returned (.bool true) ∧ w = w' := by
  go_enter Try.func14, Try.ntmps14
  go_wp2
  go_ret
  exact ⟨rfl, rfl⟩
theorem Down_c (b : Nat) (x : Bool) (w : World) (h : w.cell? ⟨b, 6, none⟩ = some (.bool x)) : Calls Try.prog 14 #[.pointer (some ⟨b, 0, none⟩)] w fun e w' => e = .returned (.bool x) ∧ w = w' := by
  go_enter Try.func14, Try.ntmps14
  go_wp2
  go_ret
  exact ⟨rfl, rfl⟩
theorem MapIs.ne_cells {κ α : Type} [DecidableEq κ] {K : KEnc κ} {V : α → Value} {w : World} {r : Nat} {m : List (κ × α)} (h : MapIs K V w r m) {b : Nat} {cs : Array Value} {T : TypeId} {fr : Nat × Nat} (hb : w.heap[b]? = some (.cells cs T fr)) : r ≠ b := by
  obtain ⟨es, clock, m0, h1, _⟩ := h
  intro e; subst e; rw [h1] at hb; cases hb
theorem IsDk.nf {w : World} {F : Nat → Prop} {b : Nat} {D : Dk} {mf mn : Nat} {lv : Value} (h : IsDk w F b D mf mn lv) : mf ≠ b := h.firm.ne_cells h.cells
theorem IsDk.nn {w : World} {F : Nat → Prop} {b : Nat} {D : Dk} {mf mn : Nat} {lv : Value} (h : IsDk w F b D mf mn lv) : mn ≠ b := h.now.ne_cells h.cells
theorem ownsRow_cells {w : World} {base : Nat} {e : TypeId} {size : Nat} {v : Value} {n : Nat} {xs : List Value} (h : w.ownsRow base e size v n xs) {k : Nat} (hk : v.ownBlock = some k) : ∃ cur, w.heap[k]? = some (.cells cur e (0, 0)) := by
  rcases h.2 with ⟨rfl, _⟩ | ⟨g, cap, cur, rfl, _, hg, _⟩
  · simp [Value.ownBlock] at hk
  · simp [Value.ownBlock] at hk; subst hk; exact ⟨cur, hg⟩
theorem ownsRow_upd {w w' : World} {S : Nat → Prop} {base : Nat} {e : TypeId} {size : Nat} {v : Value} {n : Nat} {xs : List Value} (h : w.ownsRow base e size v n xs) (hu : Upd S w w') (hn : ∀ k, v.ownBlock = some k → ¬ S k) : w'.ownsRow base e size v n xs := by
  refine ⟨h.1, ?_⟩
  rcases h.2 with h2 | ⟨g, cap, cur, rfl, hg, hh, r⟩
  · exact Or.inl h2
  · exact Or.inr ⟨g, cap, cur, rfl, hg, hu.at hh (hn g rfl), r⟩
theorem IsDk.nl {w : World} {F : Nat → Prop} {b : Nat} {D : Dk} {mf mn : Nat} {lv : Value} (h : IsDk w F b D mf mn lv) : lv.ownBlock ≠ some b ∧ lv.ownBlock ≠ some mf ∧ lv.ownBlock ≠ some mn := by
  refine ⟨fun e => ?_, fun e => ?_, fun e => ?_⟩ <;> obtain ⟨cur, hc⟩ := ownsRow_cells h.loose e
  · rw [h.cells] at hc; simp at hc
  · exact h.firm.ne_cells hc rfl
  · exact h.now.ne_cells hc rfl
/-- The disk's own cells are other ones. -/
theorem IsDk.recell {w w' : World} {F : Nat → Prop} {b : Nat} {D D' : Dk} {mf mn : Nat} {lv : Value} (h : IsDk w F b D mf mn lv) (hu : Upd (· = b) w w')
    (hc : w'.heap[b]? = some (.cells (dkCells D' mf mn lv) 55 (0, 0))) (e1 : D'.firm = D.firm) (e2 : D'.now = D.now) (e3 : D'.loose = D.loose) (hw : DkWf D') : IsDk w' F b D' mf mn lv :=
  ⟨hc, e1 ▸ h.firm.upd hu h.nf, e2 ▸ h.now.upd hu h.nn, e3 ▸ ownsRow_upd h.loose hu (fun k hk e => h.nl.1 (by rw [hk, e])), h.ne, h.own, hw⟩
theorem IsDk.frame {w w' : World} {S F : Nat → Prop} {b : Nat} {D : Dk} {mf mn : Nat} {lv : Value} (h : IsDk w F b D mf mn lv) (hu : Upd S w w') (hn : ∀ k, F k → ¬ S k) : IsDk w' F b D mf mn lv :=
  ⟨hu.at h.cells (hn b ((h.own b).2 (.inl rfl))), h.firm.upd hu (hn mf ((h.own mf).2 (.inr (.inl rfl)))), h.now.upd hu (hn mn ((h.own mn).2 (.inr (.inr (.inl rfl))))),
   ownsRow_upd h.loose hu (fun k hk => hn k ((h.own k).2 (.inr (.inr (.inr hk))))), h.ne, h.own, h.wf⟩
theorem IsDk.lt {w : World} {F : Nat → Prop} {b : Nat} {D : Dk} {mf mn : Nat} {lv : Value} (h : IsDk w F b D mf mn lv) : ∀ k, F k → k < w.heap.size := by
  intro k hk
  rcases (h.own k).1 hk with rfl | rfl | rfl | hk
  · exact lt_of_heap h.cells
  · exact h.firm.lt
  · exact h.now.lt
  · exact (h.loose.lt k hk).2
theorem _root_.Go.RowKit.Below.upd' {B : Nat} {w w' : World} (h : Below B w w') (hB : w.heap.size ≤ B) : Upd (fun _ => False) w w' := ⟨h.os, h.tape, h.output, h.size, fun k hk _ => h.block k (by omega)⟩

def dkStep (D : Dk) : Bool × Dk := if D.bound = false then (true, D) else if (D.fuel == 0) = true then (false, { D with down := true }) else (true, { D with fuel := D.fuel - 1 })

set_option maxHeartbeats 400000 in
theorem step_c (b : Nat) (D : Dk) (F : Nat → Prop) (mf mn : Nat) (lv : Value) (w : World) (h : IsDk w F b D mf mn lv) :
    Calls Try.prog 21 #[.pointer (some ⟨b, 0, none⟩)] w fun e w' => e = .returned (.bool (dkStep D).1) ∧ IsDk w' F b (dkStep D).2 mf mn lv ∧ Upd (· = b) w w' := by
  obtain ⟨-, -, -, -, c4, c5, c6⟩ := h.c
  have f4 := frozen_lit h.cells 4
  have f6 := frozen_lit h.cells 6
  have h0 := h.wf.fuel0
  have h1 := h.wf.fuel1
  have h2 := h.wf.fuel2
  rcases D with ⟨sz, firm, loose, now, fuel, bound, down⟩
  simp only at c4 c5 c6 h0 h1 h2
  cases bound
  · have h' := Lib.hid h
    clear h h2 c4 c6 f4 f6
    go_enter Try.func21, Try.ntmps21
    go_wp2
    go_ret
    exact ⟨rfl, h'.out, Upd.refl _ _⟩
  · have h3 := h2 rfl
    have h' := Lib.hid h
    clear h h2
    by_cases hz : (fuel == 0) = true
    · clear h0 h1 h3 f4
      go_enter Try.func21, Try.ntmps21
      go_wp2
      go_ret
      have h := h'.out
      have hu : Upd (· = b) w (w.setCell ⟨b, 6, none⟩ (.bool true)) := upd_setCell _ _ _ _
      simp only [dkStep, hz]
      exact ⟨rfl, h.recell hu (heap_set_lit h.cells _) rfl rfl rfl ⟨h.wf.1, h.wf.2, h.wf.3, h.wf.4, h.wf.5, h.wf.6, h.wf.7⟩, hu⟩
    · have hz' : (fuel == 0) = false := by simpa using hz
      have hz1 : 1 ≤ fuel := by have : fuel ≠ 0 := by simpa using hz
                                omega
      clear hz
      go_enter Try.func21, Try.ntmps21
      go_wp2
      go_ret
      have h := h'.out
      have hu : Upd (· = b) w (w.setCell ⟨b, 4, none⟩ (.int .i64 (fuel - 1))) := upd_setCell _ _ _ _
      simp only [dkStep, hz']
      exact ⟨rfl, h.recell hu (heap_set_lit h.cells _) rfl rfl rfl ⟨h.wf.1, h.wf.2, by simp; omega, by simp; omega, fun _ => by simp; omega, h.wf.6, h.wf.7⟩, hu⟩
set_option maxHeartbeats 400000 in
theorem Fuel_c (b : Nat) (D : Dk) (F : Nat → Prop) (mf mn : Nat) (lv : Value) (n : Int) (w : World) (h : IsDk w F b D mf mn lv) (n0 : -9223372036854775808 ≤ n) (n1 : n ≤ 9223372036854775807) :
    Calls Try.prog 13 #[.pointer (some ⟨b, 0, none⟩), .int .i64 n] w fun e w' => e = .returned (.tuple #[]) ∧ IsDk w' F b { D with fuel := n, bound := decide (0 ≤ n) } mf mn lv ∧ Upd (· = b) w w' := by
  obtain ⟨-, -, -, -, c4, c5, c6⟩ := h.c
  have f4 := frozen_lit h.cells 4
  have f5 := frozen_lit h.cells 5
  have h' := Lib.hid h
  have hb := Lib.hid (And.intro n0 n1)
  clear h n0 n1
  go_enter Try.func13, Try.ntmps13
  go_wp2
  go_end0
  have h := h'.out
  have hu : Upd (· = b) w ((w.setCell ⟨b, 4, none⟩ (.int .i64 n)).setCell ⟨b, 5, none⟩ (.bool (decide (0 ≤ n)))) := (upd_setCell _ _ _ _).trans (upd_setCell _ _ _ _)
  exact ⟨rfl, h.recell hu (heap_set_lit (heap_set_lit h.cells _) _) rfl rfl rfl ⟨h.wf.1, h.wf.2, hb.out.1, hb.out.2, fun e => by simpa using e, h.wf.6, h.wf.7⟩, hu⟩
theorem Size_c (b : Nat) (n : Int) (w : World) (h : w.cell? ⟨b, 0, none⟩ = some (.int .i64 n)) : Calls Try.prog 17 #[.pointer (some ⟨b, 0, none⟩)] w fun e w' => e = .returned (.int .i64 n) ∧ w = w' := by
  go_enter Try.func17, Try.ntmps17
  go_wp2
  go_ret
  exact ⟨rfl, rfl⟩

/-- What a read answers. -/
def dkRead (D : Dk) (i : Int) : ByteArray × Int :=
  if D.down = true then (ByteArray.empty, 3) else if i < 0 ∨ D.size ≤ i then (ByteArray.empty, 2) else
  match look D.now i with
  | some s => (s, 0)
  | none => match look D.firm i with
    | some s => (s, 0)
    | none => (pad ByteArray.empty, 0)
theorem zeroStr (w : World) : (zeroValue 9).run Try.prog w = .ok (.string ByteArray.empty) w := by kernel_rfl
def Two (a : ByteArray) (b : Int) : Ending := .returned (.tuple #[.string a, .int .i64 b])

set_option maxHeartbeats 400000 in
theorem Read_c (b : Nat) (D : Dk) (F : Nat → Prop) (mf mn : Nat) (lv : Value) (i : Int) (w : World) (h : IsDk w F b D mf mn lv) :
    Calls Try.prog 11 #[.pointer (some ⟨b, 0, none⟩), .int .i64 i] w fun e w' => e = Two (dkRead D i).1 (dkRead D i).2 ∧ Below w.heap.size w w' := by
  obtain ⟨c0, c1, c2, c3, c4, c5, c6⟩ := h.c
  have l1 := run_lookup_ok h.now Try.underlying52 Try.underlying3 (zeroStr w) i
  have l2 := run_lookup_ok h.firm Try.underlying52 Try.underlying3 (zeroStr w) i
  rcases D with ⟨sz, firm, loose, now, fuel, bound, down⟩
  simp only at c0 c1 c2 c3 c4 c5 c6 l1 l2
  clear h c2 c4 c5
  cases down
  · by_cases hi : i < 0 ∨ sz ≤ i
    · have e1 : dkRead ⟨sz, firm, loose, now, fuel, bound, false⟩ i = (ByteArray.empty, 2) := by simp [dkRead, hi]
      rw [e1]
      clear e1 l1 l2 c1 c3
      rcases hi with hi | hi
      · go_enter Try.func11, Try.ntmps11
        go_wp2
        go_ret2
        exact ⟨rfl, Below.refl _ _⟩
      · by_cases h0 : i < 0
        · go_enter Try.func11, Try.ntmps11
          go_wp2
          go_ret2
          exact ⟨rfl, Below.refl _ _⟩
        · go_enter Try.func11, Try.ntmps11
          go_wp2
          go_ret2
          exact ⟨rfl, Below.refl _ _⟩
    · have i0 : 0 ≤ i := by omega
      have i1 : i < sz := by omega
      have e1 : dkRead ⟨sz, firm, loose, now, fuel, bound, false⟩ i = (match look now i with | some s => (s, 0) | none => match look firm i with | some s => (s, 0) | none => (pad ByteArray.empty, 0)) := by simp [dkRead, hi]
      rw [e1]
      clear e1 hi
      cases hn : look now i with
      | some s =>
        rw [hn] at l1
        simp only [Option.map_some, Option.getD_some, Option.isSome_some, kInt] at l1
        clear hn l2 c1
        go_enter Try.func11, Try.ntmps11
        go_wp2
        go_ret2
        exact ⟨rfl, Below.refl _ _⟩
      | none =>
        rw [hn] at l1
        simp only [Option.map_none, Option.getD_none, Option.isSome_none, kInt] at l1
        cases hf : look firm i with
        | some s =>
          rw [hf] at l2
          simp only [Option.map_some, Option.getD_some, Option.isSome_some, kInt] at l2
          clear hn hf
          go_enter Try.func11, Try.ntmps11
          go_wp2
          go_ret2
          exact ⟨rfl, Below.refl _ _⟩
        | none =>
          rw [hf] at l2
          simp only [Option.map_none, Option.getD_none, Option.isSome_none, kInt] at l2
          clear hn hf
          go_enter Try.func11, Try.ntmps11
          go_wp2_with (first | (go_at_call 14; refine (Down_c _ _ _ c6).mono ?_; rintro e w' ⟨rfl, rfl⟩) | (go_at_call 22; refine (full_any _ _ ?_).mono ?_; (decide); rintro e w1 ⟨rfl, hb⟩))
          go_ret2
          exact ⟨rfl, hb⟩
  · have e1 : dkRead ⟨sz, firm, loose, now, fuel, bound, true⟩ i = (ByteArray.empty, 3) := by simp [dkRead]
    rw [e1]
    clear e1 l1 l2 c1 c3
    go_enter Try.func11, Try.ntmps11
    go_wp2
    go_ret2
    exact ⟨rfl, Below.refl _ _⟩
theorem settle_c (b : Nat) (D : Dk) (F : Nat → Prop) (mf mn : Nat) (lv : Value) (w : World) (h : IsDk w F b D mf mn lv) :
    Calls Try.prog 24 #[.pointer (some ⟨b, 0, none⟩)] w fun e w' => e = .returned (.tuple #[]) ∧ IsDk w' (fun k => k = b ∨ k = mf ∨ k = mn) b { D with loose := [], now := [] } mf mn (.slice none 0 0) ∧ Upd (fun k => k = b ∨ k = mn) w w' := by
  obtain ⟨-, -, c2, c3, -, -, -⟩ := h.c
  have f2 := frozen_lit h.cells 2
  obtain ⟨w1, hrun, hm, hu⟩ := run_clear (ty := 0) (h.now.upd (upd_setCell w b 2 (.slice none 0 0)) h.nn) Try.underlying52
  have h' := Lib.hid h
  clear h
  have c3' : (w.setCell ⟨b, 2, none⟩ (.slice none 0 0)).cell? ⟨b, 3, none⟩ = some (.map (some mn)) := by rw [World.cell?_setCell_other _ _ _ _ (by simp)]; exact c3
  have hm' := Lib.hid hm
  have hu' := Lib.hid hu
  clear hm hu
  go_enter Try.func24, Try.ntmps24
  go_wp2
  go_end0
  have h := h'.out
  have hU : Upd (fun k => k = b ∨ k = mn) w w1 := ((upd_setCell w b 2 (.slice none 0 0)).mono (fun _ _ e => .inl e)).trans (hu'.out.mono (fun _ _ e => .inr e))
  refine ⟨rfl, ⟨?_, ?_, hm'.out, World.ownsRow_nil _ _ _ _, h.ne, ?_, ⟨h.wf.1, h.wf.2, h.wf.3, h.wf.4, h.wf.5, by simp [look], h.wf.7⟩⟩, hU⟩
  · rw [hu'.out.block b (by simpa using lt_of_heap h.cells) (Ne.symm h.nn)]
    exact heap_set_lit h.cells _
  · exact h.firm.upd hU (by have := h.nf; have := h.ne; simp; omega)
  · intro k; simp [Value.ownBlock]
end Go.Proofs.Ytjgihpabbogpjaa
