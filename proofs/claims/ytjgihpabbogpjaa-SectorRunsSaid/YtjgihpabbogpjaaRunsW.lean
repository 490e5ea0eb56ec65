/- SectorRuns: the two disks side by side; one act. -/
import Derived.Test.YtjgihpabbogpjaaRunsP
namespace Go.Proofs.Ytjgihpabbogpjaa
set_option linter.unusedVariables false
set_option maxRecDepth 100000
set_option maxHeartbeats 4000000
open Go.RowKit
/-- The code's disk and the reference's, apart; and blocks that neither owns. -/
def Both (w0 : World) (b rb : Nat) (D : Dk) (R : Rk) (X : List (Nat × Obj)) (w : World) : Prop :=
  ∃ F G, IsDisk w F b D ∧ IsRdisk w G rb R ∧ (∀ k, F k → w0.heap.size ≤ k) ∧ (∀ k, G k → w0.heap.size ≤ k) ∧ (∀ k, F k → ¬ G k) ∧ Below w0.heap.size w0 w ∧ ∀ p ∈ X, ¬ F p.1 ∧ ¬ G p.1 ∧ w.heap[p.1]? = some p.2
variable {w0 w w' : World} {b rb : Nat} {D D' : Dk} {R R' : Rk} {X : List (Nat × Obj)}
theorem disk_frame {S F : Nat → Prop} (h : IsDisk w F b D) (hu : Upd S w w') (hn : ∀ k, F k → ¬ S k) : IsDisk w' F b D := by
  obtain ⟨mf, mn, lv, h⟩ := h; exact ⟨mf, mn, lv, h.frame hu hn⟩
theorem rdisk_frame {S G : Nat → Prop} (h : IsRdisk w G rb R) (hu : Upd S w w') (hn : ∀ k, G k → ¬ S k) : IsRdisk w' G rb R := by
  obtain ⟨fv, lv, h⟩ := h; exact ⟨fv, lv, h.frame hu hn⟩
theorem disk_lt {F : Nat → Prop} (h : IsDisk w F b D) : ∀ k, F k → k < w.heap.size := by obtain ⟨mf, mn, lv, h⟩ := h; exact h.lt
theorem rdisk_lt {G : Nat → Prop} (h : IsRdisk w G rb R) : ∀ k, G k → k < w.heap.size := by obtain ⟨fv, lv, h⟩ := h; exact h.lt
theorem below_upd {F : Nat → Prop} (hb : Below w0.heap.size w0 w) (hF : ∀ k, F k → w0.heap.size ≤ k) (hu : Upd F w w') : Below w0.heap.size w0 w' :=
  hb.trans ⟨hu.os, hu.tape, hu.output, hu.size, fun k hk => hu.block k (Nat.lt_of_lt_of_le hk hb.size) (fun hx => by have := hF k hx; omega)⟩
theorem both_turnF {F F' G : Nat → Prop} (hd : IsDisk w F b D) (hr : IsRdisk w G rb R) (hF : ∀ k, F k → w0.heap.size ≤ k) (hG : ∀ k, G k → w0.heap.size ≤ k) (hn : ∀ k, F k → ¬ G k) (hb : Below w0.heap.size w0 w)
    (hX : ∀ p ∈ X, ¬ F p.1 ∧ ¬ G p.1 ∧ w.heap[p.1]? = some p.2) (hd' : IsDisk w' F' b D') (ht : Turn F F' w w') : Both w0 b rb D' R X w' := by
  refine ⟨F', G, hd', rdisk_frame hr ht.upd (fun k hg hf => hn k hf hg), fun k hk => ?_, hG, fun k hk hg => ?_, below_upd hb hF ht.upd, fun p hp => ?_⟩
  · rcases ht.sub k hk with h | h
    · exact hF k h
    · exact Nat.le_trans hb.size h
  · rcases ht.sub k hk with h | h
    · exact hn k h hg
    · have := rdisk_lt hr k hg; omega
  · obtain ⟨x1, x2, x3⟩ := hX p hp
    refine ⟨fun h => ?_, x2, ht.upd.at x3 x1⟩
    rcases ht.sub _ h with h | h
    · exact x1 h
    · have := lt_of_heap x3; omega
theorem both_turnG {F G G' : Nat → Prop} (hd : IsDisk w F b D) (hr : IsRdisk w G rb R) (hF : ∀ k, F k → w0.heap.size ≤ k) (hG : ∀ k, G k → w0.heap.size ≤ k) (hn : ∀ k, F k → ¬ G k) (hb : Below w0.heap.size w0 w)
    (hX : ∀ p ∈ X, ¬ F p.1 ∧ ¬ G p.1 ∧ w.heap[p.1]? = some p.2) (hr' : IsRdisk w' G' rb R') (ht : Turn G G' w w') : Both w0 b rb D R' X w' := by
  refine ⟨F, G', disk_frame hd ht.upd hn, hr', hF, fun k hk => ?_, fun k hf hk => ?_, below_upd hb hG ht.upd, fun p hp => ?_⟩
  · rcases ht.sub k hk with h | h
    · exact hG k h
    · exact Nat.le_trans hb.size h
  · rcases ht.sub k hk with h | h
    · exact hn k hf h
    · have := disk_lt hd k hf; omega
  · obtain ⟨x1, x2, x3⟩ := hX p hp
    refine ⟨x1, fun h => ?_, ht.upd.at x3 x2⟩
    rcases ht.sub _ h with h | h
    · exact x2 h
    · have := lt_of_heap x3; omega
theorem Both.more (h : Both w0 b rb D R X w) (hu : Upd (fun _ => False) w w') : Both w0 b rb D R X w' := by
  obtain ⟨F, G, hd, hr, hF, hG, hn, hb, hX⟩ := h
  exact both_turnF hd hr hF hG hn hb hX (disk_frame hd hu (fun _ _ e => e)) ⟨hu.mono (fun _ _ e => e.elim), fun _ e => .inl e⟩
theorem Both.box (h : Both w0 b rb D R X w) (o : Obj) : Both w0 b rb D R ((w.heap.size, o) :: X) (w.alloc o) := by
  have h2 := h.more ((Upd.refl _ w).alloc o)
  obtain ⟨F, G, hd, hr, hF, hG, hn, hb, hX⟩ := h
  have lF := disk_lt hd
  have lG := rdisk_lt hr
  refine ⟨F, G, disk_frame hd ((Upd.refl (fun _ => False) w).alloc o) (fun _ _ e => e), rdisk_frame hr ((Upd.refl (fun _ => False) w).alloc o) (fun _ _ e => e), hF, hG, hn, hb.alloc hb.size _, fun p hp => ?_⟩
  rcases List.mem_cons.1 hp with rfl | hp
  · exact ⟨fun e => by have := lF _ e; simp at this, fun e => by have := lG _ e; simp at this, heap_alloc_new _ _⟩
  · obtain ⟨x1, x2, x3⟩ := hX p hp
    exact ⟨x1, x2, (heap_alloc_lt o (lt_of_heap x3)).trans x3⟩
theorem Both.at (h : Both w0 b rb D R X w) {k : Nat} {o : Obj} (hm : (k, o) ∈ X) : w.heap[k]? = some o := by
  obtain ⟨F, G, hd, hr, hF, hG, hn, hb, hX⟩ := h; exact (hX _ hm).2.2
theorem Both.drop {p : Nat × Obj} (h : Both w0 b rb D R (p :: X) w) : Both w0 b rb D R X w := by
  obtain ⟨F, G, hd, hr, hF, hG, hn, hb, hX⟩ := h; exact ⟨F, G, hd, hr, hF, hG, hn, hb, fun q hq => hX q (List.mem_cons_of_mem _ hq)⟩
theorem Both.below (h : Both w0 b rb D R X w) : Below w0.heap.size w0 w := by obtain ⟨F, G, hd, hr, hF, hG, hn, hb, hX⟩ := h; exact hb
theorem bools_at (h : Both w0 b rb D R X w) {v : Value} {l : List Bool} (hv : BoolsAt w0 v l) : BoolsAt w v l := boolsAt_below hv h.below
theorem BWrite (w0 : World) (b rb : Nat) (D : Dk) (R : Rk) (X : List (Nat × Obj)) (i : Int) (s : ByteArray) (w : World) (h : Both w0 b rb D R X w) (hl : D.loose.length ≤ 4000000000) :
    Calls Try.prog 9 #[.pointer (some ⟨b, 0, none⟩), .int .i64 i, .string s] w fun e w' => e = .returned (.int .i64 (dkWrite D i s).1) ∧ Hid (Both w0 b rb (dkWrite D i s).2 R X w') := by
  obtain ⟨F, G, hd, hr, hF, hG, hn, hb, hX⟩ := h
  refine (Write_c b D F i s w hd hl).mono ?_
  rintro e w' ⟨rfl, F', hd', ht⟩
  exact ⟨rfl, both_turnF hd hr hF hG hn hb hX hd' ht⟩
theorem BFlush (w0 : World) (b rb : Nat) (D : Dk) (R : Rk) (X : List (Nat × Obj)) (w : World) (h : Both w0 b rb D R X w) :
    Calls Try.prog 10 #[.pointer (some ⟨b, 0, none⟩)] w fun e w' => e = .returned (.int .i64 (dkFlush D).1) ∧ Hid (Both w0 b rb (dkFlush D).2 R X w') := by
  obtain ⟨F, G, hd, hr, hF, hG, hn, hb, hX⟩ := h
  refine (Flush_c b D F w hd).mono ?_
  rintro e w' ⟨rfl, F', hd', ht⟩
  exact ⟨rfl, both_turnF hd hr hF hG hn hb hX hd' ht⟩
theorem BRead (w0 : World) (b rb : Nat) (D : Dk) (R : Rk) (X : List (Nat × Obj)) (i : Int) (w : World) (h : Both w0 b rb D R X w) :
    Calls Try.prog 11 #[.pointer (some ⟨b, 0, none⟩), .int .i64 i] w fun e w' => e = .returned (.tuple #[.string (dkRead D i).1, .int .i64 (dkRead D i).2]) ∧ Hid (Both w0 b rb D R X w') := by
  have h' := h
  obtain ⟨F, G, hd, hr, hF, hG, hn, hb, hX⟩ := h
  refine (Read_r b D F i _ _ w hd rfl).mono ?_
  rintro e w' ⟨rfl, hd', hb'⟩
  exact ⟨rfl, h'.more (hb'.upd' (Nat.le_refl _))⟩
theorem BFall (w0 : World) (b rb : Nat) (D : Dk) (R : Rk) (X : List (Nat × Obj)) (v : Value) (keep : List Bool) (w : World) (h : Both w0 b rb D R X w) (hv : BoolsAt w v keep) (hl : D.loose.length ≤ 4000000000) (h512 : ∀ p ∈ D.loose, p.2.size = 512) (hkl : keep.length ≤ 9223372036854775807) :
    Calls Try.prog 12 #[.pointer (some ⟨b, 0, none⟩), v] w fun e w' => e = .returned (.tuple #[]) ∧ Hid (Both w0 b rb (dkFall D keep) R X w') := by
  obtain ⟨F, G, hd, hr, hF, hG, hn, hb, hX⟩ := h
  refine (Fall_r b D F v keep w hd hv hl h512 hkl).mono ?_
  rintro e w' ⟨rfl, F', hd', ht⟩
  exact ⟨rfl, both_turnF hd hr hF hG hn hb hX hd' ht⟩
theorem BFuel (w0 : World) (b rb : Nat) (D : Dk) (R : Rk) (X : List (Nat × Obj)) (n : Int) (w : World) (h : Both w0 b rb D R X w) (n0 : -9223372036854775808 ≤ n) (n1 : n ≤ 9223372036854775807) :
    Calls Try.prog 13 #[.pointer (some ⟨b, 0, none⟩), .int .i64 n] w fun e w' => e = .returned (.tuple #[]) ∧ Hid (Both w0 b rb { D with fuel := n, bound := decide (0 ≤ n) } R X w') := by
  obtain ⟨F, G, hd, hr, hF, hG, hn, hb, hX⟩ := h
  refine (Fuel_r b D F n w hd n0 n1).mono ?_
  rintro e w' ⟨rfl, F', hd', ht⟩
  exact ⟨rfl, both_turnF hd hr hF hG hn hb hX hd' ht⟩
theorem BRWrite (w0 : World) (b rb : Nat) (D : Dk) (R : Rk) (X : List (Nat × Obj)) (i : Int) (s : ByteArray) (w : World) (h : Both w0 b rb D R X w) (hn : R.firm.length ≤ 100000) (hL : R.loose.length ≤ 100000) :
    Calls Try.prog 26 #[.pointer (some ⟨rb, 0, none⟩), .int .i64 i, .string s] w fun e w' => e = .returned (.int .i64 (rkWrite R i s).1) ∧ Hid (Both w0 b rb D (rkWrite R i s).2 X w') := by
  obtain ⟨F, G, hd, hr, hF, hG, hn', hb, hX⟩ := h
  refine (RWrite_c4 rb R G i s w hr hn hL).mono ?_
  rintro e w' ⟨rfl, G', hr', ht⟩
  exact ⟨rfl, both_turnG hd hr hF hG hn' hb hX hr' ht⟩
theorem BRFlush (w0 : World) (b rb : Nat) (D : Dk) (R : Rk) (X : List (Nat × Obj)) (w : World) (h : Both w0 b rb D R X w) (hin : ∀ p ∈ R.loose, 0 ≤ p.1 ∧ p.1 < R.firm.length) (hn : R.firm.length ≤ 100000) (hL : R.loose.length ≤ 100000) :
    Calls Try.prog 27 #[.pointer (some ⟨rb, 0, none⟩)] w fun e w' => e = .returned (.int .i64 (rkFlush R).1) ∧ Hid (Both w0 b rb D (rkFlush R).2 X w') := by
  obtain ⟨F, G, hd, hr, hF, hG, hn', hb, hX⟩ := h
  refine (RFlush_c rb R G w hr hin hn hL).mono ?_
  rintro e w' ⟨rfl, G', hr', ht⟩
  exact ⟨rfl, both_turnG hd hr hF hG hn' hb hX hr' ht⟩
theorem BRRead (w0 : World) (b rb : Nat) (D : Dk) (R : Rk) (X : List (Nat × Obj)) (i : Int) (w : World) (h : Both w0 b rb D R X w) (hn : R.firm.length ≤ 100000) (hL : R.loose.length ≤ 100000) :
    Calls Try.prog 28 #[.pointer (some ⟨rb, 0, none⟩), .int .i64 i] w fun e w' => e = .returned (.tuple #[.string (rkRead R i).1, .int .i64 (rkRead R i).2]) ∧ w = w' := by
  obtain ⟨F, G, hd, hr, hF, hG, hn', hb, hX⟩ := h
  exact RRead_c4 rb R G i w hr hn hL
theorem BRFall (w0 : World) (b rb : Nat) (D : Dk) (R : Rk) (X : List (Nat × Obj)) (v : Value) (keep : List Bool) (w : World) (h : Both w0 b rb D R X w) (hv : BoolsAt w v keep) (hin : ∀ p ∈ R.loose, 0 ≤ p.1 ∧ p.1 < R.firm.length) (hn : R.firm.length ≤ 100000) (hL : R.loose.length ≤ 100000) (hkl : keep.length ≤ 9223372036854775807) :
    Calls Try.prog 29 #[.pointer (some ⟨rb, 0, none⟩), v] w fun e w' => e = .returned (.tuple #[]) ∧ Hid (Both w0 b rb D (rkFall R keep) X w') := by
  obtain ⟨F, G, hd, hr, hF, hG, hn', hb, hX⟩ := h
  refine (Fall_pre rb R G v keep w hr hv hin hn hL hkl).mono ?_
  rintro e w' ⟨rfl, G', hr', ht⟩
  exact ⟨rfl, both_turnG hd hr hF hG hn' hb hX hr' ht⟩
end Go.Proofs.Ytjgihpabbogpjaa
