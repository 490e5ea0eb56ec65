/- SectorSure: the disk beside two arrays of eight. -/
import Derived.Test.YtjgihpabbogpjaaSureP
import Derived.Laws.Rows
namespace Go.Proofs.Ytjgihpabbogpjaa
set_option linter.unusedVariables false
open Go.RowKit
def arrF (F : Nat → UInt8) : Array Value := ((List.range 8).map fun k => Value.int .u8 ((F k).toNat : Int)).toArray
def arrS (S : Nat → List UInt8) : Array Value := ((List.range 8).map fun k => Value.string ⟨(S k).toArray⟩).toArray
theorem range_set {f g : Nat → Value} {k : Nat} (hk : k < 8) (h : ∀ j, j ≠ k → g j = f j) : (((List.range 8).map f).toArray).setIfInBounds k (g k) = ((List.range 8).map g).toArray := by
  apply Array.ext'
  simp only [Array.toList_setIfInBounds]
  apply List.ext_getElem?
  intro i
  by_cases e : k = i
  · subst e
    simp [List.getElem?_set, hk]
  · rw [List.getElem?_set_ne e]
    simp only [List.getElem?_map, List.getElem?_range']
    cases hi : (List.range 8)[i]? with
    | none => rfl
    | some x =>
      have : x = i := by
        have := (List.getElem?_eq_some_iff.1 hi).2; simp at this; exact this.symm
      subst this
      simp [h x (Ne.symm e)]
theorem arrF_get (F : Nat → UInt8) {k : Nat} (hk : k < 8) : (arrF F)[k]? = some (.int .u8 (F k).toNat) := by simp [arrF, hk]
theorem arrS_get (S : Nat → List UInt8) {k : Nat} (hk : k < 8) : (arrS S)[k]? = some (.string ⟨(S k).toArray⟩) := by simp [arrS, hk]
theorem arrF_set (F : Nat → UInt8) {k : Nat} (hk : k < 8) (c : UInt8) : (arrF F).setIfInBounds k (.int .u8 c.toNat) = arrF (fun j => if j = k then c else F j) := by
  have := range_set (f := fun k => Value.int .u8 ((F k).toNat : Int)) (g := fun j => Value.int .u8 (((if j = k then c else F j) : UInt8).toNat : Int)) hk (fun j hj => by simp [hj])
  simpa [arrF] using this
theorem arrS_set (S : Nat → List UInt8) {k : Nat} (hk : k < 8) (l : List UInt8) : (arrS S).setIfInBounds k (.string ⟨l.toArray⟩) = arrS (fun j => if j = k then l else S j) := by
  have := range_set (f := fun k => Value.string ⟨(S k).toArray⟩) (g := fun j => Value.string ⟨(if j = k then l else S j).toArray⟩) hk (fun j hj => by simp [hj])
  simpa [arrS] using this
theorem arrF_size (F : Nat → UInt8) : (arrF F).size = 8 := by simp [arrF]
theorem arrS_size (S : Nat → List UInt8) : (arrS S).size = 8 := by simp [arrS]
/-- The disk, and the two arrays of the call. -/
structure SA (w0 : World) (b : Nat) (D : Dk) (bf bs : Nat) (F : Nat → UInt8) (S : Nat → List UInt8) (w : World) : Prop where
  disk : ∃ G, IsDisk w G b D ∧ (∀ k, G k → w0.heap.size ≤ k) ∧ ¬ G bf ∧ ¬ G bs
  below : Below w0.heap.size w0 w
  ne : bf ≠ bs
  gf : w0.heap.size ≤ bf
  gs : w0.heap.size ≤ bs
  cf : w.heap[bf]? = some (.cells (arrF F) 38 (0, 0))
  cs : w.heap[bs]? = some (.cells (arrS S) 39 (0, 0))
variable {w0 w w' : World} {b bf bs : Nat} {D D' : Dk} {F : Nat → UInt8} {S : Nat → List UInt8}
theorem SA.start (h : Own w0 b D w) : SA w0 b D w.heap.size (w.heap.size + 1) (fun _ => 0) (fun _ => []) ((w.alloc (.cells (arrF fun _ => 0) 38)).alloc (.cells (arrS fun _ => []) 39)) := by
  have hu : Upd (fun _ => False) w ((w.alloc (.cells (arrF fun _ => 0) 38)).alloc (.cells (arrS fun _ => []) 39)) := ((Upd.refl _ _).alloc _).alloc _
  have h2 := Own.more h hu
  obtain ⟨G, ⟨mf, mn, lv, hd⟩, hG, hb⟩ := h
  refine ⟨⟨G, ⟨mf, mn, lv, hd.frame hu (fun _ _ e => e)⟩, hG, fun hx => ?_, fun hx => ?_⟩, h2.below, by omega, hb.size, by have := hb.size; omega, ?_, alloc2_new _ _ _⟩
  · have := hd.lt _ hx; omega
  · have := hd.lt _ hx; omega
  · rw [heap_alloc_lt _ (by simp)]; exact heap_alloc_new _ _
theorem SA.turn {G G' : Nat → Prop} (h : SA w0 b D bf bs F S w) (hG : ∀ k, G k → w0.heap.size ≤ k) (n1 : ¬ G bf) (n2 : ¬ G bs) (hd : IsDisk w' G' b D') (ht : Turn G G' w w') : SA w0 b D' bf bs F S w' := by
  have lf := lt_of_heap h.cf
  have ls := lt_of_heap h.cs
  refine ⟨⟨G', hd, fun k hk => ?_, fun hx => ?_, fun hx => ?_⟩, ?_, h.ne, h.gf, h.gs, ht.upd.at h.cf n1, ht.upd.at h.cs n2⟩
  · rcases ht.sub k hk with hx | hx
    · exact hG k hx
    · exact Nat.le_trans h.below.size hx
  · rcases ht.sub _ hx with hx | hx
    · exact n1 hx
    · omega
  · rcases ht.sub _ hx with hx | hx
    · exact n2 hx
    · omega
  · exact h.below.trans ⟨ht.upd.os, ht.upd.tape, ht.upd.output, ht.upd.size, fun k hk => ht.upd.block k (Nat.lt_of_lt_of_le hk h.below.size) (fun hx => by have := hG k hx; omega)⟩
theorem SA.more (h : SA w0 b D bf bs F S w) (hu : Upd (fun _ => False) w w') : SA w0 b D bf bs F S w' := by
  obtain ⟨G, hd, hG, n1, n2⟩ := h.disk
  obtain ⟨mf, mn, lv, hd⟩ := hd
  exact h.turn hG n1 n2 ⟨mf, mn, lv, hd.frame hu (fun _ _ e => e)⟩ ⟨hu.mono (fun _ _ e => e.elim), fun k hk => .inl hk⟩
theorem SA.setF (h : SA w0 b D bf bs F S w) {k : Nat} (hk : k < 8) (c : UInt8) : SA w0 b D bf bs (fun j => if j = k then c else F j) S (w.setCell ⟨bf, k, none⟩ (.int .u8 c.toNat)) := by
  obtain ⟨G, ⟨mf, mn, lv, hd⟩, hG, n1, n2⟩ := h.disk
  have hu : Upd (fun j => j = bf) w (w.setCell ⟨bf, k, none⟩ (.int .u8 c.toNat)) := upd_setCell _ _ _ _
  refine ⟨⟨G, ⟨mf, mn, lv, hd.frame hu (fun j hj e => n1 (e ▸ hj))⟩, hG, n1, n2⟩, h.below.setCell h.gf _, h.ne, h.gf, h.gs, ?_, hu.at h.cs (fun e => h.ne e.symm)⟩
  rw [heap_set_lit h.cf, arrF_set F hk]
theorem SA.setS (h : SA w0 b D bf bs F S w) {k : Nat} (hk : k < 8) (l : List UInt8) : SA w0 b D bf bs F (fun j => if j = k then l else S j) (w.setCell ⟨bs, k, none⟩ (.string ⟨l.toArray⟩)) := by
  obtain ⟨G, ⟨mf, mn, lv, hd⟩, hG, n1, n2⟩ := h.disk
  have hu : Upd (fun j => j = bs) w (w.setCell ⟨bs, k, none⟩ (.string ⟨l.toArray⟩)) := upd_setCell _ _ _ _
  refine ⟨⟨G, ⟨mf, mn, lv, hd.frame hu (fun j hj e => n2 (e ▸ hj))⟩, hG, n1, n2⟩, h.below.setCell h.gs _, h.ne, h.gf, h.gs, hu.at h.cf h.ne, ?_⟩
  rw [heap_set_lit h.cs, arrS_set S hk]
theorem SA.addTo (h : SA w0 b D bf bs F S w) {k : Nat} (hk : k < 8) (c : UInt8) {z : ByteArray} (hz : z = ⟨(S k ++ [c]).toArray⟩) : SA w0 b D bf bs F (addS S k c) (w.setCell ⟨bs, k, none⟩ (.string z)) := by
  have := h.setS hk (S k ++ [c])
  rw [← hz] at this
  have e : (fun j => if j = k then S k ++ [c] else S j) = addS S k c := by
    funext j; unfold addS
    by_cases e : j = k
    · subst e; simp
    · simp [e]
  rwa [e] at this
theorem run_index_arr {P : Program} (t e : TypeId) (n : Nat) (cs : Array Value) (k : Nat) (v : Value) (ht : P.underlying t = some (.array n e)) (ha : ∀ w, (isAgg e).run P w = .ok false w) (hs : ∀ w, (sizeOf e).run P w = .ok 1 w) (hk : k < n) (hv : cs[k]? = some v) (w : World) :
    (Instr.index t (.agg cs) (.int .i64 (k : Int))).run P w = .ok v w := by
  have h1 : (0 : Int) ≤ (k : Int) ∧ (k : Int) < (n : Int) := by omega
  have hb : k < cs.size := (Array.getElem?_eq_some_iff.1 hv).1
  simp [Instr.index, asIntOf, run_underlying ht, h1, hs, part, ha, hv, Result.andThen]
  exact fun h => absurd h (by omega)
def midF (F : Nat → UInt8) (S : Nat → List UInt8) (n : Nat) : Nat → UInt8 := fun i => if i < n then flF F S i else F i
theorem midF_nil {F : Nat → UInt8} {S : Nat → List UInt8} {n : Nat} (h : S n = []) : midF F S n = midF F S (n + 1) := by
  funext i; unfold midF flF
  by_cases e : i = n
  · subst e; simp [h]
  · by_cases e2 : i < n
    · simp [e2, show i < n + 1 by omega]
    · simp [e2, show ¬ i < n + 1 by omega]
theorem midF_snoc {F : Nat → UInt8} {S : Nat → List UInt8} {n : Nat} {l : List UInt8} {d : UInt8} (h : S n = l ++ [d]) : (fun j => if j = n then d else midF F S n j) = midF F S (n + 1) := by
  funext i; unfold midF flF
  by_cases e : i = n
  · subst e; simp [h]
  · by_cases e2 : i < n
    · simp [e, e2, show i < n + 1 by omega]
    · simp [e, e2, show ¬ i < n + 1 by omega]
theorem midF_zero (F : Nat → UInt8) (S : Nat → List UInt8) : midF F S 0 = F := by funext i; simp [midF]
theorem SA.done (h : SA w0 b D bf bs (midF F S 8) S w) : SA w0 b D bf bs (flF F S) S w := by
  refine ⟨h.disk, h.below, h.ne, h.gf, h.gs, ?_, h.cs⟩
  rw [h.cf]
  have : arrF (midF F S 8) = arrF (flF F S) := by
    unfold arrF
    refine congrArg List.toArray ?_
    refine List.map_congr_left fun k hk => ?_
    have : k < 8 := by simpa using hk
    simp [midF, this]
  rw [this]
def FRel (w0 : World) (b : Nat) (D : Dk) (bf bs : Nat) (F : Nat → UInt8) (S : Nat → List UInt8) (g : Nat) (s71 : Value) (wr : World) : Prop :=
  ∃ n, g = 8 - n ∧ n ≤ 8 ∧ s71 = .int .i64 n ∧ SA w0 b D bf bs (midF F S n) S wr
theorem SA.clear (h : SA w0 b D bf bs F S w) : SA w0 b D bf bs F (fun _ => []) ((((((((w.setCell ⟨bs, 0, none⟩ (.string ⟨#[]⟩)).setCell ⟨bs, 1, none⟩ (.string ⟨#[]⟩)).setCell ⟨bs, 2, none⟩ (.string ⟨#[]⟩)).setCell ⟨bs, 3, none⟩ (.string ⟨#[]⟩)).setCell ⟨bs, 4, none⟩ (.string ⟨#[]⟩)).setCell ⟨bs, 5, none⟩ (.string ⟨#[]⟩)).setCell ⟨bs, 6, none⟩ (.string ⟨#[]⟩)).setCell ⟨bs, 7, none⟩ (.string ⟨#[]⟩)) := by
  have h2 := ((((((((h.setS (k := 0) (by decide) []).setS (k := 1) (by decide) []).setS (k := 2) (by decide) []).setS (k := 3) (by decide) []).setS (k := 4) (by decide) []).setS (k := 5) (by decide) []).setS (k := 6) (by decide) []).setS (k := 7) (by decide) [])
  refine ⟨h2.disk, h2.below, h2.ne, h2.gf, h2.gs, h2.cf, h2.cs.trans ?_⟩
  rfl
theorem get_last {s : ByteArray} {m : List UInt8} {d : UInt8} (h : s.toList = m ++ [d]) : s[m.length]? = some d := by
  rw [Lib.toList_data] at h
  have hs : m.length < s.size := by rw [Lib.size_eq, h]; simp
  rw [getElem?_pos s m.length hs]
  have : s[m.length] = s.data.toList[m.length]'(by rw [h]; simp) := by simp; rfl
  rw [this]
  simp [h]
theorem run_index_str {P : Program} (t : TypeId) (s : ByteArray) (k : Nat) (d : UInt8) (ht : P.underlying t = some .string) (h : s[k]? = some d) (w : World) :
    (Instr.index t (.string s) (.int .i64 (k : Int))).run P w = .ok (.int .u8 (d.toNat : Int)) w := by
  simp [Instr.index, asIntOf, run_underlying ht, h]
def RRel8 (w0 : World) (b : Nat) (D : Dk) (bf bs : Nat) (F : Nat → UInt8) (S : Nat → List UInt8) (g : Nat) (s90 : Value) (wr : World) : Prop :=
  ∃ n : Nat, g = 8 - n ∧ n ≤ 8 ∧ s90 = .int .i64 n ∧ SA w0 b D bf bs F S wr
def okB (b0 : Bool) (c : UInt8) (l : List UInt8) (m : Nat) : Bool := b0 || (l.take m).any (· == c)
def IRel (w0 : World) (b : Nat) (D : Dk) (bf bs : Nat) (F : Nat → UInt8) (S : Nat → List UInt8) (b0 : Bool) (c : UInt8) (l : List UInt8) (g : Nat) (s19 s20 : Value) (wr : World) : Prop :=
  ∃ m : Nat, g = l.length - m ∧ m ≤ l.length ∧ s19 = .bool (okB b0 c l m) ∧ s20 = .int .i64 m ∧ SA w0 b D bf bs F S wr
theorem okB_step {b0 : Bool} {c : UInt8} {l : List UInt8} {m : Nat} (h : m < l.length) : okB b0 c l (m + 1) = (okB b0 c l m || ((c.toNat : Int) == ((l[m]).toNat : Int))) := by
  unfold okB
  rw [List.take_succ_eq_append_getElem h, List.any_append]
  have : ((c.toNat : Int) == ((l[m]).toNat : Int)) = (l[m] == c) := by
    rw [Bool.eq_iff_iff]; simp only [beq_iff_eq]
    constructor
    · intro h; exact UInt8.toNat_inj.1 (by omega)
    · intro h; rw [h]
  rw [this]
  simp [Bool.or_assoc]
theorem okB_all {b0 : Bool} {c x : UInt8} {l : List UInt8} (h : c = x ∨ c ∈ l) (hb : b0 = ((c.toNat : Int) == (x.toNat : Int))) : okB b0 c l l.length = true := by
  unfold okB
  rw [List.take_length, hb]
  rcases h with rfl | h
  · simp
  · simp only [Bool.or_eq_true, List.any_eq_true, beq_iff_eq]
    exact .inr ⟨c, h, rfl⟩
theorem Write_s (w0 : World) (i r : Int) (s : ByteArray) (w : World) (h : SA w0 b D bf bs F S w) (hl : D.loose.length ≤ 4000000000) (e : dkWrite D i s = (r, D')) :
    Calls Try.prog 9 #[.pointer (some ⟨b, 0, none⟩), .int .i64 i, .string s] w fun e w' => e = .returned (.int .i64 r) ∧ SA w0 b D' bf bs F S w' := by
  obtain ⟨G, hd, hG, n1, n2⟩ := h.disk
  refine (Write_r b D D' G i r s w hd hl e).mono ?_
  rintro e' w' ⟨rfl, G', hd', ht⟩
  exact ⟨rfl, h.turn hG n1 n2 hd' ht⟩
theorem Flush_s (w0 : World) (r : Int) (w : World) (h : SA w0 b D bf bs F S w) (e : dkFlush D = (r, D')) :
    Calls Try.prog 10 #[.pointer (some ⟨b, 0, none⟩)] w fun e w' => e = .returned (.int .i64 r) ∧ SA w0 b D' bf bs F S w' := by
  obtain ⟨G, hd, hG, n1, n2⟩ := h.disk
  refine (Flush_r b D D' G r w hd e).mono ?_
  rintro e' w' ⟨rfl, G', hd', ht⟩
  exact ⟨rfl, h.turn hG n1 n2 hd' ht⟩
theorem Read_s (w0 : World) (i r : Int) (s : ByteArray) (w : World) (h : SA w0 b D bf bs F S w) (e : dkRead D i = (s, r)) :
    Calls Try.prog 11 #[.pointer (some ⟨b, 0, none⟩), .int .i64 i] w fun e w' => e = .returned (.tuple #[.string s, .int .i64 r]) ∧ SA w0 b D bf bs F S w' := by
  obtain ⟨G, hd, hG, n1, n2⟩ := h.disk
  refine (Read_r b D G i r s w hd e).mono ?_
  rintro e' w' ⟨rfl, hd', hb'⟩
  exact ⟨rfl, h.more (hb'.upd' (Nat.le_refl _))⟩
theorem Fall_s (w0 : World) (v : Value) (keep : List Bool) (w : World) (h : SA w0 b D bf bs F S w) (hv : BoolsAt w v keep) (hl : D.loose.length ≤ 4000000000) (h512 : ∀ p ∈ D.loose, p.2.size = 512) (hkl : keep.length ≤ 9223372036854775807) :
    Calls Try.prog 12 #[.pointer (some ⟨b, 0, none⟩), v] w fun e w' => e = .returned (.tuple #[]) ∧ SA w0 b (dkFall D keep) bf bs F S w' := by
  obtain ⟨G, hd, hG, n1, n2⟩ := h.disk
  refine (Fall_r b D G v keep w hd hv hl h512 hkl).mono ?_
  rintro e' w' ⟨rfl, G', hd', ht⟩
  exact ⟨rfl, h.turn hG n1 n2 hd' ht⟩
theorem Loose_s (w0 : World) (w : World) (h : SA w0 b D bf bs F S w) (hl : D.loose = []) :
    Calls Try.prog 16 #[.pointer (some ⟨b, 0, none⟩)] w fun e w' => ∃ a c, e = .returned (.slice a 0 c) ∧ SA w0 b D bf bs F S w' := by
  obtain ⟨G, ⟨mf, mn, lv, hd⟩, hG, n1, n2⟩ := h.disk
  refine (Loose_c b D G mf mn lv w hd (by rw [hl]; decide)).mono ?_
  rintro e' w' ⟨v, rfl, ho, hb⟩
  rw [hl] at ho
  have h' := h.more (hb.upd' (Nat.le_refl _))
  rcases ho.2 with ⟨rfl, _⟩ | ⟨g, cap, cur, rfl, _⟩
  · exact ⟨none, 0, rfl, h'⟩
  · exact ⟨_, cap, rfl, h'⟩
theorem Down_s (w0 : World) (x : Bool) (w : World) (h : SA w0 b D bf bs F S w) (e : D.down = x) :
    Calls Try.prog 14 #[.pointer (some ⟨b, 0, none⟩)] w fun e w' => e = .returned (.bool x) ∧ w = w' := by
  obtain ⟨G, hd, hG, n1, n2⟩ := h.disk
  exact Down_r b D G x w hd e
end Go.Proofs.Ytjgihpabbogpjaa
