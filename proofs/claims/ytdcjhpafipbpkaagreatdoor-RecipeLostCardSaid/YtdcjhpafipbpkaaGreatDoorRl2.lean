/- Parts of the proof of RecipeLost, joined: TxtP, RcpB, RcpC, RcpD, RcpH, RcpI, RcpJ, RcpK, RcpL, RfsP, RdR, RcpM, RfsQ, RfsA, RfsB. No condition. -/
import Derived.Test.YtdcjhpafipbpkaaGreatDoorRl1
import Derived.Laws.ResultCell
set_option linter.unusedSimpArgs false
set_option linter.unusedVariables false
set_option linter.unusedSectionVars false
namespace Go.Proofs.YtdcjhpafipbpkaaGreatDoor
set_option maxRecDepth 100000
set_option maxHeartbeats 1000000
open Go.RowKit
theorem PutC.new {c : Ck} {C C' : List Ck} (h : PutC c C C') (hn : cAt C c.id = none) : C'.length = C.length + 1 ∧ (∀ d, d ∈ C' ↔ d = c ∨ d ∈ C) := by
  obtain ⟨A, B, rfl, h', -, -⟩ := h
  rcases h' with rfl | ⟨c0, e, rfl⟩
  · refine ⟨by simp; omega, fun d => ?_⟩
    simp only [List.mem_append, List.mem_cons]
    constructor
    · rintro (h | h | h)
      · exact .inr (.inl h)
      · exact .inl h
      · exact .inr (.inr h)
    · rintro (h | h | h)
      · exact .inr (.inl h)
      · exact .inl h
      · exact .inr (.inr h)
  · exact absurd e (cAt_none hn c0 (by simp))
theorem RSt.upd {w1 w w' : World} {K F : Nat → Prop} {rb n m : Nat} {S : RS} (h : RSt w1 w K rb n m S) (hu : Upd F w w') (hF : ∀ k, F k → K k ∧ w1.heap.size ≤ k) : RSt w1 w' K rb n m S := by
  obtain ⟨G, a, b, d, e⟩ := h
  exact ⟨G, a.frame hu fun k hk hf => (d k (hF k hf).1).2 hk, b, fun k hk => ⟨Nat.lt_of_lt_of_le (d k hk).1 hu.size, (d k hk).2⟩, e.trans (hu.below e.size fun k hk hf => by have := (hF k hf).2; omega)⟩
theorem Chs.upd {w1 w0 w w' : World} {K F : Nat → Prop} {sb rb ti tl n N a nx : Nat} {C : List Ck} {L : List Lg} {X : List (Nat × ByteArray)} (h : Chs w1 w0 w K sb rb ti tl n N a C L nx X) (hu : Upd F w w') (hF : ∀ k, F k → K k ∧ w1.heap.size ≤ k ∧ k ≠ sb ∧ k ≠ ti ∧ k ≠ tl) : Chs w1 w' w' K sb rb ti tl n N a C L nx X := by
  obtain ⟨S, o0, o1, h1, h2⟩ := h
  have hs := h1.1.2
  refine ⟨S, o0, o1, ⟨⟨h1.1.1.upd hu fun k hk => ⟨.inl (hF k hk).1, (hF k hk).2.1⟩, ?_, ?_, ?_⟩, fun _ _ => rfl⟩, h2⟩
  · exact hu.at hs.1 fun hf => (hF _ hf).2.2.1 rfl
  · exact hu.at hs.2.1 fun hf => (hF _ hf).2.2.2.1 rfl
  · exact hu.at hs.2.2 fun hf => (hF _ hf).2.2.2.2 rfl
section
variable {w1 w0 w w' : World} {K : Nat → Prop} {sb rb ti tl i : Nat} {M : List (ByteArray × ByteArray)} {t : ByteArray}
end
set_option maxHeartbeats 2000000
def PutTo (C : List Ck) (X : List (Nat × ByteArray)) (t id : ByteArray) (C' : List Ck) (X' : List (Nat × ByteArray)) : Prop :=
  (C' = C ∧ X' = X ∧ ∃ k c, k < 256 ∧ id = nameB (prB t) k ∧ cAt C id = some c ∧ c.text = t ∧ NoHit C (prB t) t k) ∨
  (∃ k page, k < 256 ∧ id = nameB (prB t) k ∧ cAt C id = none ∧ (∀ j, j < k → cAt C (nameB (prB t) j) ≠ none) ∧ NoHit C (prB t) t 256 ∧ PutC ⟨id, page, 0, t⟩ C C' ∧ X' = (page, t) :: X)
structure RcX (w1 w0 w : World) (K : Nat → Prop) (sb rb ti tl n N m : Nat) (C : List Ck) (L : List Lg) (X : List (Nat × ByteArray)) : Prop where
  ex : ∃ a, a ≤ 3 * m ∧ Chs w1 w0 w K sb rb ti tl n N a C L L.length X
  x : ∀ c ∈ C, (c.page, c.text) ∈ X
  len : C.length ≤ m ∧ L.length ≤ m
theorem PutTo.size {C C' : List Ck} {X X' : List (Nat × ByteArray)} {t id : ByteArray} (h : PutTo C X t id C' X') : id.size = 33 := by
  rcases h with ⟨-, -, k, c, -, rfl, -⟩ | ⟨k, page, -, rfl, -⟩ <;> rw [nameB_size, prB_size]
theorem PutC.cAt {c : Ck} {C C' : List Ck} (h : PutC c C C') (hs : CSrt C') : cAt C' c.id = some c := by
  refine cAt_of hs ?_
  obtain ⟨A, B, rfl, -⟩ := h
  simp
theorem PutTo.at {C C' : List Ck} {X X' : List (Nat × ByteArray)} {t id : ByteArray} (h : PutTo C X t id C' X') (hs : CSrt C') : ∃ c, Go.Proofs.YtdcjhpafipbpkaaGreatDoor.cAt C' id = some c ∧ c.text = t := by
  rcases h with ⟨rfl, -, k, c, -, -, h1, h2, -⟩ | ⟨k, page, -, -, -, -, -, h1, -⟩
  · exact ⟨c, h1, h2⟩
  · exact ⟨_, h1.cAt hs, rfl⟩
theorem PutTo.ok {C C' : List Ck} {X X' : List (Nat × ByteArray)} {t id : ByteArray} (h : PutTo C X t id C' X') (hx : ∀ c ∈ C, (c.page, c.text) ∈ X) : (∀ c ∈ C', (c.page, c.text) ∈ X') ∧ C'.length ≤ C.length + 1 := by
  rcases h with ⟨rfl, rfl, -⟩ | ⟨k, page, -, -, h0, -, -, h1, rfl⟩
  · exact ⟨hx, by omega⟩
  · obtain ⟨h2, h3⟩ := h1.new h0
    refine ⟨fun c hc => ?_, by omega⟩
    rcases (h3 c).1 hc with rfl | hc
    · simp
    · exact List.mem_cons_of_mem _ (hx c hc)
theorem PutTo.stay {C C' : List Ck} {X X' : List (Nat × ByteArray)} {t id : ByteArray} (h : PutTo C X t id C' X') (hs : CSrt C') {c : Ck} (hc : c ∈ C) : Go.Proofs.YtdcjhpafipbpkaaGreatDoor.cAt C' c.id = some c := by
  rcases h with ⟨rfl, rfl, -⟩ | ⟨k, page, -, -, h0, -, -, h1, rfl⟩
  · exact cAt_of hs hc
  · exact cAt_of hs (((h1.new h0).2 c).2 (.inr hc))
theorem infoR : (Tryz.prog.info? 57).map (fun i => (i.zero, i.size, i.bytes)) = some (some (.agg #[.string ⟨#[]⟩, .int .i64 0]), 2, 24) := by kernel_rfl
theorem PutRes.to {w1 w0 w : World} {K : Nat → Prop} {sb rb ti tl n N a nx : Nat} {C : List Ck} {L : List Lg} {X : List (Nat × ByteArray)} {t id : ByteArray} {fresh : Bool} (h : PutRes w1 w0 w K sb rb ti tl n N a C L nx X (prB t) t id fresh) : ∃ C' X' a', PutTo C X t id C' X' ∧ a' ≤ a + 2 ∧ Chs w1 w0 w K sb rb ti tl n N a' C' L nx X' := by
  rcases h with ⟨-, k, c, h1, h2, h3, h4, h5, h6⟩ | ⟨-, k, page, C', h1, h2, h3, h4, h5, h6, h7⟩
  · exact ⟨C, X, a, .inl ⟨rfl, rfl, k, c, h1, h2, h3, h4, h5⟩, by omega, h6⟩
  · exact ⟨C', _, a + 2, .inr ⟨k, page, h1, h2, h3, h4, h5, h6, rfl⟩, by omega, h7⟩
theorem Chs.back {w1 w0 w wb w4 w6 : World} {K : Nat → Prop} {sb rb ti tl n N a a' nx nx' x : Nat} {C C' : List Ck} {L L' : List Lg} {X X' : List (Nat × ByteArray)} (h : Chs w1 w0 w K sb rb ti tl n N a C L nx X) (hb : Below w.heap.size w wb) (g : Chs w1 wb w4 (fun k => K k ∨ k = x) sb rb ti tl n N a' C' L' nx' X') (hx : w.heap.size ≤ x) (hu : Upd (fun k => k = x) w4 w6) : Chs w1 w0 w6 K sb rb ti tl n N a' C' L' nx' X' := by
  have hs := h.sbk
  have l0 := lt_of_heap hs.1
  have l1 := lt_of_heap hs.2.1
  have l2 := lt_of_heap hs.2.2
  have lb := h.bel.size
  have g1 := g.upd hu fun k hk => by subst hk; exact ⟨.inr rfl, by omega, by omega, by omega, by omega⟩
  have k46 : Kept K w4 w6 := fun k hk => by
    have := h.klt hk
    exact hu.block k (g.klt (.inl hk)) (by omega)
  exact (((g1.mono fun k hk => Or.inl hk).to k46).to (g.kept.mono fun k hk => Or.inl hk)).to (h.keep hb) |>.to h.kept
section
variable (w1 w w0 : World) (K : Nat → Prop) (sb rb ti tl n N m : Nat) (C : List Ck) (L : List Lg) (X : List (Nat × ByteArray))
theorem Keep_k (t : ByteArray) (h : Hid (RcX w1 w0 w K sb rb ti tl n N m C L X)) (hN : 3 * m + 3 ≤ N ∧ N ≤ 1000) (hm : m < 250) (ht1 : 1 ≤ t.size) (ht2 : t.size ≤ 128) :
    Calls Tryz.prog 76 #[.pointer (some ⟨sb, 0, none⟩), .string t] w fun e w' => ∃ id C' X', e = .returned (.tuple #[.agg #[.string id, .int .i64 (t.size : Int)], .int .i64 0]) ∧ Hid (PutTo C X t id C' X' ∧ RcX w1 w0 w' K sb rb ti tl n N (m + 1) C' (L ++ [⟨L.length, true, id⟩]) X') := by
  obtain ⟨a, ha, H0⟩ := h.out.ex
  obtain ⟨x, hx⟩ : ∃ x, w.heap.size = x := ⟨_, rfl⟩
  obtain ⟨wb, hwb⟩ : ∃ w0, w.alloc (.cells #[.string ⟨#[]⟩, .int .i64 0] 57) = w0 := ⟨_, rfl⟩
  have HB : Hid (Below w.heap.size w wb) := Lib.hid (by rw [← hwb]; exact (Below.refl w.heap.size w).alloc (Nat.le_refl _) _)
  have HBX : wb.heap[x]? = some (.cells #[.string ⟨#[]⟩, .int .i64 0] 57 (0, 0)) := by subst hx hwb; exact heap_alloc_new _ _
  have M0 := Lib.hid (H0.new HB.out x (by omega) (by rw [← hwb]; simp; omega))
  obtain ⟨k, MK⟩ := Mark_k w1 wb wb _ sb rb ti tl n N a L.length C L X M0
  have PT := Put_k w1 wb wb _ sb rb ti tl n N a L.length C L X t M0 (by omega) ht1 ht2 (by have := h.out.len; omega) h.out.x
  go_enter Tryz.func76, Tryz.ntmps76
  go_wp2_with fail
  refine MK.mono ?_
  rintro e w2 ⟨rfl, rfl⟩
  clear MK
  go_wp2_with fail
  refine PT.mono ?_
  rintro e w3 ⟨id, fresh, rfl, HP⟩
  clear PT
  obtain ⟨C', X', a', P1, P2, P3⟩ := HP.out.to
  have M3 := Lib.hid P3
  obtain ⟨c, hc1, hc2⟩ := P1.at P3.ok.2.1
  have AD := Add_yes w1 w3 wb _ sb rb ti tl n N a' L.length C' L X' id true c M3 (by omega) P1.size hc1
  rw [show byI true = 1 from rfl] at AD
  have HPT := Lib.hid P1
  have HA := Lib.hid (show a' ≤ a + 2 from P2)
  clear P1 P2 P3 HP
  go_wp2_with fail
  refine AD.mono ?_
  rintro e w4 ⟨rfl, M4⟩
  clear AD
  have hbx := (M4.out.kept x (.inr rfl)).trans HBX
  have c4 := cell_lit hbx (i := 0) rfl
  have c5 := cell_lit hbx (i := 1) rfl
  have f4 := frozen_lit hbx 0
  have f5 := frozen_lit hbx 1
  have hb5 := heap_set_lit (i := 0) hbx (.string id)
  have g5 := cell_lit (i := 1) hb5 rfl
  have g6 := frozen_lit hb5 1
  have hb6 := heap_set_lit (i := 1) hb5 (.int .i64 (t.size : Int))
  have e0 := cell_lit (i := 0) hb6 rfl
  have e1 := cell_lit (i := 1) hb6 rfl
  have HB6 := Lib.hid hb6
  clear hb5 hb6 hbx
  have HU : Hid (Upd (fun k => k = x) w4 ((w4.setCell ⟨x, 0, none⟩ (.string id)).setCell ⟨x, 1, none⟩ (.int .i64 (t.size : Int)))) := Lib.hid (by
    have u0 : Upd (fun k => k = x) w4 w4 := Upd.refl _ _
    exact (u0.setCell (p := ⟨x, 0, none⟩) (.inl rfl) _).setCell (p := ⟨x, 1, none⟩) (.inl rfl) _)
  have HG : Hid (PutTo C X t id C' X' ∧ RcX w1 w0 ((w4.setCell ⟨x, 0, none⟩ (.string id)).setCell ⟨x, 1, none⟩ (.int .i64 (t.size : Int))) K sb rb ti tl n N (m + 1) C' (L ++ [⟨L.length, true, id⟩]) X') := Lib.hid (by
    have hk := HPT.out.ok h.out.x
    have hl := h.out.len
    refine ⟨HPT.out, ⟨a' + 1, by have := HA.out; omega, ?_⟩, hk.1, by omega, by rw [List.length_append, List.length_singleton]; omega⟩
    rw [List.length_append, List.length_singleton]
    exact H0.back HB.out M4.out (by omega) HU.out)
  clear HU HA HPT h H0 M4 M3
  go_wp2_with fail
  (try simp only [Exit.inBlock, Exit.then])
  refine bodyPost_ret (v := .tuple #[.agg #[.string id, .int .i64 (t.size : Int)], .int .i64 0]) ?_ rfl ⟨id, C', X', rfl, HG⟩
  rw [results_cell_tmp rfl]
  go_simp
end
inductive KpAll (C : List Ck) (X : List (Nat × ByteArray)) (L : List Lg) : List (List UInt8) → List Rf → List Ck → List (Nat × ByteArray) → List Lg → Prop
  | nil : KpAll C X L [] [] C X L
  | snoc {ps : List (List UInt8)} {R : List Rf} {C1 C2 : List Ck} {X1 X2 : List (Nat × ByteArray)} {L1 : List Lg} {p : List UInt8} {id : ByteArray} (h : KpAll C X L ps R C1 X1 L1) (g : PutTo C1 X1 (ofL p) id C2 X2) (hs : CSrt C2) : KpAll C X L (ps ++ [p]) (R ++ [(id, ((ofL p).size : Int))]) C2 X2 (L1 ++ [⟨L1.length, true, id⟩])
theorem KpAll.len {C C' : List Ck} {X X' : List (Nat × ByteArray)} {L L' : List Lg} {ps : List (List UInt8)} {R : List Rf} (h : KpAll C X L ps R C' X' L') : R.length = ps.length ∧ L'.length = L.length + ps.length := by
  induction h with
  | nil => simp
  | snoc h g hs ih => simp [ih.1, ih.2]; omega
theorem RSt.updN {w1 w w' : World} {K F : Nat → Prop} {rb n m : Nat} {S : RS} (h : RSt w1 w K rb n m S) (hu : Upd F w w') (hF : ∀ k, F k → K k ∧ w1.heap.size ≤ k) : RSt w1 w' (fun k => K k ∨ (w.heap.size ≤ k ∧ k < w'.heap.size)) rb n m S := by
  obtain ⟨G, a, b, d, e⟩ := h
  refine ⟨G, a.frame hu fun k hk hf => (d k (hF k hf).1).2 hk, b, fun k hk => ?_, e.trans (hu.below e.size fun k hk hf => by have := (hF k hf).2; omega)⟩
  rcases hk with hk | hk
  · exact ⟨Nat.lt_of_lt_of_le (d k hk).1 hu.size, (d k hk).2⟩
  · exact ⟨hk.2, fun hg => by have := a.lt k hg; omega⟩
theorem Chs.updN {w1 w0 w w' : World} {K F : Nat → Prop} {sb rb ti tl n N a nx : Nat} {C : List Ck} {L : List Lg} {X : List (Nat × ByteArray)} (h : Chs w1 w0 w K sb rb ti tl n N a C L nx X) (hu : Upd F w w') (hF : ∀ k, F k → K k ∧ w1.heap.size ≤ k ∧ k ≠ sb ∧ k ≠ ti ∧ k ≠ tl) : Chs w1 w' w' (fun k => K k ∨ (w.heap.size ≤ k ∧ k < w'.heap.size)) sb rb ti tl n N a C L nx X := by
  obtain ⟨S, o0, o1, h1, h2⟩ := h
  have hs := h1.1.2
  refine ⟨S, o0, o1, ⟨⟨(h1.1.1.updN hu fun k hk => ⟨.inl (hF k hk).1, (hF k hk).2.1⟩).mono fun k hk => ?_, ?_, ?_, ?_⟩, fun _ _ => rfl⟩, h2⟩
  · rcases hk with (hk | hk) | hk
    · exact .inl (.inl hk)
    · exact .inr hk
    · exact .inl (.inr hk)
  · exact hu.at hs.1 fun hf => (hF _ hf).2.2.1 rfl
  · exact hu.at hs.2.1 fun hf => (hF _ hf).2.2.2.1 rfl
  · exact hu.at hs.2.2 fun hf => (hF _ hf).2.2.2.2 rfl
section
variable {w1 w0 w w' : World} {K K' F : Nat → Prop} {sb rb ti tl n N m : Nat} {C : List Ck} {L : List Lg} {X : List (Nat × ByteArray)}
theorem RcX.map {w1' w0' : World} {w' : World} {K' : Nat → Prop} (h : RcX w1 w0 w K sb rb ti tl n N m C L X) (f : ∀ a, Chs w1 w0 w K sb rb ti tl n N a C L L.length X → Chs w1' w0' w' K' sb rb ti tl n N a C L L.length X) : RcX w1' w0' w' K' sb rb ti tl n N m C L X := by
  obtain ⟨⟨a, h1, h2⟩, h3, h4⟩ := h
  exact ⟨⟨a, h1, f a h2⟩, h3, h4⟩
theorem RcX.mono (h : RcX w1 w0 w K sb rb ti tl n N m C L X) (hK : ∀ k, K' k → K k) : RcX w1 w0 w K' sb rb ti tl n N m C L X := h.map fun a g => g.mono hK
theorem RcX.below (h : RcX w1 w0 w K sb rb ti tl n N m C L X) (hb : Below w.heap.size w w') : RcX w1 w0 w' K sb rb ti tl n N m C L X := h.map fun a g => g.below hb
theorem RcX.updN (h : RcX w1 w0 w K sb rb ti tl n N m C L X) (hu : Upd F w w') (hF : ∀ k, F k → K k ∧ w1.heap.size ≤ k ∧ k ≠ sb ∧ k ≠ ti ∧ k ≠ tl) : RcX w1 w' w' (fun k => K k ∨ (w.heap.size ≤ k ∧ k < w'.heap.size)) sb rb ti tl n N m C L X := h.map fun a g => g.updN hu hF
theorem RcX.to {W : World} (h : RcX w1 w0 w K sb rb ti tl n N m C L X) (hk : Kept K W w0) : RcX w1 W w K sb rb ti tl n N m C L X := h.map fun a g => g.to hk
theorem RcX.kept (h : RcX w1 w0 w K sb rb ti tl n N m C L X) : Kept K w0 w := by obtain ⟨⟨a, h1, h2⟩, -⟩ := h; exact h2.kept
theorem RcX.klt (h : RcX w1 w0 w K sb rb ti tl n N m C L X) {k : Nat} (hk : K k) : k < w.heap.size := by obtain ⟨⟨a, h1, h2⟩, -⟩ := h; exact h2.klt hk
theorem RcX.bel (h : RcX w1 w0 w K sb rb ti tl n N m C L X) : Below w1.heap.size w1 w := by obtain ⟨⟨a, h1, h2⟩, -⟩ := h; exact h2.bel
theorem RcX.sbk (h : RcX w1 w0 w K sb rb ti tl n N m C L X) : SBk w sb rb ti tl := by obtain ⟨⟨a, h1, h2⟩, -⟩ := h; exact h2.sbk
theorem RcX.srt (h : RcX w1 w0 w K sb rb ti tl n N m C L X) : CSrt C := by obtain ⟨⟨a, h1, h2⟩, -⟩ := h; exact h2.ok.2.1
theorem RcX.keep (h : RcX w1 w0 w K sb rb ti tl n N m C L X) (hb : Below w.heap.size w w') : Kept K w w' := by obtain ⟨⟨a, h1, h2⟩, -⟩ := h; exact h2.keep hb
theorem RcX.new (h : RcX w1 w0 w K sb rb ti tl n N m C L X) (hb : Below w.heap.size w w') : RcX w1 w' w' (fun k => K k ∨ (w.heap.size ≤ k ∧ k < w'.heap.size)) sb rb ti tl n N m C L X :=
  h.updN (F := fun _ => False) ⟨hb.os, hb.tape, hb.output, hb.size, fun k hk _ => hb.block k hk⟩ fun _ h => h.elim
end
def BdR (w1 w : World) (K : Nat → Prop) (sb rb ti tl n N m : Nat) (C : List Ck) (L : List Lg) (X : List (Nat × ByteArray)) (P : List (List UInt8)) (vp : Value) (B k : Nat) (v : Value) (wr : World) : Prop :=
  ∃ R C' X' L', KpAll C X L (P.take k) R C' X' L' ∧ wr.ownsRow B 57 2 v k (rcells R) ∧ wr.ownsRow w.heap.size 9 1 vp P.length (partC P) ∧
    RcX w1 wr wr (fun j => (K j ∨ vp.ownBlock = some j) ∨ v.ownBlock = some j) sb rb ti tl n N (m + k) C' L' X' ∧ Kept K w wr ∧
    (w1.heap.size ≤ w.heap.size ∧ w.heap.size ≤ B ∧ (sb < w.heap.size ∧ ti < w.heap.size ∧ tl < w.heap.size)) ∧ (∀ j, K j → j < w.heap.size) ∧ ∀ j, vp.ownBlock = some j → j < B
section
variable {w1 w0 w wr w' w3 w4 : World} {K : Nat → Prop} {sb rb ti tl n N m k B : Nat} {C C' C2 : List Ck} {L L' : List Lg} {X X' X2 : List (Nat × ByteArray)} {P : List (List UInt8)} {vp v v' : Value}
theorem rcells_snoc (R : List Rf) (p : Rf) : rcells (R ++ [p]) = rcells R ++ [.string p.1, .int .i64 p.2] := by simp [rcells]
theorem BdR.start {w2 : World} (h : RcX w1 w0 w K sb rb ti tl n N m C L X) (hb : Below w.heap.size w w2) (ho : w2.ownsRow w.heap.size 9 1 vp P.length (partC P)) {g : Nat} (hg : vp.ownBlock = some g) (h3 : RcX w1 w2 w3 (fun j => K j ∨ vp.ownBlock = some j) sb rb ti tl n N m C L X) : BdR w1 w K sb rb ti tl n N m C L X P vp (g + 1) 0 (.slice none 0 0) w3 := by
  have hs := h.sbk
  refine ⟨[], C, X, L, by rw [List.take_zero]; exact .nil, World.ownsRow_nil _ _ _ _, h3.kept.row ho fun k e => .inr e, ?_, ?_, ⟨h.bel.size, by have := (ho.lt g hg).1; omega, lt_of_heap hs.1, lt_of_heap hs.2.1, lt_of_heap hs.2.2⟩, fun j hj => h.klt hj, fun j hj => by rw [hg] at hj; cases hj; omega⟩
  · refine (h3.mono (K' := fun j => (K j ∨ vp.ownBlock = some j) ∨ (Value.slice none 0 0).ownBlock = some j) ?_).map fun a g => g.reset
    rintro j (hj | hj)
    · exact hj
    · cases hj
  · exact (h.keep hb).trans (h3.kept.mono fun j hj => .inl hj)
theorem BdR.step {R : List Rf} {id : ByteArray} (hk : k < P.length) (hA : KpAll C X L (P.take k) R C' X' L') (ho : wr.ownsRow B 57 2 v k (rcells R)) (hp : wr.ownsRow w.heap.size 9 1 vp P.length (partC P))
    (hkp : Kept K w wr) (hl : w1.heap.size ≤ w.heap.size ∧ w.heap.size ≤ B ∧ (sb < w.heap.size ∧ ti < w.heap.size ∧ tl < w.heap.size)) (hK : ∀ j, K j → j < w.heap.size) (hvp : ∀ j, vp.ownBlock = some j → j < B)
    (hput : PutTo C' X' (ofL P[k]) id C2 X2) (h1 : RcX w1 wr w' (fun j => (K j ∨ vp.ownBlock = some j) ∨ v.ownBlock = some j) sb rb ti tl n N (m + k + 1) C2 (L' ++ [⟨L'.length, true, id⟩]) X2)
    (hb : Below w'.heap.size w' w3) (hg : w3.grownBy w4 v.ownBlock) (hv : v'.ownBlock = v.ownBlock ∨ v'.ownBlock = some w3.heap.size) (ho' : w4.ownsRow B 57 2 v' (k + 1) (rcells R ++ [.string id, .int .i64 ((ofL P[k]).size : Int)])) : BdR w1 w K sb rb ti tl n N m C L X P vp B (k + 1) v' w4 := by
  have hu : Upd (fun j => v.ownBlock = some j) w3 w4 := (Upd.refl _ _).grown hg fun j e => .inl e
  have hnew := h1.new hb
  have hlo : ∀ j, v.ownBlock = some j → B ≤ j := fun j e => (ho.lt j e).1
  have h2 := hnew.updN hu fun j e => by
    have := hlo j e
    exact ⟨.inl (.inr e), by omega, by omega, by omega, by omega⟩
  have k34 : Kept (fun j => K j ∨ vp.ownBlock = some j) w3 w4 := fun j hj => by
    refine hu.block j (hnew.klt (.inl (.inl hj))) fun e => ?_
    have := hlo j e
    rcases hj with hj | hj
    · have := hK j hj; omega
    · have := hvp j hj; omega
  have kr3 : Kept (fun j => K j ∨ vp.ownBlock = some j) wr w3 := (h1.kept.trans (h1.keep hb)).mono fun j hj => .inl hj
  have kr4 := kr3.trans k34
  refine ⟨R ++ [(id, ((ofL P[k]).size : Int))], C2, X2, L' ++ [⟨L'.length, true, id⟩], ?_, ?_, kr4.row hp fun j e => .inr e, ?_, hkp.trans (kr4.mono fun j hj => .inl hj), hl, hK, hvp⟩
  · rw [List.take_succ_eq_append_getElem hk]
    exact .snoc hA hput h1.srt
  · rw [rcells_snoc]; exact ho'
  · rw [show m + (k + 1) = m + k + 1 from rfl]
    refine h2.mono fun j hj => ?_
    rcases hj with hj | hj
    · exact .inl (.inl (.inl hj))
    · rcases hv with e | e
      · rw [e] at hj; exact .inl (.inl (.inr hj))
      · have := (ho'.lt j hj).2
        rw [e] at hj
        cases hj
        exact .inr ⟨Nat.le_refl _, this⟩
end
def BdEnd (w1 w : World) (K : Nat → Prop) (sb rb ti tl n N m : Nat) (C : List Ck) (L : List Lg) (X : List (Nat × ByteArray)) (P : List (List UInt8)) (v : Value) (w' : World) : Prop :=
  ∃ R C' X' L', KpAll C X L P R C' X' L' ∧ w'.ownsRow w.heap.size 57 2 v P.length (rcells R) ∧ RcX w1 w' w' (fun j => K j ∨ v.ownBlock = some j) sb rb ti tl n N (m + P.length) C' L' X' ∧ Kept K w w'
theorem BdR.end_ {w1 w wr : World} {K : Nat → Prop} {sb rb ti tl n N m B : Nat} {C : List Ck} {L : List Lg} {X : List (Nat × ByteArray)} {P : List (List UInt8)} {vp v : Value} (h : BdR w1 w K sb rb ti tl n N m C L X P vp B P.length v wr) : BdEnd w1 w K sb rb ti tl n N m C L X P v wr := by
  obtain ⟨R, C', X', L', h1, h2, -, h3, h4, h5, -⟩ := h
  rw [List.take_length] at h1
  exact ⟨R, C', X', L', h1, own_le h2 h5.2.1, h3.mono fun j hj => hj.imp .inl id, h4⟩
set_option maxHeartbeats 4000000
section
variable (w1 w w0 : World) (K : Nat → Prop) (sb rb ti tl n N m : Nat) (C : List Ck) (L : List Lg) (X : List (Nat × ByteArray))
theorem rc_waits (h : Hid (RcX w1 w0 w K sb rb ti tl n N m C L X)) (hN : 3 * m ≤ N ∧ N ≤ 1000) (hm : m ≤ 250) :
    Calls Tryz.prog 54 #[.pointer (some ⟨sb, 0, none⟩)] w fun e w' => e = .returned (.tuple #[.int .i64 (L.length : Int), .int .i64 0]) ∧ Hid (RcX w1 w0 w' K sb rb ti tl n N m C L X) := by
  obtain ⟨⟨a, h1, h2⟩, h3, h4⟩ := h.out
  refine (Waits_k w1 w w0 K sb rb ti tl n N a L.length C L X (Lib.hid h2) (by omega) (by omega)).mono ?_
  rintro e w' ⟨rfl, hE⟩
  exact ⟨rfl, Lib.hid ⟨⟨a, h1, hE.out⟩, h3, h4⟩⟩
theorem rc_mark (h : Hid (RcX w1 w0 w K sb rb ti tl n N m C L X)) :
    ∃ k : Nat, Calls Tryz.prog 61 #[.pointer (some ⟨sb, 0, none⟩)] w fun e w' => e = .returned (.int .i64 (k : Int)) ∧ w = w' := by
  obtain ⟨⟨a, h1, h2⟩, h3, h4⟩ := h.out
  exact Mark_k w1 w w0 K sb rb ti tl n N a L.length C L X (Lib.hid h2)
theorem Build_k (t : ByteArray) (h : Hid (RcX w1 w0 w K sb rb ti tl n N m C L X)) (ht : t.size ≤ 100000) (hP : m + (cutT t.data.toList).length ≤ 250) (hN : 3 * (m + (cutT t.data.toList).length) ≤ N ∧ N ≤ 1000) :
    Calls Tryz.prog 24 #[.pointer (some ⟨sb, 0, none⟩), .string t] w fun e w' => ∃ v, e = .returned (.tuple #[v, .int .i64 0]) ∧ Hid (BdEnd w1 w K sb rb ti tl n N m C L X (cutT t.data.toList) v w') := by
  have CT := CutText_c t w ht
  have HPT := Lib.hid (cutT_ok t.data.toList).1
  obtain ⟨P, hPP⟩ : ∃ P, cutT t.data.toList = P := ⟨_, rfl⟩
  rw [hPP] at CT HPT hP hN ⊢
  have HM := Lib.hid hP
  have HN := Lib.hid hN
  clear ht hPP hP hN
  obtain ⟨jR, hjR, hR0, hR1, hR2⟩ := info_parts infoR
  go_enter Tryz.func24, Tryz.ntmps24
  go_wp2_with fail
  refine CT.mono ?_
  rintro e w2 ⟨vp, rfl, HC⟩
  clear CT
  have HO := Lib.hid HC.out.1
  have HB := Lib.hid HC.out.2
  clear HC
  obtain ⟨va, vc, rfl⟩ : ∃ va vc, vp = .slice va P.length vc := by
    rcases HO.out.2 with ⟨rfl, h0⟩ | ⟨g, cap, cur, rfl, -⟩
    · exact ⟨_, _, by rw [h0]⟩
    · exact ⟨_, _, rfl⟩
  have d1 : decide ((P.length : Int) > 4000) = false := decide_eq_false (by have := HM.out; omega)
  by_cases h0 : P.length = 0
  · obtain rfl : P = [] := List.length_eq_zero_iff.1 h0
    have M2 : Hid (RcX w1 w2 w2 K sb rb ti tl n N m C L X) := Lib.hid ((h.out.new HB.out).mono fun j hj => .inl hj)
    have WT := rc_waits w1 w2 w2 K sb rb ti tl n N m C L X M2 (by have := HN.out; simp at this; omega) (by have := HM.out; simp at this; omega)
    have HE : Hid (∀ w3, Hid (RcX w1 w2 w3 K sb rb ti tl n N m C L X) → BdEnd w1 w K sb rb ti tl n N m C L X [] (.slice none 0 0) w3) := Lib.hid fun w3 h3 =>
      ⟨[], C, X, L, .nil, World.ownsRow_nil _ _ _ _, (h3.out.map fun a g => g.reset).mono fun j hj => hj.elim id fun e => (by cases e), (h.out.keep HB.out).trans h3.out.kept⟩
    clear HO M2 h HPT
    go_wp2_with fail
    refine WT.mono ?_
    rintro e w3 ⟨rfl, H3⟩
    clear WT
    go_wp2_with fail
    go_ret2
    exact ⟨_, rfl, Lib.hid (HE.out _ H3)⟩
  · have hne : ((P.length : Int) == 0) = false := by simp only [beq_eq_false_iff_ne, ne_eq]; omega
    have M2 : Hid (RcX w1 w2 w2 (fun j => K j ∨ (Value.slice va P.length vc).ownBlock = some j) sb rb ti tl n N m C L X) := Lib.hid ((h.out.new HB.out).mono fun j hj => hj.imp id fun e => HO.out.lt j e)
    obtain ⟨g0, hg0⟩ : ∃ g0, (Value.slice va P.length vc).ownBlock = some g0 := by
      rcases HO.out.2 with ⟨e, e0⟩ | ⟨g, cap, cur, e, -⟩
      · exact absurd e0 h0
      · exact ⟨g, by rw [e]; rfl⟩
    obtain ⟨mk, MK⟩ := rc_mark w1 w2 w2 _ sb rb ti tl n N m C L X M2
    have B0 : Hid (BdR w1 w K sb rb ti tl n N m C L X P (.slice va P.length vc) (g0 + 1) 0 (.slice none 0 0) w2) := Lib.hid (BdR.start h.out HB.out HO.out hg0 M2.out)
    have HG0 := Lib.hid hg0
    clear HO M2 h0 hg0
    go_wp2_with fail
    refine MK.mono ?_
    rintro e w3 ⟨rfl, rfl⟩
    clear MK
    go_wp2_with fail
    go_loopg [12, 43] P.length (fun g s12 s43 wr => ∃ (k : Nat) (v : Value), g = P.length - k ∧ k ≤ P.length ∧ s43 = .int .i64 (k : Int) ∧ v = s12 ∧ Hid (BdR w1 w K sb rb ti tl n N m C L X P (.slice va P.length vc) (g0 + 1) k v wr))
    case atStart => exact ⟨0, _, rfl, Nat.zero_le _, rfl, rfl, B0⟩
    case round =>
      obtain ⟨k, v, rfl, hk, rfl, rfl, HR⟩ := hrel
      clear B0
      by_cases hlt : k < P.length
      · obtain ⟨R, C', X', L', x1, x2, x3, x4, x5, x6, x7, x8⟩ := HR.out
        have hpk := HPT.out P[k] (List.getElem_mem hlt)
        obtain ⟨g, rfl⟩ : ∃ g, va = some ⟨g, 0, none⟩ := by
          rcases x3.2 with ⟨e, h0⟩ | ⟨g, cap, cur, e, -⟩
          · omega
          · cases e; exact ⟨g, rfl⟩
        have c0 := x3.cells rfl k (.string (ofL P[k])) (by unfold partC; simp [hlt])
        rw [addr_add2, Nat.zero_add] at c0
        have KP := Keep_k w1 wr wr _ sb rb ti tl n N (m + k) C' L' X' (ofL P[k]) (Lib.hid x4) (by have := HN.out; omega) (by have := HM.out; omega) hpk.1 hpk.2
        have STEP : Hid (∀ id C2 X2 w' w3 w4 v', PutTo C' X' (ofL P[k]) id C2 X2 → RcX w1 wr w' (fun j => (K j ∨ (Value.slice (some ⟨g, 0, none⟩) P.length vc).ownBlock = some j) ∨ v.ownBlock = some j) sb rb ti tl n N (m + k + 1) C2 (L' ++ [⟨L'.length, true, id⟩]) X2 → Below w'.heap.size w' w3 → w3.grownBy w4 v.ownBlock → (v'.ownBlock = v.ownBlock ∨ v'.ownBlock = some w3.heap.size) → w4.ownsRow (g0 + 1) 57 2 v' (k + 1) (rcells R ++ [.string id, .int .i64 ((ofL P[k]).size : Int)]) → BdR w1 w K sb rb ti tl n N m C L X P (.slice (some ⟨g, 0, none⟩) P.length vc) (g0 + 1) (k + 1) v' w4) := Lib.hid fun id C2 X2 w' w3 w4 v' a1 a2 a3 a4 a5 a6 => BdR.step hlt x1 x2 x3 x5 x6 x7 x8 a1 a2 a3 a4 a5 a6
        have HRR : Hid (∀ w', Hid (RcX w1 wr w' (fun j => (K j ∨ (Value.slice (some ⟨g, 0, none⟩) P.length vc).ownBlock = some j) ∨ v.ownBlock = some j) sb rb ti tl n N (m + k + 1) C' L' X') → True) := Lib.hid fun _ _ => trivial
        have OWN : Hid (∀ w', Kept (fun j => (K j ∨ (Value.slice (some ⟨g, 0, none⟩) P.length vc).ownBlock = some j) ∨ v.ownBlock = some j) wr w' → w'.ownsRow (g0 + 1) 57 2 v k (rcells R)) := Lib.hid fun w' h => h.row x2 fun j e => .inr e
        clear x1 x2 x3 x4 x5 x6 x7 x8 HR hpk HRR
        generalize ofL P[k] = p at *
        go_wp2_with fail
        refine KP.mono ?_
        rintro e w4 ⟨id, C2, X2, rfl, HK⟩
        clear KP
        have H5 : Hid (Below w4.heap.size w4 (w4.alloc (.cells #[.string id, .int .i64 (p.size : Int)] 57))) := Lib.hid ((Below.refl _ _).alloc (Nat.le_refl _) _)
        have HO5 : Hid ((w4.alloc (.cells #[.string id, .int .i64 (p.size : Int)] 57)).ownsRow (g0 + 1) 57 2 v k (rcells R)) := Lib.hid ((OWN.out _ HK.out.2.kept).alloc _)
        have HZ : Hid (g0 + 1 ≤ w4.heap.size) := Lib.hid (HK.out.2.klt (.inl (.inr HG0.out)))
        have HB5 : Hid (∀ o, g0 + 1 ≤ ((w4.alloc (.cells #[.string id, .int .i64 (p.size : Int)] 57)).alloc o).heap.size) := Lib.hid fun o => by have := HZ.out; simp; omega
        have L1 := Lib.hid (show k + 1 ≤ maxLen ∧ (k + 1) * 24 ≤ 140737488355328 from ⟨Nat.le_trans (by have := HM.out; omega : k + 1 ≤ 1000000) (by decide), by have := HM.out; omega⟩)
        have HST : Hid (∀ o w5 v', (((w4.alloc (.cells #[.string id, .int .i64 (p.size : Int)] 57)).alloc o).grownBy w5 v.ownBlock) → (v'.ownBlock = v.ownBlock ∨ v'.ownBlock = some ((w4.alloc (.cells #[.string id, .int .i64 (p.size : Int)] 57)).alloc o).heap.size) → w5.ownsRow (g0 + 1) 57 2 v' (k + 1) (rcells R ++ [.string id, .int .i64 (p.size : Int)]) → BdR w1 w K sb rb ti tl n N m C L X P (.slice (some ⟨g, 0, none⟩) P.length vc) (g0 + 1) (k + 1) v' w5) := Lib.hid fun o w5 v' a1 a2 a3 =>
          STEP.out id C2 X2 w4 _ w5 v' HK.out.1 HK.out.2 (H5.out.alloc (by simp) o) a1 a2 a3
        have HY : Hid (Yields ((w4.alloc (.cells #[.string id, .int .i64 (p.size : Int)] 57)).alloc (.cells #[.string id, .int .i64 (p.size : Int)] 57)) (.slice (some ⟨w4.heap.size + 1, 0, none⟩) 1 1) 1 [.string id, .int .i64 (p.size : Int)]) := Lib.hid (by
          have := yields_boxL (w4.alloc (.cells #[.string id, .int .i64 (p.size : Int)] 57)) #[.string id, .int .i64 (p.size : Int)] 57 1 1
          simpa using this)
        clear STEP OWN HK H5 HZ
        go_wp2_with (first
          | (refine chkA 46 46 ⟨_, _, by with_reducible rfl⟩ ?_
             refine wpList_append_y (by rfl) _ _ _ rfl (g0 + 1) 57 jR _ 2 24 Tryz.underlying46 hjR hR0 hR1 hR2 rfl (by decide) _ _ _ (by rfl) (HO5.out.alloc _) _ 1 _ (by rfl) HY.out rfl (one2 _ _ rfl rfl) L1.out.1 L1.out.2 (HB5.out _) ?_
             intro v5 W5 ho5 hg5 ha5
             have HN5 := Lib.hid (HST.out _ W5 v5 hg5 ha5 ho5)
             clear ho5 hg5 ha5))
        go_roundg (P.length - (k + 1))
        case measure => omega
        case rel => exact ⟨k + 1, _, rfl, by omega, congrArg (Value.int .i64) (wrap_up hlt (by have := HM.out; omega)), rfl, HN5⟩
      · obtain rfl : k = P.length := by omega
        have HE := Lib.hid HR.out.end_
        clear hlt hk
        go_wp2_with fail
        go_ret2
        exact ⟨_, rfl, HE⟩
end
set_option maxHeartbeats 2000000
theorem ownsRowF_of2 {w w' : World} {base : Nat} {e : TypeId} {s : Nat} {v : Value} {n : Nat} {xs : List Value} (h : w.ownsRowF base e s v n xs) (hk : ∀ k, v.ownBlock = some k → w'.heap[k]? = w.heap[k]?) : w'.ownsRowF base e s v n xs := by
  refine ⟨h.1, ?_⟩
  rcases h.2 with hn | ⟨g, cap, cur, fz, rfl, hb, hg, r⟩
  · exact .inl hn
  · exact .inr ⟨g, cap, cur, fz, rfl, hb, (hk g rfl).trans hg, r⟩
theorem ownsRowF_lt {w : World} {base : Nat} {e : TypeId} {s : Nat} {v : Value} {n : Nat} {xs : List Value} (h : w.ownsRowF base e s v n xs) {k : Nat} (hk : v.ownBlock = some k) : base ≤ k ∧ k < w.heap.size := by
  rcases h.2 with ⟨rfl, hn⟩ | ⟨g, cap, cur, fz, rfl, hb, hg, r⟩
  · cases hk
  · cases hk
    exact ⟨hb, lt_of_heap hg⟩
theorem infoU8 : (Tryz.prog.info? 5).map (fun i => (i.zero, i.size, i.bytes)) = some (some (.int .u8 0), 1, 1) := by kernel_rfl
theorem run_app (w : World) (base : Nat) (v : Value) (n : Nat) (xs : List Value) (ty : TypeId) (hown : w.ownsRowF base 5 1 v n xs) (s : ByteArray) (hn : n + s.size ≤ 100000000000) (hbase : base ≤ w.heap.size) :
    ∃ v' w', (Builtin.append_ #[91, 9] ty #[v, .string s]).run Tryz.prog w = .ok v' w' ∧ w'.ownsRowF base 5 1 v' (n + s.size) (xs ++ Lib.strCells s) ∧ w.grownBy w' v.ownBlock ∧ (v'.ownBlock = v.ownBlock ∨ ∀ k, v'.ownBlock = some k → w.heap.size ≤ k) := by
  obtain ⟨i, hi, hz, h1, h2⟩ := info_parts infoU8
  have hm : n + s.size ≤ maxLen := Nat.le_trans hn (by decide)
  have LAW := fun b (hb : b ≤ w.heap.size) (ho : w.ownsRowF b 5 1 v n xs) => Lib.run_append_own_stringF (P := Tryz.prog) w b 91 9 ty 5 i Tryz.underlying91 Tryz.underlying9 hi hz h1 h2 v n xs ho s hm (by omega) hb
  obtain ⟨v', w', a1, a2, a3, -⟩ := LAW base hbase hown
  refine ⟨v', w', a1, a2, a3, ?_⟩
  rcases hown.2 with ⟨rfl, rfl⟩ | ⟨g, cap, cur, fz, rfl, hbg, hg, hfz, hnc, hcm, hcs, htake⟩
  · obtain ⟨v2, w2, b1, b2, -⟩ := LAW w.heap.size (Nat.le_refl _) ⟨hown.1, .inl ⟨rfl, rfl⟩⟩
    rw [a1] at b1
    injection b1 with e1 e2
    subst e1
    exact .inr fun k hk => (ownsRowF_lt b2 hk).1
  · have hxl : xs.length = n := by simpa using hown.1
    have hsm : maxLen = 9223372036854775807 := by decide
    by_cases hroom : n + s.size ≤ cap
    · have hcs' : cur.size = cap := by simpa using hcs
      have hr := Lib.run_append_room_stringF (P := Tryz.prog) w 91 9 ty 5 i Tryz.underlying91 Tryz.underlying9 hi h1 g n cap cur fz hg (by simpa using hfz) s hroom (by omega)
      rw [a1] at hr
      injection hr with e1 e2
      subst e1
      exact .inl rfl
    · have holds : ∀ j u, xs[j]? = some u → w.cell? ((⟨g, 0, none⟩ : Addr).add j) = some u := hown.cells (g := g) rfl
      have hr := Lib.run_append_grow_string (P := Tryz.prog) w 91 9 ty 5 i (.int .u8 0) Tryz.underlying91 Tryz.underlying9 hi hz ⟨g, 0, none⟩ n cap xs (by rw [h1]; simpa using hxl) holds s (by omega) (by omega) (by rw [h2]; exact growslice_fits (by omega) (by omega))
      rw [a1] at hr
      injection hr with e1 e2
      subst e1
      exact .inr fun k hk => by cases hk; exact Nat.le_refl _
theorem wpList_app {w : World} {ops : Array Oper} {rest : List Oper} {o : Oper} {a : Act} {Q : Exit → Act → World → Prop} (hgd : o.guard = none) (sl x : Operand)
    (ho : o.op = .call { callee := .builtin .append, args := #[sl, x], argTypes := #[91, 9] }) (base : Nat) (v : Value) (n : Nat) (xs : List Value) (hs : a.eval sl = v) (hown : w.ownsRowF base 5 1 v n xs) (s : ByteArray) (hx : a.eval x = .string s)
    (hn : n + s.size ≤ 100000000000) (hbase : base ≤ w.heap.size)
    (h : ∀ v' w', w'.ownsRowF base 5 1 v' (n + s.size) (xs ++ Lib.strCells s) → w.grownBy w' v.ownBlock → (v'.ownBlock = v.ownBlock ∨ ∀ k, v'.ownBlock = some k → w.heap.size ≤ k) → wpList Tryz.prog ops Q rest (a.put o.dst v') w') : wpList Tryz.prog ops Q (o :: rest) a w := by
  refine wpList_plain hgd fun K hK => ?_
  obtain ⟨v', w', hr, h2, h3, h4⟩ := run_app w base v n xs o.type hown s hn hbase
  unfold Oper.wp execOp
  simp only [ho, resolve, invoke, builtin, Sem.run_bind, Sem.run_pure, Result.andThen_ok, List.map_toArray, List.map_cons, List.map_nil, hs, hx, hr]
  exact hK _ _ (h v' w' h2 h3 h4)
def BdS (W : World) (b : Nat) (l : List UInt8) (v : Value) : Prop :=
  (∃ p, (p = .pointer none ∨ p = .pointer (some ⟨b, 0, none⟩)) ∧ W.heap[b]? = some (.cells #[p, v] 156 (0, 0))) ∧ W.ownsRowF (b + 1) 5 1 v l.length (Lib.byteCells l)
theorem check_c (W : World) (b : Nat) (l : List UInt8) (v : Value) (h : BdS W b l v) :
    Calls Tryz.prog 140 #[.pointer (some ⟨b, 0, none⟩)] W fun e w' => e = .returned (.tuple #[]) ∧ (w'.heap[b]? = some (.cells #[.pointer (some ⟨b, 0, none⟩), v] 156 (0, 0)) ∧ w'.ownsRowF (b + 1) 5 1 v l.length (Lib.byteCells l) ∧ Upd (fun k => k = b) W w') := by
  obtain ⟨⟨p, rfl | rfl, hb⟩, ho⟩ := h
  · refine (Any.Builder_copyCheck_fresh Tryz.lays240 Tryz.Builder_X72_240 b W (cell_lit hb rfl) (by simp [World.shape?, hb]; rfl) (frozen_lit hb 0)).mono ?_
    rintro e w' ⟨rfl, rfl⟩
    refine ⟨rfl, heap_set_lit hb _, ownsRowF_of2 ho fun k hk => heap_set_ne _ fun e => ?_, (Upd.refl (fun k => k = b) W).setCell (p := ⟨b, 0, none⟩) (.inl rfl) _⟩
    have := (ownsRowF_lt ho hk).1
    omega
  · refine (Any.Builder_copyCheck_used Tryz.lays240 Tryz.Builder_X72_240 b W (cell_lit hb rfl)).mono ?_
    rintro e w' ⟨rfl, rfl⟩
    exact ⟨rfl, hb, ho, Upd.refl _ _⟩
theorem ownsRowF_form {w : World} {base : Nat} {e : TypeId} {s : Nat} {v : Value} {n : Nat} {xs : List Value} (h : w.ownsRowF base e s v n xs) : ∃ a m c, v = .slice a m c := by
  rcases h.2 with ⟨rfl, hn⟩ | ⟨g, cap, cur, fz, rfl, hb, hg, r⟩
  · exact ⟨_, _, _, rfl⟩
  · exact ⟨_, _, _, rfl⟩
theorem byteCells_str (S : ByteArray) (l : List UInt8) : Lib.byteCells l ++ Lib.strCells S = Lib.byteCells (l ++ S.data.toList) := by
  unfold Lib.byteCells
  rw [List.map_append]
  simp [Lib.strCells, Lib.byteCells, Lib.toList_data]
theorem WriteU_c (W : World) (b : Nat) (l : List UInt8) (v : Value) (S : ByteArray) (h : BdS W b l v) (hn : l.length + S.size ≤ 100000000000) :
    Calls Tryz.prog 82 #[.pointer (some ⟨b, 0, none⟩), .string S] W fun e w' => e = .returned (.tuple #[.int .i64 S.size, .nilIface]) ∧ Hid (∃ v', BdS w' b (l ++ S.data.toList) v' ∧ Upd (fun k => k = b ∨ v.ownBlock = some k) W w' ∧ (v'.ownBlock = v.ownBlock ∨ ∀ k, v'.ownBlock = some k → W.heap.size ≤ k)) := by
  have CC := check_c W b l v h
  have hlow : Hid (∀ k, v.ownBlock = some k → b + 1 ≤ k) := Lib.hid fun k hk => (ownsRowF_lt h.2 hk).1
  clear h
  go_enter Tryz.func82, Tryz.ntmps82
  go_wp2_with fail
  refine CC.mono ?_
  rintro e w1 ⟨rfl, hb, ho, hu⟩
  clear CC
  have hlt := lt_of_heap hb
  have hsz := hu.size
  have c1 : w1.cell? ⟨b, 1, none⟩ = some v := cell_lit hb rfl
  obtain ⟨va, vm, vc, rfl⟩ := ownsRowF_form ho
  have HE : Hid (∀ v' w2, w2.ownsRowF (b + 1) 5 1 v' (l.length + S.size) (Lib.byteCells l ++ Lib.strCells S) → w1.grownBy w2 (Value.slice va vm vc).ownBlock → (v'.ownBlock = (Value.slice va vm vc).ownBlock ∨ ∀ k, v'.ownBlock = some k → w1.heap.size ≤ k) →
      (w2.cell? ⟨b, 1, none⟩ = some (.slice va vm vc) ∧ w2.frozen? ⟨b, 1, none⟩ = false) ∧ Hid (∃ v0, BdS (w2.setCell ⟨b, 1, none⟩ v') b (l ++ S.data.toList) v0 ∧ Upd (fun k => k = b ∨ (Value.slice va vm vc).ownBlock = some k) W (w2.setCell ⟨b, 1, none⟩ v') ∧ (v0.ownBlock = (Value.slice va vm vc).ownBlock ∨ ∀ k, v0.ownBlock = some k → W.heap.size ≤ k))) := Lib.hid fun v' w2 g1 g2 g3 => by
    have hu2 : Upd (fun k => k = b ∨ (Value.slice va vm vc).ownBlock = some k) W w2 := (hu.mono fun k _ e => .inl e).grown g2 fun k e => .inl (.inr e)
    have hb2 : w2.heap[b]? = some (.cells #[.pointer (some ⟨b, 0, none⟩), .slice va vm vc] 156 (0, 0)) := by
      rw [g2.block b hlt fun e => by have := hlow.out b e.symm; omega]; exact hb
    refine ⟨⟨cell_lit hb2 rfl, frozen_lit hb2 1⟩, Lib.hid ⟨v', ⟨⟨_, .inr rfl, heap_set_lit hb2 v'⟩, ?_⟩, hu2.setCell (p := ⟨b, 1, none⟩) (.inl (.inl rfl)) v', g3.imp id fun h k hk => Nat.le_trans hsz (h k hk)⟩⟩
    rw [List.length_append, ← Lib.size_eq, ← byteCells_str]
    refine ownsRowF_of2 g1 fun k hk => heap_set_ne _ fun e => ?_
    have := (ownsRowF_lt g1 hk).1
    omega
  have HB : Hid (b + 1 ≤ w1.heap.size) := Lib.hid hlt
  have HO := Lib.hid ho
  clear ho hu hb hlow hsz
  go_wp2_with (first
    | (refine chkA 91 9 ⟨_, _, by with_reducible rfl⟩ ?_
       refine wpList_app (by rfl) _ _ rfl (b + 1) _ _ _ (by rfl) HO.out S (by rfl) hn HB.out ?_
       intro v5 W5 ho5 hg5 ha5
       obtain ⟨a5, m5, c5, rfl⟩ := ownsRowF_form ho5
       obtain ⟨⟨k1, k2⟩, HN5⟩ := HE.out _ W5 ho5 hg5 ha5
       clear ho5 hg5 ha5))
  go_ret2
  exact ⟨rfl, HN5⟩
set_option maxHeartbeats 4000000
def BtS (w1 w : World) (K : Nat → Prop) (sb rb ti tl n N m : Nat) (C : List Ck) (L : List Lg) (X : List (Nat × ByteArray)) (ys bb : Nat) (out : List UInt8) (W : World) : Prop :=
  ∃ v, W.heap[ys]? = some (.cells #[.pointer (some ⟨sb, 0, none⟩)] 28 (0, 0)) ∧ BdS W bb out v ∧ RcX w1 W W (fun j => ((K j ∨ j = ys) ∨ j = bb) ∨ v.ownBlock = some j) sb rb ti tl n N m C L X ∧ Kept K w W ∧
    (w.heap.size ≤ ys ∧ ys < bb ∧ w1.heap.size ≤ w.heap.size ∧ sb < w.heap.size ∧ ti < w.heap.size ∧ tl < w.heap.size) ∧ (∀ j, K j → j < w.heap.size) ∧ (out = [] → v = .slice none 0 0)
section
variable {w1 w0 w W W2 w3 w4 : World} {K : Nat → Prop} {sb rb ti tl n N m ys bb : Nat} {C : List Ck} {L : List Lg} {X : List (Nat × ByteArray)} {out : List UInt8}
theorem rc_get (h : Hid (RcX w1 w0 w K sb rb ti tl n N m C L X)) (hN : 3 * m ≤ N ∧ N ≤ 1000) (id : ByteArray) (hi : id.size ≤ 96) (c : Ck) (hc : cAt C id = some c) :
    Calls Tryz.prog 29 #[.pointer (some ⟨sb, 0, none⟩), .string id] w fun e w' => e = .returned (.tuple #[.string c.text, .int .i64 0]) ∧ Hid (RcX w1 w0 w' K sb rb ti tl n N m C L X) := by
  obtain ⟨⟨a, h1, h2⟩, h3, h4⟩ := h.out
  refine (Get_yes w1 w w0 K sb rb ti tl n N a L.length C L X id c (Lib.hid h2) (by omega) hi hc (h3 c (cAt_some hc).1)).mono ?_
  rintro e w' ⟨rfl, hE⟩
  exact ⟨rfl, Lib.hid ⟨⟨a, h1, hE.out⟩, h3, h4⟩⟩
theorem rc_get_no (h : Hid (RcX w1 w0 w K sb rb ti tl n N m C L X)) (hN : 3 * m ≤ N ∧ N ≤ 1000) (id : ByteArray) (hi : id.size ≤ 96) (hc : cAt C id = none) :
    Calls Tryz.prog 29 #[.pointer (some ⟨sb, 0, none⟩), .string id] w fun e w' => e = .returned (.tuple #[.string ⟨#[]⟩, .int .i64 6]) ∧ Hid (RcX w1 w0 w' K sb rb ti tl n N m C L X) := by
  obtain ⟨⟨a, h1, h2⟩, h3, h4⟩ := h.out
  refine (Get_no w1 w w0 K sb rb ti tl n N a L.length C L X id (Lib.hid h2) (by omega) hi hc).mono ?_
  rintro e w' ⟨rfl, hE⟩
  exact ⟨rfl, Lib.hid ⟨⟨a, h1, hE.out⟩, h3, h4⟩⟩
theorem BdS.of {W W' : World} {b : Nat} {l : List UInt8} {v : Value} (h : BdS W b l v) (h1 : W'.heap[b]? = W.heap[b]?) (h2 : ∀ k, v.ownBlock = some k → W'.heap[k]? = W.heap[k]?) : BdS W' b l v := by
  obtain ⟨⟨p, hp, hb⟩, ho⟩ := h
  exact ⟨⟨p, hp, h1.trans hb⟩, ownsRowF_of2 ho h2⟩
theorem BtS.below {W' : World} (h : BtS w1 w K sb rb ti tl n N m C L X ys bb out W) (hb : Below W.heap.size W W') : BtS w1 w K sb rb ti tl n N m C L X ys bb out W' := by
  obtain ⟨v, h1, h2, h3, h4, h5, h6, h7⟩ := h
  have hk := h3.keep hb
  exact ⟨v, (hk ys (.inl (.inl (.inr rfl)))).trans h1, h2.of (hk bb (.inl (.inr rfl))) fun k e => hk k (.inr e), ((h3.new hb).mono fun j hj => .inl hj), h4.trans (hk.mono fun j hj => .inl (.inl (.inl hj))), h5, h6, h7⟩
theorem BtS.step {v v' : Value} {S : List UInt8} (h1 : W.heap[ys]? = some (.cells #[.pointer (some ⟨sb, 0, none⟩)] 28 (0, 0))) (h2 : BdS W bb out v) (h3 : RcX w1 W W (fun j => ((K j ∨ j = ys) ∨ j = bb) ∨ v.ownBlock = some j) sb rb ti tl n N m C L X) (h4 : Kept K w W)
    (h5 : w.heap.size ≤ ys ∧ ys < bb ∧ w1.heap.size ≤ w.heap.size ∧ sb < w.heap.size ∧ ti < w.heap.size ∧ tl < w.heap.size) (h6 : ∀ j, K j → j < w.heap.size)
    (g2 : BdS w4 bb (out ++ S) v') (hu : Upd (fun k => k = bb ∨ v.ownBlock = some k) W w4) (hv : v'.ownBlock = v.ownBlock ∨ ∀ k, v'.ownBlock = some k → W.heap.size ≤ k) (hS : S ≠ []) : BtS w1 w K sb rb ti tl n N m C L X ys bb (out ++ S) w4 := by
  have hlo : ∀ k, v.ownBlock = some k → bb + 1 ≤ k := fun k e => (ownsRowF_lt h2.2 e).1
  have hF : ∀ k, (k = bb ∨ v.ownBlock = some k) → bb ≤ k := fun k e => e.elim (fun e => by omega) fun e => by have := hlo k e; omega
  have hn := h3.updN hu fun k e => by
    have := hF k e
    refine ⟨?_, by omega, by omega, by omega, by omega⟩
    rcases e with e | e
    · exact .inl (.inr e)
    · exact .inr e
  have ky : w4.heap[ys]? = W.heap[ys]? := hu.block ys (lt_of_heap h1) fun e => by have := hF ys e; omega
  have kk : Kept K W w4 := fun k hk => hu.block k (h3.klt (.inl (.inl (.inl hk)))) fun e => by have := hF k e; have := h6 k hk; omega
  refine ⟨v', ky.trans h1, g2, hn.mono fun j hj => ?_, h4.trans kk, h5, h6, fun e => absurd (List.append_eq_nil_iff.1 e).2 hS⟩
  rcases hj with hj | hj
  · exact .inl (.inl hj)
  · rcases hv with e | e
    · rw [e] at hj; exact .inl (.inr hj)
    · exact .inr ⟨e j hj, (ownsRowF_lt g2.2 hj).2⟩
end
theorem piece_yes (w1 w W : World) (K : Nat → Prop) (sb rb ti tl n N m ys bb : Nat) (C : List Ck) (L : List Lg) (X : List (Nat × ByteArray)) (out : List UInt8) (id : ByteArray) (c : Ck) (a b : Nat) (h : BtS w1 w K sb rb ti tl n N m C L X ys bb out W) (hN : 3 * m ≤ N ∧ N ≤ 1000) (hi : id.size ≤ 96) (hc : cAt C id = some c) (hs : c.text.size ≤ 128) (hab : a < b ∧ b ≤ c.text.size) (ho : out.length ≤ 1000000) :
    Calls Tryz.prog 81 #[.agg #[.string id, .int .i64 (c.text.size : Int)], .int .i64 (a : Int), .int .i64 (b : Int), .pointer (some ⟨ys, 0, none⟩), .pointer (some ⟨bb, 0, none⟩)] W fun e w' => e = .returned (.int .i64 0) ∧ Hid (BtS w1 w K sb rb ti tl n N m C L X ys bb (out ++ (c.text.extract a b).data.toList) w') := by
  obtain ⟨v, h1, h2, h3, h4, h5, h6, h7⟩ := h
  have hly := lt_of_heap h1
  have c0 : W.cell? ⟨ys, 0, none⟩ = some (.pointer (some ⟨sb, 0, none⟩)) := cell_lit h1 rfl
  have hb : Below W.heap.size W (W.alloc (.cells #[.string id, .int .i64 (c.text.size : Int)] 57)) := (Below.refl _ _).alloc (Nat.le_refl _) _
  have hn := h3.new hb
  have GT := rc_get (Lib.hid hn) hN id hi c hc
  have HT : Hid (∀ w3, RcX w1 (W.alloc (.cells #[.string id, .int .i64 (c.text.size : Int)] 57)) w3 (fun k => (((K k ∨ k = ys) ∨ k = bb) ∨ v.ownBlock = some k) ∨ (W.heap.size ≤ k ∧ k < (W.alloc (.cells #[.string id, .int .i64 (c.text.size : Int)] 57)).heap.size)) sb rb ti tl n N m C L X →
      (w3.cell? ⟨W.heap.size, 1, none⟩ = some (.int .i64 (c.text.size : Int))) ∧ Hid (Calls Tryz.prog 82 #[.pointer (some ⟨bb, 0, none⟩), .string (c.text.extract a b)] w3 fun e w' => e = .returned (.tuple #[.int .i64 (c.text.extract a b).size, .nilIface]) ∧ Hid (BtS w1 w K sb rb ti tl n N m C L X ys bb (out ++ (c.text.extract a b).data.toList) w'))) := Lib.hid fun w3 hr => by
    have kb := hr.kept
    have kw : ∀ j, (((K j ∨ j = ys) ∨ j = bb) ∨ v.ownBlock = some j) → w3.heap[j]? = W.heap[j]? := fun j hj => (kb j (.inl hj)).trans (hb.block j (h3.klt hj))
    refine ⟨cell_lit ((kb W.heap.size (.inr ⟨Nat.le_refl _, by simp⟩)).trans (heap_alloc_new _ _)) rfl, Lib.hid ?_⟩
    have hbd : BdS w3 bb out v := h2.of (kw bb (.inl (.inr rfl))) fun k e => kw k (.inr e)
    have hne : (c.text.extract a b).data.toList ≠ [] := fun e => by
      have := congrArg List.length e
      rw [← Lib.size_eq, ByteArray.size_extract] at this
      simp at this
      omega
    have he : (c.text.extract a b).size ≤ 128 := by rw [ByteArray.size_extract]; omega
    refine (WriteU_c w3 bb out v (c.text.extract a b) hbd (by omega)).mono ?_
    rintro e w4 ⟨rfl, hE⟩
    obtain ⟨v', e1, e2, e3⟩ := hE.out
    exact ⟨rfl, Lib.hid (BtS.step ((kw ys (.inl (.inl (.inr rfl)))).trans h1) hbd ((hr.map fun a g => g.reset).mono fun j hj => .inl hj) (h4.trans fun j hj => kw j (.inl (.inl (.inl hj)))) h5 h6 e1 e2 e3 hne)⟩
  have hab1 := Nat.le_of_lt hab.1
  have hab2 := hab.2
  obtain ⟨tx, htx⟩ : ∃ tx, c.text = tx := ⟨_, rfl⟩
  rw [htx] at GT HT hab2 ⊢
  clear h1 h2 h3 h4 h5 h6 h7 hb hn hc hab ho hs
  go_enter Tryz.func81, Tryz.ntmps81
  go_wp2_with fail
  refine GT.mono ?_
  rintro e w3 ⟨rfl, HR⟩
  obtain ⟨c1, WR⟩ := HT.out w3 HR.out
  have WR := WR.out
  clear GT HT HR
  go_wp2_with fail
  refine WR.mono ?_
  rintro e w4 ⟨rfl, hE⟩
  clear WR
  go_wp2_with fail
  go_ret
  exact ⟨rfl, hE⟩
theorem piece_no (w1 w W : World) (K : Nat → Prop) (sb rb ti tl n N m ys bb : Nat) (C : List Ck) (L : List Lg) (X : List (Nat × ByteArray)) (out : List UInt8) (id : ByteArray) (len a b : Int) (h : BtS w1 w K sb rb ti tl n N m C L X ys bb out W) (hN : 3 * m ≤ N ∧ N ≤ 1000) (hi : id.size ≤ 96) (hc : cAt C id = none ∨ ∃ c, cAt C id = some c ∧ (c.text.size : Int) ≠ len) :
    Calls Tryz.prog 81 #[.agg #[.string id, .int .i64 len], .int .i64 a, .int .i64 b, .pointer (some ⟨ys, 0, none⟩), .pointer (some ⟨bb, 0, none⟩)] W fun e w' => e = .returned (.int .i64 6) ∧ Hid (BtS w1 w K sb rb ti tl n N m C L X ys bb out w') := by
  obtain ⟨v, h1, h2, h3, h4, h5, h6, h7⟩ := h
  have hly := lt_of_heap h1
  have c0 : W.cell? ⟨ys, 0, none⟩ = some (.pointer (some ⟨sb, 0, none⟩)) := cell_lit h1 rfl
  have hb : Below W.heap.size W (W.alloc (.cells #[.string id, .int .i64 len] 57)) := (Below.refl _ _).alloc (Nat.le_refl _) _
  have hn := h3.new hb
  have HT : Hid (∀ w3, RcX w1 (W.alloc (.cells #[.string id, .int .i64 len] 57)) w3 (fun k => (((K k ∨ k = ys) ∨ k = bb) ∨ v.ownBlock = some k) ∨ (W.heap.size ≤ k ∧ k < (W.alloc (.cells #[.string id, .int .i64 len] 57)).heap.size)) sb rb ti tl n N m C L X →
      (w3.cell? ⟨W.heap.size, 1, none⟩ = some (.int .i64 len)) ∧ Hid (BtS w1 w K sb rb ti tl n N m C L X ys bb out w3)) := Lib.hid fun w3 hr => by
    have kb := hr.kept
    have kw : ∀ j, (((K j ∨ j = ys) ∨ j = bb) ∨ v.ownBlock = some j) → w3.heap[j]? = W.heap[j]? := fun j hj => (kb j (.inl hj)).trans (hb.block j (h3.klt hj))
    exact ⟨cell_lit ((kb W.heap.size (.inr ⟨Nat.le_refl _, by simp⟩)).trans (heap_alloc_new _ _)) rfl, Lib.hid ⟨v, (kw ys (.inl (.inl (.inr rfl)))).trans h1, h2.of (kw bb (.inl (.inr rfl))) fun k e => kw k (.inr e), (hr.map fun a g => g.reset).mono fun j hj => .inl hj, h4.trans fun j hj => kw j (.inl (.inl (.inl hj))), h5, h6, h7⟩⟩
  rcases hc with hc | ⟨c, hc, hne⟩
  · have GT := rc_get_no (Lib.hid hn) hN id hi hc
    clear h1 h2 h3 h4 h5 h6 h7 hb hn hc
    go_enter Tryz.func81, Tryz.ntmps81
    go_wp2_with fail
    refine GT.mono ?_
    rintro e w3 ⟨rfl, HR⟩
    obtain ⟨c1, BS⟩ := HT.out w3 HR.out
    clear GT HT HR
    go_wp2_with fail
    go_ret
    exact ⟨rfl, BS⟩
  · have GT := rc_get (Lib.hid hn) hN id hi c hc
    have hbn : ((c.text.size : Int) != len) = true := by simpa using hne
    generalize c.text = tx at *
    clear h1 h2 h3 h4 h5 h6 h7 hb hn hc hne
    go_enter Tryz.func81, Tryz.ntmps81
    go_wp2_with fail
    refine GT.mono ?_
    rintro e w3 ⟨rfl, HR⟩
    obtain ⟨c1, BS⟩ := HT.out w3 HR.out
    clear GT HT HR
    go_wp2_with fail
    go_ret
    exact ⟨rfl, BS⟩
set_option maxHeartbeats 2000000
theorem upd_freeze {S : Nat → Prop} {a w : World} (h : Upd S a w) {p : Addr} (hp : S p.block) (n : Nat) : Upd S a (w.freeze p n) := by
  refine h.trans ?_
  unfold World.freeze
  split
  · exact Upd.refl _ _
  · exact ⟨rfl, rfl, rfl, by simp, fun k hk hn => by
      simp only [Array.getElem?_modify]
      rw [if_neg (fun e : p.block = k => hn (by rw [← e]; exact hp))]⟩
theorem cellsU8 : Tryz.prog.cellsOf 5 = 1 := by kernel_rfl
theorem StringU_c (W : World) (b : Nat) (l : List UInt8) (v : Value) (h : BdS W b l v) (h0 : l = [] → v = .slice none 0 0) :
    Calls Tryz.prog 83 #[.pointer (some ⟨b, 0, none⟩)] W fun e w' => e = .returned (.string (ofL l)) ∧ Hid (Upd (fun k => v.ownBlock = some k) W w') := by
  obtain ⟨⟨p, hp, hb⟩, ho⟩ := h
  have mixed := Tryz.lays166.mixed
  by_cases hl : l = []
  · subst hl
    rw [h0 rfl] at hb ⊢
    have hUS : ∀ w q, (Builtin.unsafeString_ #[235, 3] 9 #[.pointer q, .int .i64 0]).run Tryz.prog w = .ok (.string .empty) w := fun w q => Lib.run_unsafeString_none w _ _ _ q
    have c1 : W.drew.cell? ⟨b, 1, none⟩ = some (.slice none 0 0) := cell_lit (w := W.drew) (i := 1) hb rfl
    have hSD : (Builtin.unsafeSliceData_ #[91] 235 #[.slice none 0 0]).run Tryz.prog W.drew = .ok (.pointer none) W.drew := rfl
    have HU : Hid (Upd (fun k => (Value.slice none 0 0).ownBlock = some k) W W.drew) := Lib.hid (Upd.refl _ _).drew
    clear ho hb hp h0
    go_enter Tryz.func83, Tryz.ntmps83
    go_wp2_with fail
    go_region_o
    all_goals (go_wp2_with fail; go_ret; exact ⟨rfl, HU⟩)
  · have hl0 : l.length ≠ 0 := by simpa using hl
    obtain ⟨g, cap, cur, fz, rfl, hbg, hg, hfz, hnc, hcm, hcs, htake⟩ : ∃ g cap cur fz, v = .slice (some ⟨g, 0, none⟩) l.length cap ∧ b + 1 ≤ g ∧ W.heap[g]? = some (.cells cur 5 fz) ∧ fz.2 ≤ l.length * 1 ∧ l.length ≤ cap ∧ cap ≤ maxLen ∧ cur.size = cap * 1 ∧ cur.toList.take (l.length * 1) = Lib.byteCells l := by
      rcases ho.2 with ⟨_, hz⟩ | ⟨g, cap, cur, fz, hv, r⟩
      · exact absurd hz hl0
      · exact ⟨g, cap, cur, fz, hv, r⟩
    have hsm : maxLen = 9223372036854775807 := by decide
    have c1 : W.drew.cell? ⟨b, 1, none⟩ = some (.slice (some ⟨g, 0, none⟩) l.length cap) := cell_lit (w := W.drew) (i := 1) hb rfl
    have hSD : (Builtin.unsafeSliceData_ #[91] 235 #[.slice (some ⟨g, 0, none⟩) l.length cap]).run Tryz.prog W.drew = .ok (.pointer (some ⟨g, 0, none⟩)) W.drew :=
      Lib.run_unsafeSliceData_row _ _ _ _ _ _ (by omega)
    have hUS : (Builtin.unsafeString_ #[235, 3] 9 #[.pointer (some ⟨g, 0, none⟩), .int .i64 l.length]).run Tryz.prog W.drew = .ok (.string ⟨l.toArray⟩) (W.drew.freeze ⟨g, 0, none⟩ l.length) := by
      refine Lib.run_unsafeString_row W.drew 235 3 9 5 Tryz.underlying235 cellsU8 g cur.size (by have hg' : W.drew.heap[g]? = some (.cells cur 5 fz) := hg; simp [World.shape?, hg']) l hl (by omega) (by omega) ?_
      intro j x hx
      have := ho.cells (g := g) rfl j (.int .u8 x.toNat) (by simp [Lib.byteCells, hx])
      exact this
    have HU : Hid (Upd (fun k => (Value.slice (some ⟨g, 0, none⟩) l.length cap).ownBlock = some k) W (W.drew.freeze ⟨g, 0, none⟩ l.length)) := Lib.hid (by
      have u0 : Upd (fun k => (Value.slice (some ⟨g, 0, none⟩) l.length cap).ownBlock = some k) W W.drew := (Upd.refl _ _).drew
      exact upd_freeze u0 (p := ⟨g, 0, none⟩) rfl _)
    clear ho hb hp h0 hbg hg hfz hnc hcm hcs htake hl hl0 hsm
    go_enter Tryz.func83, Tryz.ntmps83
    go_wp2_with fail
    go_region_o
    all_goals (go_wp2_with fail; go_ret; exact ⟨rfl, HU⟩)
set_option maxHeartbeats 4000000
def by1 (C : List Ck) (lo hi at_ : Int) (p : Rf) : Option (List UInt8) :=
  if pA lo at_ < pB hi at_ p.2 then
    (cAt C p.1).bind fun c => if (c.text.size : Int) = p.2 then some (c.text.extract (pA lo at_).toNat (pB hi at_ p.2).toNat).data.toList else none
  else some []
def byL (C : List Ck) (lo hi : Int) : Int → List Rf → Option (List UInt8)
  | _, [] => some []
  | at_, p :: r => (by1 C lo hi at_ p).bind fun x => (byL C lo hi (at_ + p.2) r).map fun y => x ++ y
theorem byL_snoc (C : List Ck) (lo hi : Int) : ∀ (l : List Rf) (at_ : Int) (p : Rf), byL C lo hi at_ (l ++ [p]) = (byL C lo hi at_ l).bind fun x => (by1 C lo hi (at_ + sumR l) p).map fun y => x ++ y
  | [], at_, p => by
    simp only [List.nil_append, byL, sumR, Int.add_zero]
    cases by1 C lo hi at_ p <;> simp
  | q :: r, at_, p => by
    simp only [List.cons_append, byL, sumR, byL_snoc C lo hi r]
    rw [Int.add_assoc]
    cases by1 C lo hi at_ q with
    | none => rfl
    | some x =>
      cases byL C lo hi (at_ + q.2) r with
      | none => rfl
      | some y =>
        simp only [Option.bind_some, Option.map_some]
        cases by1 C lo hi (at_ + (q.2 + sumR r)) p <;> simp
theorem byL_take {C : List Ck} {lo hi : Int} {l : List Rf} {k : Nat} (h : k < l.length) : byL C lo hi 0 (l.take (k + 1)) = (byL C lo hi 0 (l.take k)).bind fun x => (by1 C lo hi (atK l k) l[k]).map fun y => x ++ y := by
  rw [List.take_succ_eq_append_getElem h, byL_snoc, Int.zero_add]; rfl
theorem byL_none {C : List Ck} {lo hi : Int} {l : List Rf} : ∀ k, k ≤ l.length → byL C lo hi 0 (l.take k) = none → byL C lo hi 0 l = none := by
  have : ∀ d k, l.length - k = d → k ≤ l.length → byL C lo hi 0 (l.take k) = none → byL C lo hi 0 l = none := by
    intro d
    induction d with
    | zero =>
      intro k hd hk h
      rwa [show k = l.length by omega, List.take_length] at h
    | succ d ih =>
      intro k hd hk h
      have hlt : k < l.length := by omega
      refine ih (k + 1) (by omega) hlt ?_
      rw [byL_take hlt, h]; rfl
  exact fun k => this _ k rfl
def bytesL (C : List Ck) (l : List Rf) (frm n : Int) : ByteArray × Int :=
  if rightR l then match byL C (endsL (sumR l) frm n).1 (endsL (sumR l) frm n).2 0 l with
    | some out => (ofL out, 0)
    | none => (⟨#[]⟩, 6)
  else (⟨#[]⟩, 1)
theorem RefsAt.kept {w w' : World} {K : Nat → Prop} {v : Value} {l : List Rf} (h : RefsAt w v l) (hk : Kept K w w') (hv : ∀ b off n c, v = .slice (some ⟨b, off, none⟩) n c → K b) : RefsAt w' v l := by
  obtain ⟨⟨a, c, rfl, hc⟩, hn⟩ := h
  refine ⟨⟨a, c, rfl, fun k hk' => ?_⟩, hn⟩
  obtain ⟨b, off, e, h1, h2, h3⟩ := hc k hk'
  have hb : w'.heap[b]? = w.heap[b]? := hk b (hv b off _ c (by rw [e]))
  have e1 : w'.cell? ⟨b, off + k * 2, none⟩ = some (.string l[k].1) := by
    rw [← h1]; simp only [World.cell?, hb]
  have e2 : w'.cell? ⟨b, off + k * 2 + 1, none⟩ = some (.int .i64 l[k].2) := by
    rw [← h2]; simp only [World.cell?, hb]
  exact ⟨b, off, e, e1, e2, World.block_lt_of_cell? w' _ e1⟩
section
variable (w1 w w0 : World) (K : Nat → Prop) (sb rb ti tl n N m : Nat) (C : List Ck) (L : List Lg) (X : List (Nat × ByteArray))
theorem BtS.start {w2 w3 : World} (h : RcX w1 w0 w K sb rb ti tl n N m C L X) (hr : RcX w1 (w.alloc (.cells #[.pointer (some ⟨sb, 0, none⟩)] 28)) w2 (fun j => K j ∨ (w.heap.size ≤ j ∧ j < (w.alloc (.cells #[.pointer (some ⟨sb, 0, none⟩)] 28)).heap.size)) sb rb ti tl n N m C L X) (hb : Below w2.heap.size w2 w3) :
    BtS w1 w K sb rb ti tl n N m C L X w.heap.size w3.heap.size [] (w3.alloc (.cells #[.pointer none, .slice none 0 0] 156)) := by
  have hs := h.sbk
  have hb2 : Below w2.heap.size w2 (w3.alloc (.cells #[.pointer none, .slice none 0 0] 156)) := hb.alloc hb.size _
  have k1 : Kept (fun j => K j ∨ (w.heap.size ≤ j ∧ j < (w.alloc (.cells #[.pointer (some ⟨sb, 0, none⟩)] 28)).heap.size)) (w.alloc (.cells #[.pointer (some ⟨sb, 0, none⟩)] 28)) (w3.alloc (.cells #[.pointer none, .slice none 0 0] 156)) := hr.kept.trans (hr.keep hb2)
  have hy := hr.klt (k := w.heap.size) (.inr ⟨Nat.le_refl _, by simp⟩)
  have hsz := hb.size
  refine ⟨.slice none 0 0, (k1 _ (.inr ⟨Nat.le_refl _, by simp⟩)).trans (heap_alloc_new _ _), ⟨⟨_, .inl rfl, heap_alloc_new _ _⟩, World.ownsRowF_of (World.ownsRow_nil _ _ _ _)⟩, ?_, (h.keep ((Below.refl _ _).alloc (Nat.le_refl _) _)).trans (k1.mono fun j hj => .inl hj), ⟨Nat.le_refl _, by omega, h.bel.size, lt_of_heap hs.1, lt_of_heap hs.2.1, lt_of_heap hs.2.2⟩, fun j hj => h.klt hj, fun _ => rfl⟩
  refine (hr.new hb2).mono fun j hj => ?_
  rcases hj with ((hj | rfl) | rfl) | hj
  · exact .inl (.inl hj)
  · exact .inl (.inr ⟨Nat.le_refl _, by simp⟩)
  · exact .inr ⟨hsz, by simp⟩
  · cases hj
theorem asked_b (v : Value) (l : List Rf) (W : World) (ys bb : Nat) (hW : BtS w1 w K sb rb ti tl n N m C L X ys bb [] W) (hN : 3 * m ≤ N ∧ N ≤ 1000) (hC : ∀ c ∈ C, c.text.size ≤ 128) (hv : RefsAt w v l) (hvK : ∀ b off n c, v = .slice (some ⟨b, off, none⟩) n c → K b) (hr : rightR l = true) (frm num lo hi : Int) (h1 : -9223372036854775808 ≤ frm ∧ frm < 9223372036854775808) (h2 : -9223372036854775808 ≤ num ∧ num < 9223372036854775808) (hlo : (endsL (sumR l) frm num).1 = lo) (hhi : (endsL (sumR l) frm num).2 = hi) :
    Calls Tryz.prog 80 #[v, .int .i64 frm, .int .i64 num, .func (.func 81) #[] #[.pointer (some ⟨ys, 0, none⟩), .pointer (some ⟨bb, 0, none⟩)]] W fun e w' =>
      (e = .returned (.int .i64 0) ∧ ∃ out, byL C lo hi 0 l = some out ∧ BtS w1 w K sb rb ti tl n N m C L X ys bb out w') ∨ ∃ er, er ≠ 0 ∧ e = .returned (.int .i64 er) ∧ er = 6 ∧ byL C lo hi 0 l = none ∧ ∃ out, BtS w1 w K sb rb ti tl n N m C L X ys bb out w' := by
  have hrf : ∀ out W, BtS w1 w K sb rb ti tl n N m C L X ys bb out W → RefsAt W v l := fun out W h => by
    obtain ⟨v0, -, -, -, h4, -⟩ := h
    exact hv.kept h4 hvK
  have hrp := rightR_parts hr
  have := askedB_c v l W (hrf _ _ hW) hr frm num lo hi h1 h2 hlo hhi (.pointer (some ⟨ys, 0, none⟩)) (.pointer (some ⟨bb, 0, none⟩))
    (fun k W => ∃ out, byL C lo hi 0 (l.take k) = some out ∧ out.length ≤ 128 * k ∧ BtS w1 w K sb rb ti tl n N m C L X ys bb out W)
    (fun er W => er = 6 ∧ byL C lo hi 0 l = none ∧ ∃ out, BtS w1 w K sb rb ti tl n N m C L X ys bb out W)
    ⟨[], rfl, by simp, hW⟩ (fun k a b ⟨out, g1, g2, g3⟩ hb => ⟨out, g1, g2, g3.below hb⟩) (fun k a ⟨out, g1, g2, g3⟩ => hrf out a g3)
    (fun k hk a ⟨out, g1, g2, g3⟩ hn => ⟨out, by rw [byL_take hk, g1]; unfold by1; rw [if_neg hn]; simp, by omega, g3⟩)
    (fun k hk a ⟨out, g1, g2, g3⟩ hy => by
      have hp : rOk l[k] = true := (List.all_eq_true.1 hrp.1) _ (List.getElem_mem hk)
      simp only [rOk, Bool.and_eq_true, decide_eq_true_eq] at hp
      have hT := byL_take (C := C) (lo := lo) (hi := hi) hk
      rw [g1] at hT
      have hA : 0 ≤ pA lo (atK l k) := by unfold pA; omega
      have hB : pB hi (atK l k) l[k].2 ≤ l[k].2 := by unfold pB; omega
      have hlost : (cAt C l[k].1 = none ∨ ∃ c, cAt C l[k].1 = some c ∧ (c.text.size : Int) ≠ l[k].2) → by1 C lo hi (atK l k) l[k] = none := by
        intro h
        unfold by1
        rw [if_pos hy]
        rcases h with h | ⟨c, h, h'⟩
        · rw [h]; rfl
        · rw [h]; simp [h']
      have NO : (cAt C l[k].1 = none ∨ ∃ c, cAt C l[k].1 = some c ∧ (c.text.size : Int) ≠ l[k].2) → Calls Tryz.prog 81 #[.agg #[.string l[k].1, .int .i64 l[k].2], .int .i64 (pA lo (atK l k)), .int .i64 (pB hi (atK l k) l[k].2), .pointer (some ⟨ys, 0, none⟩), .pointer (some ⟨bb, 0, none⟩)] a fun e w' => (e = .returned (.int .i64 0) ∧ ∃ out, byL C lo hi 0 (l.take (k + 1)) = some out ∧ out.length ≤ 128 * (k + 1) ∧ BtS w1 w K sb rb ti tl n N m C L X ys bb out w') ∨ ∃ er, er ≠ 0 ∧ e = .returned (.int .i64 er) ∧ er = 6 ∧ byL C lo hi 0 l = none ∧ ∃ out, BtS w1 w K sb rb ti tl n N m C L X ys bb out w' := fun hc => by
        refine (piece_no w1 w a K sb rb ti tl n N m ys bb C L X out l[k].1 l[k].2 _ _ g3 hN (by omega) hc).mono ?_
        rintro e w' ⟨rfl, hE⟩
        refine .inr ⟨6, by decide, rfl, rfl, byL_none (k + 1) hk ?_, out, hE.out⟩
        rw [hT, hlost hc]; rfl
      cases hc : cAt C l[k].1 with
      | none => exact NO (.inl hc)
      | some c =>
        by_cases hs : (c.text.size : Int) = l[k].2
        · have hm := hC c (cAt_some hc).1
          obtain ⟨x, hx⟩ : ∃ x : Nat, pA lo (atK l k) = (x : Int) := ⟨(pA lo (atK l k)).toNat, by omega⟩
          obtain ⟨y, hy'⟩ : ∃ y : Nat, pB hi (atK l k) l[k].2 = (y : Int) := ⟨(pB hi (atK l k) l[k].2).toNat, by omega⟩
          have hb1 : by1 C lo hi (atK l k) l[k] = some (c.text.extract x y).data.toList := by
            unfold by1
            rw [if_pos hy, hc, hx, hy']
            simp [hs]
          rw [hx, hy'] at hy
          rw [hx, hy', ← hs]
          refine (piece_yes w1 w a K sb rb ti tl n N m ys bb C L X out l[k].1 c x y g3 hN (by omega) hc hm (by rw [hy', ← hs] at hB; omega) (by omega)).mono ?_
          rintro e w' ⟨rfl, hE⟩
          refine .inl ⟨rfl, out ++ (c.text.extract x y).data.toList, by rw [hT, hb1]; rfl, ?_, hE.out⟩
          rw [List.length_append, ← Lib.size_eq, ByteArray.size_extract]
          omega
        · exact NO (.inr ⟨c, hc, hs⟩))
  refine this.mono ?_
  rintro e w' (⟨rfl, out, g1, -, g3⟩ | h)
  · rw [List.take_length] at g1
    exact .inl ⟨rfl, out, g1, g3⟩
  · exact .inr h
theorem BtS.fin {w1 w w0 W w' : World} {K : Nat → Prop} {sb rb ti tl n N m ys bb : Nat} {C : List Ck} {L : List Lg} {X : List (Nat × ByteArray)} {out : List UInt8} (h : RcX w1 w0 w K sb rb ti tl n N m C L X) (hW : BtS w1 w K sb rb ti tl n N m C L X ys bb out W) (v : Value) (hb : BdS W bb out v) (h3 : RcX w1 W W (fun j => ((K j ∨ j = ys) ∨ j = bb) ∨ v.ownBlock = some j) sb rb ti tl n N m C L X) (hu : Upd (fun k => v.ownBlock = some k) W w') : RcX w1 w0 w' K sb rb ti tl n N m C L X := by
  obtain ⟨v0, -, -, -, h4, h5, h6, -⟩ := hW
  have hlo : ∀ k, v.ownBlock = some k → bb + 1 ≤ k := fun k e => (ownsRowF_lt hb.2 e).1
  have hn := h3.updN hu fun k e => by
    have := hlo k e
    exact ⟨.inr e, by omega, by omega, by omega, by omega⟩
  have kk : Kept K W w' := fun k hk => hu.block k (h3.klt (.inl (.inl (.inl hk)))) fun e => by have := hlo k e; have := h6 k hk; omega
  exact ((hn.mono (K' := K) fun j hj => .inl (.inl (.inl (.inl hj)))).to (h4.trans kk)).to h.kept
theorem Bytes_c (v : Value) (l : List Rf) (h : Hid (RcX w1 w0 w K sb rb ti tl n N m C L X)) (hN : 3 * m ≤ N ∧ N ≤ 1000) (hm : m ≤ 250) (hv : RefsAt w v l) (hvK : ∀ b off n c, v = .slice (some ⟨b, off, none⟩) n c → K b) (frm num : Int) (h1 : -9223372036854775808 ≤ frm ∧ frm < 9223372036854775808) (h2 : -9223372036854775808 ≤ num ∧ num < 9223372036854775808) :
    Calls Tryz.prog 27 #[.pointer (some ⟨sb, 0, none⟩), v, .int .i64 frm, .int .i64 num] w fun e w' => e = .returned (.tuple #[.string (bytesL C l frm num).1, .int .i64 (bytesL C l frm num).2]) ∧ Hid (RcX w1 w0 w' K sb rb ti tl n N m C L X) := by
  have hC : ∀ c ∈ C, c.text.size ≤ 128 := fun c hc => by
    obtain ⟨a, -, h2⟩ := h.out.ex
    exact (h2.ok.1 c hc).t2
  have HB0 : Hid (Below w.heap.size w (w.alloc (.cells #[.pointer (some ⟨sb, 0, none⟩)] 28))) := Lib.hid ((Below.refl _ _).alloc (Nat.le_refl _) _)
  have hn := h.out.new HB0.out
  have WT := rc_waits w1 _ _ _ sb rb ti tl n N m C L X (Lib.hid hn) hN hm
  have c0 : (w.alloc (.cells #[.pointer (some ⟨sb, 0, none⟩)] 28)).cell? ⟨w.heap.size, 0, none⟩ = some (.pointer (some ⟨sb, 0, none⟩)) := cell_lit (heap_alloc_new _ _) rfl
  have RC : Hid (∀ w2, RcX w1 (w.alloc (.cells #[.pointer (some ⟨sb, 0, none⟩)] 28)) w2 (fun j => K j ∨ (w.heap.size ≤ j ∧ j < (w.alloc (.cells #[.pointer (some ⟨sb, 0, none⟩)] 28)).heap.size)) sb rb ti tl n N m C L X → Calls Tryz.prog 42 #[v] w2 fun e w' => e = .returned (.bool (rightR l)) ∧ Below w2.heap.size w2 w') := Lib.hid fun w2 hr =>
    RightR_c v l w2 ((hv.below HB0.out).kept hr.kept fun b off n c e => .inl (hvK b off n c e))
  have FIN0 : Hid (∀ w2 w3, RcX w1 (w.alloc (.cells #[.pointer (some ⟨sb, 0, none⟩)] 28)) w2 (fun j => K j ∨ (w.heap.size ≤ j ∧ j < (w.alloc (.cells #[.pointer (some ⟨sb, 0, none⟩)] 28)).heap.size)) sb rb ti tl n N m C L X → Below w2.heap.size w2 w3 → RcX w1 w0 w3 K sb rb ti tl n N m C L X) := Lib.hid fun w2 w3 hr hb =>
    (((hr.below hb).mono fun j hj => .inl hj).to (h.out.keep HB0.out)).to h.out.kept
  cases hr : rightR l with
  | false =>
    rw [hr] at RC
    have HE := Lib.hid (show bytesL C l frm num = (⟨#[]⟩, 1) by unfold bytesL; rw [hr]; rfl)
    clear h hv hvK h1 h2 hr hC hn
    go_enter Tryz.func27, Tryz.ntmps27
    go_wp2_with fail
    refine WT.mono ?_
    rintro e w2 ⟨rfl, H2⟩
    have RC2 := RC.out w2 H2.out
    clear WT RC
    go_wp2_with fail
    refine RC2.mono ?_
    rintro e w3 ⟨rfl, HB3⟩
    have HG := Lib.hid (FIN0.out w2 w3 H2.out HB3)
    clear RC2 HB3 H2 FIN0
    go_wp2_with fail
    go_ret2
    exact ⟨by rw [HE.out]; rfl, HG⟩
  | true =>
    rw [hr] at RC
    obtain ⟨lo, hlo⟩ : ∃ lo, (endsL (sumR l) frm num).1 = lo := ⟨_, rfl⟩
    obtain ⟨hi, hhi⟩ : ∃ hi, (endsL (sumR l) frm num).2 = hi := ⟨_, rfl⟩
    have HE : Hid (∀ o, byL C lo hi 0 l = some o → bytesL C l frm num = (ofL o, 0)) := Lib.hid fun o ho => by unfold bytesL; rw [if_pos hr, hlo, hhi, ho]
    have HE6 : Hid (byL C lo hi 0 l = none → bytesL C l frm num = (⟨#[]⟩, 6)) := Lib.hid fun ho => by unfold bytesL; rw [if_pos hr, hlo, hhi, ho]
    have AK : Hid (∀ W bb, BtS w1 w K sb rb ti tl n N m C L X w.heap.size bb [] W → _) := Lib.hid fun W bb hW => asked_b w1 w K sb rb ti tl n N m C L X v l W w.heap.size bb hW hN hC hv hvK hr frm num lo hi h1 h2 hlo hhi
    have ST := Lib.hid fun w2 w3 hr hb => BtS.start w1 w w0 K sb rb ti tl n N m C L X (w2 := w2) (w3 := w3) h.out hr hb
    have FI6 : Hid (∀ W bb, (∃ out, BtS w1 w K sb rb ti tl n N m C L X w.heap.size bb out W) → RcX w1 w0 W K sb rb ti tl n N m C L X) := Lib.hid fun W bb ⟨out, hW⟩ => by
      obtain ⟨v0, -, -, g3, g4, -⟩ := hW
      exact ((g3.mono fun j hj => .inl (.inl (.inl hj))).to g4).to h.out.kept
    have FI0 : Hid (∀ W bb out, BtS w1 w K sb rb ti tl n N m C L X w.heap.size bb out W → Calls Tryz.prog 83 #[.pointer (some ⟨bb, 0, none⟩)] W fun e w' => e = .returned (.string (ofL out)) ∧ Hid (RcX w1 w0 w' K sb rb ti tl n N m C L X)) := Lib.hid fun W bb out hW => by
      have hW' := hW
      obtain ⟨v0, g1, g2, g3, g4, g5, g6, g7⟩ := hW
      refine (StringU_c W bb out v0 g2 g7).mono ?_
      rintro e w' ⟨rfl, hE⟩
      exact ⟨rfl, Lib.hid (BtS.fin h.out hW' v0 g2 g3 hE.out)⟩
    clear h hv hvK h1 h2 hr hC hn hlo hhi FIN0
    go_enter Tryz.func27, Tryz.ntmps27
    go_wp2_with fail
    refine WT.mono ?_
    rintro e w2 ⟨rfl, H2⟩
    have RC2 := RC.out w2 H2.out
    clear WT RC
    go_wp2_with fail
    refine RC2.mono ?_
    rintro e w3 ⟨rfl, HB3⟩
    have A3 := AK.out _ _ (ST.out w2 w3 H2.out HB3)
    clear RC2 HB3 H2 ST AK
    go_wp2_with fail
    refine A3.mono ?_
    rintro e w4 (⟨rfl, out, ho, hW⟩ | ⟨er, hne, rfl, rfl, ho, hW⟩)
    · have S4 := FI0.out w4 _ out hW
      have HEE := Lib.hid (HE.out _ ho)
      clear A3 FI0 FI6 HE HE6 hW ho
      go_wp2_with fail
      refine S4.mono ?_
      rintro e w5 ⟨rfl, H5⟩
      clear S4
      go_wp2_with fail
      go_ret2
      exact ⟨by rw [HEE.out]; rfl, H5⟩
    · have HG := Lib.hid (FI6.out w4 _ hW)
      have HEE := Lib.hid (HE6.out ho)
      clear A3 FI0 FI6 HE HE6 hW ho hne
      go_wp2_with fail
      go_ret2
      exact ⟨by rw [HEE.out]; rfl, HG⟩
end
set_option maxHeartbeats 1000000
def RefsOf (C : List Ck) : List (List UInt8) → List Rf → Prop
  | [], [] => True
  | p :: ps, r :: rs => (r.1.size = 33 ∧ r.2 = (p.length : Int) ∧ ∃ c, cAt C r.1 = some c ∧ c.text = ofL p) ∧ RefsOf C ps rs
  | _, _ => False
theorem RefsOf.snoc {C : List Ck} : ∀ {P : List (List UInt8)} {R : List Rf} {p : List UInt8} {r : Rf}, RefsOf C P R → (r.1.size = 33 ∧ r.2 = (p.length : Int) ∧ ∃ c, cAt C r.1 = some c ∧ c.text = ofL p) → RefsOf C (P ++ [p]) (R ++ [r])
  | [], [], _, _, _, h => ⟨h, trivial⟩
  | _ :: _, _ :: _, _, _, g, h => ⟨g.1, RefsOf.snoc g.2 h⟩
  | [], _ :: _, _, _, g, _ => g.elim
  | _ :: _, [], _, _, g, _ => g.elim
theorem RefsOf.mono {C C' : List Ck} (h : ∀ s c, cAt C s = some c → cAt C' s = some c) : ∀ {P : List (List UInt8)} {R : List Rf}, RefsOf C P R → RefsOf C' P R
  | [], [], _ => trivial
  | _ :: _, _ :: _, g => ⟨⟨g.1.1, g.1.2.1, by obtain ⟨c, h1, h2⟩ := g.1.2.2; exact ⟨c, h _ _ h1, h2⟩⟩, RefsOf.mono h g.2⟩
  | [], _ :: _, g => g.elim
  | _ :: _, [], g => g.elim
theorem PutTo.mono {C C' : List Ck} {X X' : List (Nat × ByteArray)} {t id : ByteArray} (h : PutTo C X t id C' X') (hs : CSrt C') : ∀ s c, cAt C s = some c → cAt C' s = some c := fun s c hc => by
  obtain ⟨h1, h2⟩ := cAt_some hc
  rw [← h2]
  exact h.stay hs h1
theorem KpAll.good {C C' : List Ck} {X X' : List (Nat × ByteArray)} {L L' : List Lg} {P : List (List UInt8)} {R : List Rf} (h : KpAll C X L P R C' X' L') : RefsOf C' P R ∧ ∀ s c, cAt C s = some c → cAt C' s = some c := by
  induction h with
  | nil => exact ⟨trivial, fun s c h => h⟩
  | snoc h g hs ih =>
    refine ⟨(ih.1.mono (g.mono hs)).snoc ⟨g.size, rfl, g.at hs⟩, fun s c hc => g.mono hs s c (ih.2 s c hc)⟩
theorem RefsOf.len {C : List Ck} : ∀ {P : List (List UInt8)} {R : List Rf}, RefsOf C P R → R.length = P.length
  | [], [], _ => rfl
  | _ :: _, _ :: _, g => by simp [RefsOf.len g.2]
  | [], _ :: _, g => g.elim
  | _ :: _, [], g => g.elim
theorem RefsOf.right {C : List Ck} : ∀ {P : List (List UInt8)} {R : List Rf}, RefsOf C P R → Parts P → R.all rOk = true
  | [], [], _, _ => rfl
  | p :: ps, r :: rs, g, h => by
    rw [List.all_cons, RefsOf.right g.2 fun q hq => h q (List.mem_cons_of_mem _ hq), Bool.and_true]
    have := h p (by simp)
    simp only [rOk, Bool.and_eq_true, decide_eq_true_eq]
    have h1 := g.1.1
    have h2 := g.1.2.1
    omega
  | [], _ :: _, g, _ => g.elim
  | _ :: _, [], g, _ => g.elim
theorem RefsOf.sum {C : List Ck} : ∀ {P : List (List UInt8)} {R : List Rf}, RefsOf C P R → sumR R = (P.flatten.length : Int)
  | [], [], _ => rfl
  | p :: ps, r :: rs, g => by
    simp only [sumR, List.flatten_cons, List.length_append, RefsOf.sum g.2, g.1.2.1]
    push_cast; rfl
  | [], _ :: _, g => g.elim
  | _ :: _, [], g => g.elim
theorem cut_app {α : Type} (p q : List α) (a b : Nat) (h : a ≤ b) : ((p ++ q).take b).drop a = (p.take b).drop a ++ (q.take (b - p.length)).drop (a - p.length) := by
  rw [List.take_append, List.drop_append, List.length_take]
  by_cases hb : b ≤ p.length
  · rw [show b - p.length = 0 by omega]; simp
  · rw [Nat.min_eq_right (by omega)]
theorem extract_list (p : List UInt8) (a b : Nat) : ((ofL p).extract a b).data.toList = (p.take b).drop a := by
  simp [ofL, ByteArray.data_extract, List.drop_take]
theorem byL_parts {C : List Ck} {lo hi : Int} (hlh : lo ≤ hi) : ∀ {P : List (List UInt8)} {R : List Rf} (at_ : Int), RefsOf C P R → byL C lo hi at_ R = some ((P.flatten.take (hi - at_).toNat).drop (lo - at_).toNat)
  | [], [], _, _ => by simp [byL]
  | p :: ps, r :: rs, at_, g => by
    obtain ⟨⟨g1, g2, c, g3, g4⟩, g5⟩ := g
    have hb : by1 C lo hi at_ r = some ((p.take (hi - at_).toNat).drop (lo - at_).toNat) := by
      unfold by1
      split
      · rename_i hlt
        rw [g3]
        simp only [Option.bind_some]
        rw [g4, ofL_size, if_pos g2.symm, extract_list]
        congr 1
        have e1 : (pA lo at_).toNat = (lo - at_).toNat := by unfold pA; omega
        have e2 : p.take (pB hi at_ r.2).toNat = p.take (hi - at_).toNat := by
          rw [List.take_eq_take_iff]
          unfold pB at *
          rw [g2]
          unfold pA at hlt
          omega
        rw [e1, e2]
      · rename_i hlt
        congr 1
        unfold pA pB at hlt
        rw [g2] at hlt
        symm
        rw [List.drop_eq_nil_iff, List.length_take]
        omega
    simp only [byL, hb, Option.bind_some, byL_parts hlh (at_ + r.2) g5, Option.map_some, List.flatten_cons]
    rw [cut_app _ _ _ _ (by omega), g2]
    congr 2
    rw [show (hi - (at_ + (p.length : Int))).toNat = (hi - at_).toNat - p.length by omega, show (lo - (at_ + (p.length : Int))).toNat = (lo - at_).toNat - p.length by omega]
  | [], _ :: _, _, g => g.elim
  | _ :: _, [], _, g => g.elim
theorem bytesL_of {C : List Ck} {P : List (List UInt8)} {R : List Rf} (h : RefsOf C P R) (hP : Parts P) (h4 : R.length ≤ 4000) (frm n : Int) :
    bytesL C R frm n = (ofL ((P.flatten.take (endsL (P.flatten.length : Int) frm n).2.toNat).drop (endsL (P.flatten.length : Int) frm n).1.toNat), 0) := by
  have hr : rightR R = true := by unfold rightR; rw [h.right hP]; simp [h4]
  have hs := h.sum
  have ho := endsL_ok (P.flatten.length : Int) frm n (by omega)
  unfold bytesL
  rw [if_pos hr, hs, byL_parts ho.2.1 0 h]
  simp
abbrev RCk := ByteArray × ByteArray × Int
abbrev REn := ByteArray × Int
def rC (C : List Ck) : List RCk := C.map fun c => (c.id, c.text, c.cnt)
def rL (L : List Lg) : List REn := L.map fun e => (e.id, e.by)
def fndR (C : List RCk) (id : ByteArray) : Option RCk := C.find? fun c => decide (c.1 = id)
def ixR (C : List RCk) (id : ByteArray) : Int := match C.findIdx? (fun c => decide (c.1 = id)) with
  | some i => (i : Int)
  | none => -1
theorem fnd_rC (C : List Ck) (id : ByteArray) : fndR (rC C) id = (cAt C id).map fun c => (c.id, c.text, c.cnt) := by
  unfold fndR rC cAt
  rw [List.find?_map]
  rfl
theorem ixR_some {C : List RCk} {id : ByteArray} {c : RCk} (h : fndR C id = some c) : ∃ i, ∃ hi : i < C.length, C[i] = c ∧ ixR C id = (i : Int) ∧ ∀ j (hj : j < i), (C[j]'(Nat.lt_trans hj hi)).1 ≠ id := by
  unfold fndR at h
  obtain ⟨hp, i, hi, e, hno⟩ := List.find?_eq_some_iff_getElem.1 h
  refine ⟨i, hi, e, ?_, fun j hj => by have := hno j hj; simpa using this⟩
  have : C.findIdx? (fun c => decide (c.1 = id)) = some i := by
    rw [List.findIdx?_eq_some_iff_getElem]
    refine ⟨hi, by rw [e]; exact hp, fun j hj => by have := hno j hj; simpa using this⟩
  unfold ixR; rw [this]
theorem ixR_none {C : List RCk} {id : ByteArray} (h : fndR C id = none) : ixR C id = -1 ∧ ∀ c ∈ C, c.1 ≠ id := by
  unfold fndR at h
  rw [List.find?_eq_none] at h
  have h2 : ∀ c ∈ C, c.1 ≠ id := fun c hc => by have := h c hc; simpa using this
  refine ⟨?_, h2⟩
  have : C.findIdx? (fun c => decide (c.1 = id)) = none := by
    rw [List.findIdx?_eq_none_iff]
    intro c hc; simp [h2 c hc]
  unfold ixR; rw [this]
def hitR (C : List RCk) (p t : ByteArray) (k : Nat) : Bool := match fndR C (nameB p k) with
  | some c => decide (c.2.1 = t)
  | none => false
def freeR (C : List RCk) (p : ByteArray) (k : Nat) : Bool := (fndR C (nameB p k)).isNone
def insR : List RCk → RCk → List RCk
  | [], c => [c]
  | d :: r, c => if kless c.1 d.1 then c :: d :: r else d :: insR r c
def doneR (A : List RCk) (c : RCk) : Bool := A.any fun d => kless c.1 d.1
theorem ins_not : ∀ {A : List RCk} {c : RCk}, doneR A c = false → insR A c = A ++ [c]
  | [], c, _ => rfl
  | d :: r, c, h => by
    simp only [doneR, List.any_cons, Bool.or_eq_false_iff] at h
    simp only [insR, h.1]
    rw [ins_not (A := r) h.2]; simp
theorem ins_first : ∀ {A : List RCk} {c d : RCk} {B : List RCk}, doneR A c = false → kless c.1 d.1 = true → insR (A ++ d :: B) c = A ++ c :: d :: B
  | [], c, d, B, _, h => by simp [insR, h]
  | a :: r, c, d, B, h, hd => by
    simp only [doneR, List.any_cons, Bool.or_eq_false_iff] at h
    simp only [List.cons_append, insR, h.1]
    rw [ins_first (A := r) h.2 hd]; simp
theorem ins_done : ∀ {A : List RCk} {c d : RCk}, doneR A c = true → insR (A ++ [d]) c = insR A c ++ [d]
  | [], c, d, h => by simp [doneR] at h
  | a :: r, c, d, h => by
    simp only [List.cons_append, insR]
    by_cases ha : kless c.1 a.1 = true
    · simp [ha]
    · simp only [ha]
      have : doneR r c = true := by
        simp only [doneR, List.any_cons, Bool.or_eq_true] at h
        exact h.resolve_left ha
      rw [ins_done (A := r) this]; simp
theorem done_snoc (A : List RCk) (c d : RCk) : doneR (A ++ [d]) c = (doneR A c || kless c.1 d.1) := by
  simp [doneR]
theorem ins_mid : ∀ {A B : List RCk} {c : RCk}, (∀ a ∈ A, kless c.1 a.1 = false) → (∀ b ∈ B, kless c.1 b.1 = true) → insR (A ++ B) c = A ++ c :: B
  | A, [], c, hA, _ => by
    rw [List.append_nil]
    exact ins_not (by unfold doneR; rw [List.any_eq_false]; intro x hx; simp [hA x hx])
  | A, b :: B, c, hA, hB => ins_first (by unfold doneR; rw [List.any_eq_false]; intro x hx; simp [hA x hx]) (hB b (by simp))
theorem ins_mem : ∀ {C : List RCk} {c d : RCk}, d ∈ insR C c ↔ d = c ∨ d ∈ C
  | [], c, d => by simp [insR]
  | a :: r, c, d => by
    simp only [insR]
    split
    · simp
    · simp only [List.mem_cons, ins_mem (C := r)]
      constructor
      · rintro (h | h | h)
        · exact .inr (.inl h)
        · exact .inl h
        · exact .inr (.inr h)
      · rintro (h | h | h)
        · exact .inr (.inl h)
        · exact .inl h
        · exact .inr (.inr h)
theorem ins_len : ∀ (C : List RCk) (c : RCk), (insR C c).length = C.length + 1
  | [], c => rfl
  | a :: r, c => by
    simp only [insR]
    split
    · simp
    · simp [ins_len r c]
def putR (C : List RCk) (t : ByteArray) : List RCk × ByteArray × Bool × Int :=
  if t.size < 1 ∨ 128 < t.size then (C, ⟨#[]⟩, false, 1) else
  match (List.range 256).find? (hitR C (prB t) t) with
  | some k => (C, nameB (prB t) k, false, 0)
  | none => match (List.range 256).find? (freeR C (prB t)) with
    | some k => (insR C (nameB (prB t) k, t, 0), nameB (prB t) k, true, 0)
    | none => (C, ⟨#[]⟩, false, 4)
theorem range_first {f : Nat → Bool} {k n : Nat} (hk : k < n) (h : f k = true) (hno : ∀ j, j < k → f j = false) : (List.range n).find? f = some k := by
  rw [List.find?_range_eq_some]
  exact ⟨h, List.mem_range.2 hk, fun j hj => by simp [hno j hj]⟩
theorem range_none {f : Nat → Bool} {n : Nat} (hno : ∀ j, j < n → f j = false) : (List.range n).find? f = none := by
  rw [List.find?_range_eq_none]
  exact fun j hj => by simp [hno j hj]
theorem hit_rC {C : List Ck} {p t : ByteArray} {k : Nat} : hitR (rC C) p t k = true ↔ ∃ c, cAt C (nameB p k) = some c ∧ c.text = t := by
  unfold hitR
  rw [fnd_rC]
  cases cAt C (nameB p k) with
  | none => simp
  | some c => simp
theorem nohit_rC {C : List Ck} {p t : ByteArray} {i : Nat} (h : NoHit C p t i) : ∀ j, j < i → hitR (rC C) p t j = false := fun j hj => by
  cases hq : hitR (rC C) p t j with
  | false => rfl
  | true =>
    obtain ⟨c, h1, h2⟩ := hit_rC.1 hq
    exact absurd h2 (h j hj c h1)
theorem putR_hit {C : List Ck} {t : ByteArray} {k : Nat} {c : Ck} (h1 : 1 ≤ t.size) (h2 : t.size ≤ 128) (hk : k < 256) (hc : cAt C (nameB (prB t) k) = some c) (ht : c.text = t) (hn : NoHit C (prB t) t k) : putR (rC C) t = (rC C, nameB (prB t) k, false, 0) := by
  unfold putR
  rw [if_neg (by omega), range_first hk (hit_rC.2 ⟨c, hc, ht⟩) (nohit_rC hn)]
theorem ins_rC {C C' : List Ck} {c : Ck} (h : PutC c C C') (hn : cAt C c.id = none) : insR (rC C) (c.id, c.text, c.cnt) = rC C' := by
  obtain ⟨A, B, rfl, h', hA, hB⟩ := h
  rcases h' with rfl | ⟨c0, e, rfl⟩
  · unfold rC
    rw [List.map_append, List.map_append, List.map_cons]
    refine ins_mid (fun a ha => ?_) (fun b hb => ?_)
    · obtain ⟨x, hx, rfl⟩ := List.mem_map.1 ha
      exact kless_asymm (hA x hx)
    · obtain ⟨x, hx, rfl⟩ := List.mem_map.1 hb
      exact hB x hx
  · exact absurd e (cAt_none hn c0 (by simp))
theorem putR_new {C C' : List Ck} {t : ByteArray} {k page : Nat} (h1 : 1 ≤ t.size) (h2 : t.size ≤ 128) (hk : k < 256) (hc : cAt C (nameB (prB t) k) = none) (hf : ∀ j, j < k → cAt C (nameB (prB t) j) ≠ none) (hn : NoHit C (prB t) t 256) (hp : PutC ⟨nameB (prB t) k, page, 0, t⟩ C C') : putR (rC C) t = (rC C', nameB (prB t) k, true, 0) := by
  have hfr : ∀ j, freeR (rC C) (prB t) j = (cAt C (nameB (prB t) j)).isNone := fun j => by
    unfold freeR; rw [fnd_rC, Option.isNone_map]
  unfold putR
  rw [if_neg (by omega), range_none (nohit_rC hn), range_first hk (by rw [hfr, hc]; rfl) fun j hj => by
    rw [hfr]
    cases hq : cAt C (nameB (prB t) j) with
    | none => exact absurd hq (hf j hj)
    | some c => rfl]
  have := ins_rC hp hc
  simp only at this
  simp only [this]
theorem putR_to {C C' : List Ck} {X X' : List (Nat × ByteArray)} {t id : ByteArray} (h : PutTo C X t id C' X') (h1 : 1 ≤ t.size) (h2 : t.size ≤ 128) : ∃ fr, putR (rC C) t = (rC C', id, fr, 0) := by
  rcases h with ⟨rfl, rfl, k, c, hk, rfl, hc, ht, hn⟩ | ⟨k, page, hk, rfl, hc, hf, hn, hp, rfl⟩
  · exact ⟨false, putR_hit h1 h2 hk hc ht hn⟩
  · exact ⟨true, putR_new h1 h2 hk hc hf hn hp⟩
theorem putR_fnd {C C' : List RCk} {t id : ByteArray} {fr : Bool} (h : putR C t = (C', id, fr, 0)) : ∃ c, fndR C' id = some c := by
  have key : ∀ (D : List RCk) (d : RCk), d ∈ D → ∃ c, fndR D d.1 = some c := fun D d hd => by
    cases hq : fndR D d.1 with
    | some c => exact ⟨c, rfl⟩
    | none => exact absurd rfl ((ixR_none hq).2 d hd)
  unfold putR at h
  split at h
  · simp at h
  · split at h
    · rename_i k hk
      simp only [Prod.mk.injEq] at h
      obtain ⟨rfl, rfl, -⟩ := h
      have := (List.find?_range_eq_some.1 hk).1
      unfold hitR at this
      cases hq : fndR C (nameB (prB t) k) with
      | some c => exact ⟨c, rfl⟩
      | none => rw [hq] at this; cases this
    · split at h
      · rename_i k hk
        simp only [Prod.mk.injEq] at h
        obtain ⟨rfl, rfl, -⟩ := h
        exact key _ (nameB (prB t) k, t, 0) (ins_mem.2 (.inl rfl))
      · simp at h
def stepR (s : List RCk × List REn × List Rf) (p : ByteArray) : List RCk × List REn × List Rf := ((putR s.1 p).1, s.2.1 ++ [((putR s.1 p).2.1, 1)], s.2.2 ++ [((putR s.1 p).2.1, (p.size : Int))])
def bldR (C : List RCk) (L : List REn) (ps : List ByteArray) : List RCk × List REn × List Rf := ps.foldl stepR (C, L, [])
theorem bldR_snoc (C : List RCk) (L : List REn) (ps : List ByteArray) (p : ByteArray) : bldR C L (ps ++ [p]) = stepR (bldR C L ps) p := by
  unfold bldR; rw [List.foldl_append]; rfl
theorem bldR_take {C : List RCk} {L : List REn} {ps : List ByteArray} {k : Nat} (h : k < ps.length) : bldR C L (ps.take (k + 1)) = stepR (bldR C L (ps.take k)) ps[k] := by
  rw [List.take_succ_eq_append_getElem h, bldR_snoc]
theorem rL_snoc (L : List Lg) (e : Lg) : rL (L ++ [e]) = rL L ++ [(e.id, e.by)] := by simp [rL]
theorem KpAll.ref {C C' : List Ck} {X X' : List (Nat × ByteArray)} {L L' : List Lg} {ps : List (List UInt8)} {R : List Rf} (h : KpAll C X L ps R C' X' L') (hp : Parts ps) : bldR (rC C) (rL L) (ps.map ofL) = (rC C', rL L', R) ∧ ∀ k (hk : k < (ps.map ofL).length), (putR (bldR (rC C) (rL L) ((ps.map ofL).take k)).1 (ps.map ofL)[k]).2.2.2 = 0 := by
  induction h with
  | nil => exact ⟨rfl, fun k hk => by simp at hk⟩
  | @snoc ps R C1 C2 X1 X2 L1 p id h g hs ih =>
    obtain ⟨ih1, ih2⟩ := ih fun q hq => hp q (by simp [hq])
    have hps := hp p (by simp)
    have hsz : (ofL p).size = p.length := ofL_size p
    obtain ⟨fr, hput⟩ := putR_to g (by rw [hsz]; exact hps.1) (by rw [hsz]; exact hps.2)
    refine ⟨?_, fun k hk => ?_⟩
    · rw [List.map_append, List.map_cons, List.map_nil, bldR_snoc, ih1]
      unfold stepR
      simp only [hput, rL_snoc]
      rfl
    · simp only [List.map_append, List.map_cons, List.map_nil] at hk ⊢
      by_cases hlt : k < (ps.map ofL).length
      · have := ih2 k hlt
        rw [List.take_append_of_le_length (by omega), List.getElem_append_left hlt]
        exact this
      · have e : k = (ps.map ofL).length := by
          simp only [List.length_append, List.length_singleton] at hk; omega
        subst e
        rw [List.take_append_of_le_length (Nat.le_refl _), List.take_length, ih1]
        simp only [List.getElem_append_right (Nat.le_refl _), Nat.sub_self, List.getElem_cons_zero, hput]
def RdRow (w : World) (v : Value) (n sz : Nat) (xs : List Value) : Prop :=
  ∃ a cap, v = .slice a n cap ∧ xs.length = n * sz ∧ n ≤ cap ∧ (a = none → n = 0) ∧ ∀ ad, a = some ad → ∃ b off, ad = ⟨b, off, none⟩ ∧ b < w.heap.size ∧ ∀ j u, xs[j]? = some u → w.cell? ⟨b, off + j, none⟩ = some u
theorem addr_addO (g o j : Nat) : (⟨g, o, none⟩ : Addr).add j = ⟨g, o + j, none⟩ := by unfold Addr.add; split <;> simp_all
theorem RdRow.below {w w' : World} {v : Value} {n sz : Nat} {xs : List Value} (h : RdRow w v n sz xs) (hb : Below w.heap.size w w') : RdRow w' v n sz xs := by
  obtain ⟨a, cap, rfl, hl, hc, h0, h1⟩ := h
  refine ⟨a, cap, rfl, hl, hc, h0, fun ad e => ?_⟩
  obtain ⟨b, off, e1, h2, h3⟩ := h1 ad e
  exact ⟨b, off, e1, Nat.lt_of_lt_of_le h2 hb.size, fun j u hu => (hb.cell (p := ⟨b, off + j, none⟩) h2).trans (h3 j u hu)⟩
theorem RdRow.nil (w : World) (sz : Nat) : RdRow w (.slice none 0 0) 0 sz [] := ⟨none, 0, rfl, by simp, Nat.le_refl _, fun _ => rfl, fun ad e => by cases e⟩
theorem RdRow.own {w : World} {base n sz : Nat} {e : TypeId} {v : Value} {xs : List Value} (h : w.ownsRow base e sz v n xs) : RdRow w v n sz xs := by
  have hl := h.1
  rcases h.2 with ⟨rfl, rfl⟩ | ⟨g, cap, cur, rfl, h1, h2, h3, -⟩
  · refine ⟨none, 0, rfl, hl, Nat.le_refl _, fun _ => rfl, fun ad e => by cases e⟩
  · refine ⟨some ⟨g, 0, none⟩, cap, rfl, hl, h3, fun e => (by cases e), fun ad e => ?_⟩
    cases e
    refine ⟨g, 0, rfl, (h.lt g rfl).2, fun j u hu => ?_⟩
    have := h.cells rfl j u hu
    rwa [addr_addO] at this
theorem RdRow.yields {w : World} {v : Value} {n sz : Nat} {xs : List Value} (h : RdRow w v n sz xs) : Yields w v n xs := by
  obtain ⟨a, cap, rfl, hl, hc, h0, h1⟩ := h
  refine ⟨a, cap, rfl, h0, fun ad e j u hu => ?_⟩
  obtain ⟨b, off, rfl, h2, h3⟩ := h1 ad e
  rw [addr_addO]
  exact h3 j u hu
theorem RdRow.form {w : World} {v : Value} {n sz : Nat} {xs : List Value} (h : RdRow w v n sz xs) : ∃ a cap, v = .slice a n cap ∧ n ≤ cap := by
  obtain ⟨a, cap, rfl, _, hc, _⟩ := h; exact ⟨a, cap, rfl, hc⟩
theorem RdRow.get {w : World} {a : Option Addr} {n m cap sz : Nat} {xs : List Value} (h : RdRow w (.slice a m cap) n sz xs) {j : Nat} {u : Value} (hu : xs[j]? = some u) : ∃ b off, a = some ⟨b, off, none⟩ ∧ b < w.heap.size ∧ ∀ j u, xs[j]? = some u → w.cell? ⟨b, off + j, none⟩ = some u := by
  obtain ⟨a', cap', e, hl, hc, h0, h1⟩ := h
  cases e
  cases a with
  | none =>
    obtain rfl := h0 rfl
    rw [Nat.zero_mul] at hl
    rw [List.length_eq_zero_iff.1 hl] at hu
    cases hu
  | some ad =>
    obtain ⟨b, off, e1, h2, h3⟩ := h1 ad rfl
    exact ⟨b, off, by rw [e1], h2, h3⟩
theorem RdRow.part {w : World} {b off n cap : Nat} {xs : List Value} (h : RdRow w (.slice (some ⟨b, off, none⟩) n cap) n 1 xs) (lo k c : Nat) (hk : lo + k ≤ n) (hc : k ≤ c) : RdRow w (.slice (some ⟨b, off + lo, none⟩) k c) k 1 ((xs.drop lo).take k) := by
  obtain ⟨a', cap', e, hl, hc', h0, h1⟩ := h
  cases e
  obtain ⟨b', off', e1, h2, h3⟩ := h1 _ rfl
  cases e1
  refine ⟨_, _, rfl, by rw [List.length_take, List.length_drop]; omega, hc, fun e => (by cases e), fun ad e => ?_⟩
  cases e
  refine ⟨b, off + lo, rfl, h2, fun j u hu => ?_⟩
  rw [Nat.add_assoc]
  refine h3 (lo + j) u ?_
  rw [List.getElem?_take] at hu
  split at hu
  · rwa [List.getElem?_drop] at hu
  · cases hu
def u64C (l : List Nat) : List Value := l.map fun (x : Nat) => Value.int .u64 (x : Int)
theorem u64C_get {l : List Nat} {i : Nat} (h : i < l.length) : (u64C l)[i]? = some (.int .u64 (l.getD i 0 : Nat)) := by
  unfold u64C List.getD
  rw [List.getElem?_map, List.getElem?_eq_getElem h]; rfl
theorem u64C_len (l : List Nat) : (u64C l).length = l.length := by unfold u64C; simp
theorem u64C_snoc (l : List Nat) (x : Nat) : u64C (l ++ [x]) = u64C l ++ [.int .u64 (x : Int)] := by simp [u64C]
theorem own_same {w w' : World} {base : Nat} {e : TypeId} {s : Nat} {v : Value} {n : Nat} {xs : List Value} (h : w.ownsRow base e s v n xs) (hk : ∀ k, v.ownBlock = some k → w'.heap[k]? = w.heap[k]?) : w'.ownsRow base e s v n xs := by
  refine ⟨h.1, ?_⟩
  rcases h.2 with hn | ⟨g, cap, cur, rfl, hb, hgg, rest⟩
  · exact .inl hn
  · exact .inr ⟨g, cap, cur, rfl, hb, (hk g rfl).trans hgg, rest⟩
theorem wrapU64 (x : Int) (h0 : 0 ≤ x) (h1 : x < 18446744073709551616) : IntKind.u64.wrap x = x := by
  simp [IntKind.wrap, IntKind.bits, IntKind.signed]
  omega
set_option maxHeartbeats 4000000
theorem Store_c (n N : Nat) (w : World) (h4 : 4 ≤ n) (hn : n ≤ 65335) (hN : 24 * N ≤ pagesN n) :
    Calls Tryz.prog 23 #[.int .i64 (n : Int)] w fun e w' => ∃ sb rb ti tl, e = .returned (.pointer (some ⟨sb, 0, none⟩)) ∧ Hid (RcX w w' w' (fun _ => False) sb rb ti tl n N 0 [] [] []) := by
  have WD := Wide_c n w h4 hn
  have HN := Lib.hid hN
  have H4 := Lib.hid h4
  clear hN hn h4
  go_enter Tryz.func23, Tryz.ntmps23
  go_wp2_with fail
  refine WD.mono ?_
  rintro e wb ⟨db, lb, FL, rfl, H1⟩
  clear WD
  go_wp2_with fail
  refine (Begin_c lb wb).mono ?_
  rintro e wc ⟨rfl, H2⟩
  have OF := Of_c _ lb n FL _ [] wc (chg_new H1.out H2.out) H4.out
  go_wp2_with fail
  refine OF.mono ?_
  rintro e wd ⟨rb, G, rfl, H3⟩
  have NR := Lib.hid (NewRoom.of (w1 := w) (Below.refl _ _) H1.out H2.out H3.out)
  clear OF H1 H2 H3
  have AT := At_k rb wd
  go_wp2_with fail
  refine AT.mono ?_
  rintro e we ⟨sb, ti, tl, rfl, HT⟩
  have M0 : Hid (RcX w we we (fun _ => False) sb rb ti tl n N 0 [] [] []) := Lib.hid ⟨⟨0, Nat.le_refl _, Chs.start NR.out H4.out HN.out HT.out.1 HT.out.2.1 HT.out.2.2⟩, fun c hc => (by cases hc), Nat.le_refl _, Nat.le_refl _⟩
  clear NR HT AT
  go_wp2_with fail
  go_ret
  exact ⟨sb, rb, ti, tl, rfl, M0⟩
theorem make_zero40 (w : World) : ∃ (w' : World) (v : Value), (Instr.makeSlice 91 (.int .i64 40) (.int .i64 40)).run Tryz.prog w = .ok v w' ∧ (convert 91 9 v).run Tryz.prog w' = .ok (.string ⟨(List.replicate 40 (0 : UInt8)).toArray⟩) w' ∧ Below w.heap.size w w' := by
  obtain ⟨j0, hj, hz0, hz1, hz2⟩ := info_parts infoB
  obtain ⟨w1, hr, ho, hg⟩ := run_makeSlice_full (P := Tryz.prog) w w.heap.size 91 5 j0 _ 1 Tryz.underlying91 hj hz0 hz1 .i64 .i64 40 (by omega) (by rw [hz2]; omega) (by unfold maxLen; omega) (Nat.le_refl _)
  have e : (madeCells (Value.int .u8 0).cells (40 * 1)).toList = bytesC (List.replicate 40 0) := by
    rw [show (Value.int .u8 0).cells = #[Value.int .u8 0] from rfl, toList_madeCells_one]
    simp [bytesC]
  rw [e] at ho
  exact ⟨w1, _, hr, conv_rowC ho, (Below.refl _ _).grown hg (Nat.le_refl _) (fun _ e => by cases e)⟩
theorem rcells_get {l : List Rf} {k : Nat} (h : k < l.length) : (rcells l)[k * 2]? = some (.string l[k].1) ∧ (rcells l)[k * 2 + 1]? = some (.int .i64 l[k].2) := by
  induction l generalizing k with
  | nil => simp at h
  | cons p r ih =>
    cases k with
    | zero => exact ⟨rfl, rfl⟩
    | succ k =>
      have := ih (k := k) (by simpa using h)
      have e1 : (k + 1) * 2 = (k * 2) + 2 := by omega
      rw [e1]
      exact this
theorem refs_of_own {w : World} {base n : Nat} {v : Value} {l : List Rf} (h : w.ownsRow base 57 2 v n (rcells l)) (he : n = l.length) (hn : ∀ p ∈ l, RfIn p) (hl : l.length ≤ 1000000) : RefsAt w v l ∧ ∀ b off n c, v = .slice (some ⟨b, off, none⟩) n c → v.ownBlock = some b := by
  subst he
  rcases h.2 with ⟨rfl, h0⟩ | ⟨g, cap, cur, rfl, -⟩
  · exact ⟨⟨⟨none, 0, by rw [h0], fun k hk => by omega⟩, hn, Nat.le_trans hl (by decide)⟩, fun b off n c e => by cases e⟩
  · refine ⟨⟨⟨some ⟨g, 0, none⟩, cap, rfl, fun k hk => ⟨g, 0, rfl, ?_, ?_, (h.lt g rfl).2⟩⟩, hn, Nat.le_trans hl (by decide)⟩, fun b off n c e => by cases e; rfl⟩
    · have := h.cells rfl (k * 2) _ (rcells_get hk).1
      rwa [addr_add2] at this
    · have := h.cells rfl (k * 2 + 1) _ (rcells_get hk).2
      rw [addr_add2] at this
      rw [show 0 + k * 2 + 1 = 0 + (k * 2 + 1) by omega]
      exact this
theorem RefsOf.ins {C : List Ck} {P : List (List UInt8)} {R : List Rf} (h : RefsOf C P R) (hP : Parts P) : ∀ p ∈ R, RfIn p := fun p hp => by
  have := (List.all_eq_true.1 (h.right hP)) p hp
  simp only [rOk, Bool.and_eq_true, decide_eq_true_eq] at this
  unfold RfIn
  omega
def awT : List UInt8 := List.replicate 40 0 ++ [120]
def awP : List (List UInt8) := [List.replicate 16 0, List.replicate 16 0, List.replicate 8 0 ++ [120]]
theorem awP_cut : cutT awT = awP := by decide +kernel
theorem awake12_c (w : World) : Calls Tryz.prog 22 #[] w fun e w' => e = .returned (.bool true) ∧ Hid (Below w.heap.size w w') := by
  have ST := Store_c 3000 20 w (by decide) (by decide) (by decide)
  rw [show ((3000 : Nat) : Int) = 3000 from rfl] at ST
  go_enter Tryz.func22, Tryz.ntmps22
  go_wp2_with fail
  refine ST.mono ?_
  rintro e w1 ⟨sb, rb, ti, tl, rfl, H1⟩
  clear ST
  obtain ⟨w2, v, hm, hc, hb⟩ := make_zero40 w1
  have H2 := Lib.hid (H1.out.below hb)
  obtain ⟨z, hz⟩ : ∃ z, (⟨(List.replicate 40 (0 : UInt8)).toArray⟩ : ByteArray) = z := ⟨_, rfl⟩
  have hT : (z ++ ⟨#[120]⟩).data.toList = awT := by rw [← hz]; rfl
  have hzs : z.size = 40 := by rw [← hz]; rfl
  have hTs : (z ++ (⟨#[120]⟩ : ByteArray)).size = 41 := by rw [Lib.size_eq, hT]; rfl
  have BK := Build_k w w2 w1 (fun _ => False) sb rb ti tl 3000 20 0 [] [] [] (z ++ ⟨#[120]⟩) H2 (by omega) (by rw [hT, awP_cut]; decide) (by rw [hT, awP_cut]; decide)
  rw [hT, awP_cut] at BK
  rw [hz] at hc
  have ha1 : (z.size + (⟨#[120]⟩ : ByteArray).size > 9223372036854775807) = False := by rw [hzs]; simp; decide
  have ha2 : (9223372036854775807 < z.size + (⟨#[120]⟩ : ByteArray).size) = False := ha1
  clear hTs hT hb H2
  have ha3 : (9223372036854775807 < z.size + 1) = False := by rw [hzs]; simp
  have HW1 := Lib.hid H1.out.bel
  clear H1
  go_wp2_with fail
  refine BK.mono ?_
  rintro e w3 ⟨vl, rfl, HE⟩
  clear BK hm hc ha1 ha2
  obtain ⟨R, C', X', L', q1, q2, q3, q4⟩ := HE.out
  have hgd := q1.good.1
  have hlen := q1.len
  have hP : Parts awP := by
    intro p hp
    simp only [awP, List.mem_cons, List.not_mem_nil, or_false] at hp
    rcases hp with rfl | rfl | rfl <;> decide
  have hR : R.length = 3 := hgd.len
  obtain ⟨hrf, hown⟩ := refs_of_own q2 hR.symm (hgd.ins hP) (by omega)
  have BY := Bytes_c w w3 w3 _ sb rb ti tl 3000 20 (0 + awP.length) C' L' X' vl R (Lib.hid q3) (by decide) (by decide) hrf (fun b off n c e => .inr (hown b off n c e)) 38 9 (by omega) (by omega)
  have hbl : bytesL C' R 38 9 = (⟨#[0, 0, 120]⟩, 0) := by
    rw [bytesL_of hgd hP (by omega)]
    rfl
  rw [hbl] at BY
  have hL3 : (L'.length : Int) = 3 := by rw [hlen.2]; rfl
  have WT : Hid (∀ w4, Hid (RcX w w3 w4 (fun j => False ∨ vl.ownBlock = some j) sb rb ti tl 3000 20 (0 + awP.length) C' L' X') → Calls Tryz.prog 54 #[.pointer (some ⟨sb, 0, none⟩)] w4 fun e w' => e = .returned (.tuple #[.int .i64 3, .int .i64 0]) ∧ Hid (RcX w w3 w' (fun j => False ∨ vl.ownBlock = some j) sb rb ti tl 3000 20 (0 + awP.length) C' L' X')) := Lib.hid fun w4 h4 => by
    have := rc_waits w w4 w3 _ sb rb ti tl 3000 20 (0 + awP.length) C' L' X' h4 (by decide) (by decide)
    rwa [hL3] at this
  have SZ : Hid (∀ w5, Hid (RcX w w3 w5 (fun j => False ∨ vl.ownBlock = some j) sb rb ti tl 3000 20 (0 + awP.length) C' L' X') → Calls Tryz.prog 43 #[vl] w5 fun e w' => e = .returned (.int .i64 41) ∧ Hid (Below w.heap.size w w')) := Lib.hid fun w5 h5 => by
    have hs : sizeR R = 41 := by
      unfold sizeR
      rw [if_pos (by unfold rightR; rw [hgd.right hP]; simp [hR]), hgd.sum]; rfl
    have := SizeR_c vl R w5 (hrf.kept h5.out.kept fun b off n c e => .inr (hown b off n c e))
    rw [hs] at this
    refine this.mono ?_
    rintro e w' ⟨rfl, hb⟩
    exact ⟨rfl, Lib.hid (h5.out.bel.trans (hb.mono h5.out.bel.size))⟩
  obtain ⟨va, vc, rfl⟩ : ∃ va vc, vl = .slice va 3 vc := by
    rcases q2.2 with ⟨_, h0⟩ | ⟨g, cap, cur, e, -⟩
    · cases h0
    · exact ⟨_, _, e⟩
  clear HE q1 q2 q3 q4 hgd hlen hP hR hrf hown hbl hL3 HW1
  go_wp2_with fail
  refine BY.mono ?_
  rintro e w4 ⟨rfl, H4⟩
  have W4 := WT.out w4 H4
  clear BY WT H4
  go_wp2_with fail
  refine W4.mono ?_
  rintro e w5 ⟨rfl, H5⟩
  have S5 := SZ.out w5 H5
  clear W4 SZ H5
  go_wp2_with fail
  refine S5.mono ?_
  rintro e w6 ⟨rfl, H6⟩
  clear S5
  go_wp2_with fail
  go_ret
  exact ⟨rfl, H6⟩
set_option maxHeartbeats 1000000
def ckC (C : List RCk) : List Value := C.flatMap fun c => [.string c.1, .string c.2.1, .int .i64 c.2.2]
def enC (L : List REn) : List Value := L.flatMap fun e => [.string e.1, .int .i64 e.2]
theorem enC_len (L : List REn) : (enC L).length = L.length * 2 := by
  induction L with
  | nil => rfl
  | cons c C ih =>
    simp only [enC, List.flatMap_cons, List.length_append, List.length_cons, List.length_nil] at ih ⊢
    rw [ih]; omega
theorem ckC_snoc (C : List RCk) (c : RCk) : ckC (C ++ [c]) = ckC C ++ [.string c.1, .string c.2.1, .int .i64 c.2.2] := by simp [ckC]
theorem enC_snoc (L : List REn) (e : REn) : enC (L ++ [e]) = enC L ++ [.string e.1, .int .i64 e.2] := by simp [enC]
theorem ckC_get : ∀ {C : List RCk} {k : Nat} (h : k < C.length), (ckC C)[k * 3]? = some (.string C[k].1) ∧ (ckC C)[k * 3 + 1]? = some (.string C[k].2.1) ∧ (ckC C)[k * 3 + 2]? = some (.int .i64 C[k].2.2)
  | [], k, h => by simp at h
  | c :: C, 0, h => ⟨rfl, rfl, rfl⟩
  | c :: C, k + 1, h => by
    have ih := ckC_get (C := C) (k := k) (by simpa using h)
    have e : ckC (c :: C) = .string c.1 :: .string c.2.1 :: .int .i64 c.2.2 :: ckC C := rfl
    rw [e, show (k + 1) * 3 = k * 3 + 1 + 1 + 1 by omega]
    simp only [List.getElem?_cons_succ, List.getElem_cons_succ]
    exact ih
def StR (w : World) (v : Value) (C : List RCk) (L : List REn) : Prop :=
  ∃ va vl, v = .agg #[va, vl] ∧ RdRow w va C.length 3 (ckC C) ∧ RdRow w vl L.length 2 (enC L)
theorem StR.below {w w' : World} {v : Value} {C : List RCk} {L : List REn} (h : StR w v C L) (hb : Below w.heap.size w w') : StR w' v C L := by
  obtain ⟨va, vl, rfl, h1, h2⟩ := h
  exact ⟨va, vl, rfl, h1.below hb, h2.below hb⟩
theorem StR.nil (w : World) : StR w (.agg #[.slice none 0 0, .slice none 0 0]) [] [] := ⟨_, _, rfl, RdRow.nil w 3, RdRow.nil w 2⟩
set_option maxHeartbeats 2000000
theorem ixR_at {C : List RCk} {id : ByteArray} {k : Nat} (hk : k < C.length) (e : C[k].1 = id) (hno : ∀ j (hj : j < k), (C[j]'(Nat.lt_trans hj hk)).1 ≠ id) : ixR C id = (k : Int) := by
  have : C.findIdx? (fun c => decide (c.1 = id)) = some k := by
    rw [List.findIdx?_eq_some_iff_getElem]
    exact ⟨hk, by simp [e], fun j hj => by simpa using hno j hj⟩
  unfold ixR; rw [this]
theorem ixR_miss {C : List RCk} {id : ByteArray} (hno : ∀ j (hj : j < C.length), C[j].1 ≠ id) : ixR C id = -1 := by
  have : C.findIdx? (fun c => decide (c.1 = id)) = none := by
    rw [List.findIdx?_eq_none_iff]
    intro c hc
    obtain ⟨j, hj, rfl⟩ := List.mem_iff_getElem.1 hc
    simpa using hno j hj
  unfold ixR; rw [this]
theorem ba_neR {a b : ByteArray} (h : a ≠ b) : (a.toList == b.toList) = false := by
  rw [beq_eq_false_iff_ne]
  intro e
  rw [Lib.toList_data, Lib.toList_data] at e
  exact h (ByteArray.ext (Array.toList_inj.1 e))
theorem At_rc (v : Value) (C : List RCk) (L : List REn) (id : ByteArray) (w : World) (h : StR w v C L) (hC : C.length ≤ 1000000) :
    Calls Tryz.prog 102 #[v, .string id] w fun e w' => e = .returned (.int .i64 (ixR C id)) ∧ Hid (Below w.heap.size w w') := by
  obtain ⟨va, vl, rfl, h1, -⟩ := h
  obtain ⟨wb, hwb⟩ : ∃ x, w.alloc (.cells #[va, vl] 52) = x := ⟨_, rfl⟩
  have HB : Hid (Below w.heap.size w wb) := Lib.hid (by rw [← hwb]; exact (Below.refl _ _).alloc (Nat.le_refl _) _)
  have HR := Lib.hid (h1.below HB.out)
  have cb : wb.cell? ⟨w.heap.size, 0, none⟩ = some va := by rw [← hwb]; exact cell_lit (heap_alloc_new _ _) rfl
  obtain ⟨a, cap, rfl, hcap⟩ := h1.form
  have HCL := Lib.hid hC
  clear h1 hcap hC
  go_enter Tryz.func102, Tryz.ntmps102
  go_wp2_with fail
  clear hwb
  go_loopg [5] C.length (fun g s5 wr => ∃ (k : Nat), g = C.length - k ∧ k ≤ C.length ∧ s5 = .int .i64 (k : Int) ∧ Hid (∀ j (hj : j < k) (hk : j < C.length), C[j].1 ≠ id) ∧ wb = wr)
  case atStart => exact ⟨0, rfl, Nat.zero_le _, rfl, Lib.hid fun j hj => absurd hj (by omega), rfl⟩
  case round =>
    obtain ⟨k, rfl, hk, rfl, HN, rfl⟩ := hrel
    by_cases hlt : k < C.length
    · obtain ⟨c1, -, -⟩ := ckC_get hlt
      obtain ⟨b, off, rfl, hb, hc⟩ := HR.out.get c1
      have ck := hc _ _ c1
      have HLT := Lib.hid hlt
      have hsm : C.length ≤ 1000000 := HCL.out
      by_cases he : C[k].1 = id
      · have HE := Lib.hid (ixR_at hlt he fun j hj => HN.out j hj _)
        have heq : (C[k].1.toList == id.toList) = true := by rw [he]; simp
        clear HN hc he
        generalize C[k].1 = i at *
        go_wp2_with fail
        go_ret
        exact ⟨congrArg (fun z => Ending.returned (.int .i64 z)) HE.out.symm, HB⟩
      · have HN2 : Hid (∀ j (hj : j < k + 1) (hk : j < C.length), C[j].1 ≠ id) := Lib.hid fun j hj hk' => by
          by_cases e : j = k
          · subst e; exact he
          · exact HN.out j (by omega) hk'
        have heq : (C[k].1.toList == id.toList) = false := by
          exact ba_neR he
        clear HN hc he
        generalize C[k].1 = i at *
        go_wp2_with fail
        go_roundg (C.length - (k + 1))
        case measure => have := HLT.out; omega
        case rel => exact ⟨k + 1, rfl, HLT.out, by congr 1, HN2, rfl⟩
    · obtain rfl : k = C.length := by omega
      have HE := Lib.hid (ixR_miss fun j hj => HN.out j hj hj)
      clear HN hk hlt
      go_wp2_with fail
      go_ret
      exact ⟨congrArg (fun z => Ending.returned (.int .i64 z)) HE.out.symm, HB⟩
end Go.Proofs.YtdcjhpafipbpkaaGreatDoor
