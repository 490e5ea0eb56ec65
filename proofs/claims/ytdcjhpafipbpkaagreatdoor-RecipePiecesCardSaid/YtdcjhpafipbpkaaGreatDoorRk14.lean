/- Parts of the proof of RecipeWrites, joined: TxtP, RcpB, RcpC, RcpD, RcpH, RcpS, RcpT, RcpU, RcpI, RcpJ, RcpK, RcpL, RcpM, RcpX, RcpY. No condition. -/
import Derived.Test.YtdcjhpafipbpkaaGreatDoorRk13
import Derived.Laws.ResultCell
import Derived.Deep.RegionHeld3
set_option linter.unusedSimpArgs false
set_option linter.unusedVariables false
set_option linter.unusedSectionVars false
namespace Go.Proofs.YtdcjhpafipbpkaaGreatDoor
set_option linter.unusedVariables false
set_option maxRecDepth 100000
set_option maxHeartbeats 1000000
open Go.RowKit
/-- The store has just the texts that have names, each by its name. -/
structure TxIn (C : List Ck) (X : List (Nat × ByteArray)) (M : List (ByteArray × ByteArray)) : Prop where
  x : ∀ c ∈ C, (c.page, c.text) ∈ X
  len : C.length = M.length
  cm : ∀ c ∈ C, look M c.text = some c.id
  mc : ∀ t id, look M t = some id → ∃ c ∈ C, c.text = t ∧ c.id = id
  nm : ∀ c ∈ C, ∃ k, k < 256 ∧ c.id = nameB (prB c.text) k
theorem TxIn.nil : TxIn [] [] [] := ⟨fun c h => (by cases h), rfl, fun c h => (by cases h), fun t id h => (by cases h), fun c h => (by cases h)⟩
theorem TxIn.old {C : List Ck} {X : List (Nat × ByteArray)} {M : List (ByteArray × ByteArray)} (h : TxIn C X M) (hs : CSrt C) {t id0 : ByteArray} (hl : look M t = some id0) : ∃ k c, k < 256 ∧ id0 = nameB (prB t) k ∧ cAt C id0 = some c ∧ c.text = t := by
  obtain ⟨c, h1, h2, h3⟩ := h.mc t id0 hl
  obtain ⟨k, h4, h5⟩ := h.nm c h1
  refine ⟨k, c, h4, by rw [← h2, ← h5, h3], ?_, h2⟩
  rw [← h3]; exact cAt_of hs h1
theorem PutC.new {c : Ck} {C C' : List Ck} (h : PutC c C C') (hn : cAt C c.id = none) : C'.length = C.length + 1 ∧ (∀ d, d ∈ C' ↔ d = c ∨ d ∈ C) := by
  obtain ⟨A, B, rfl, h', -, -⟩ := h
  rcases h' with rfl | ⟨c0, e, rfl⟩
  · refine ⟨by simp; omega, fun d => ?_⟩
    simp only [List.mem_append, List.mem_cons]
    constructor
    · rintro (h | h | h)
      · exact .inr (.inl h)
      · exact .inl h
      · exact .inr (.inr h)
    · rintro (h | h | h)
      · exact .inr (.inl h)
      · exact .inl h
      · exact .inr (.inr h)
  · exact absurd e (cAt_none hn c0 (by simp))
theorem TxIn.new {C C' : List Ck} {X : List (Nat × ByteArray)} {M : List (ByteArray × ByteArray)} (h : TxIn C X M) {t id : ByteArray} {page k : Nat} (hl : look M t = none) (hk : k < 256) (hid : id = nameB (prB t) k) (hn : cAt C id = none) (hp : PutC ⟨id, page, 0, t⟩ C C') : TxIn C' ((page, t) :: X) (put M t id) := by
  obtain ⟨h1, h2⟩ := hp.new hn
  refine ⟨fun c hc => ?_, ?_, fun c hc => ?_, fun t' id' h' => ?_, fun c hc => ?_⟩
  · rcases (h2 c).1 hc with rfl | hc
    · simp
    · exact List.mem_cons_of_mem _ (h.x c hc)
  · rw [h1, h.len]; unfold put; rw [del_of_none hl]; simp
  · rw [look_put]
    rcases (h2 c).1 hc with rfl | hc
    · simp
    · have h3 := h.cm c hc
      by_cases e : t = c.text
      · rw [← e, hl] at h3; cases h3
      · rw [if_neg e]; exact h3
  · rw [look_put] at h'
    by_cases e : t = t'
    · rw [if_pos e] at h'
      cases h'
      exact ⟨_, (h2 _).2 (.inl rfl), e, rfl⟩
    · rw [if_neg e] at h'
      obtain ⟨c, g1, g2⟩ := h.mc t' id' h'
      exact ⟨c, (h2 c).2 (.inr g1), g2⟩
  · rcases (h2 c).1 hc with rfl | hc
    · exact ⟨k, hk, hid⟩
    · exact h.nm c hc
/-- Names are unlike. -/
theorem TxIn.inj {C : List Ck} {X : List (Nat × ByteArray)} {M : List (ByteArray × ByteArray)} (h : TxIn C X M) (hs : CSrt C) {t t' id : ByteArray} (h1 : look M t = some id) (h2 : look M t' = some id) : t = t' := by
  obtain ⟨c, a1, a2, a3⟩ := h.mc t id h1
  obtain ⟨d, b1, b2, b3⟩ := h.mc t' id h2
  have := hs.uniq a1 b1 (a3.trans b3.symm)
  rw [← a2, ← b2, this]
/-! ### the store beside blocks that a caller changes -/
theorem RSt.upd {w1 w w' : World} {K F : Nat → Prop} {rb n m : Nat} {S : RS} (h : RSt w1 w K rb n m S) (hu : Upd F w w') (hF : ∀ k, F k → K k ∧ w1.heap.size ≤ k) : RSt w1 w' K rb n m S := by
  obtain ⟨G, a, b, d, e⟩ := h
  exact ⟨G, a.frame hu fun k hk hf => (d k (hF k hf).1).2 hk, b, fun k hk => ⟨Nat.lt_of_lt_of_le (d k hk).1 hu.size, (d k hk).2⟩, e.trans (hu.below e.size fun k hk hf => by have := (hF k hf).2; omega)⟩
theorem Chs.upd {w1 w0 w w' : World} {K F : Nat → Prop} {sb rb ti tl n N a nx : Nat} {C : List Ck} {L : List Lg} {X : List (Nat × ByteArray)} (h : Chs w1 w0 w K sb rb ti tl n N a C L nx X) (hu : Upd F w w') (hF : ∀ k, F k → K k ∧ w1.heap.size ≤ k ∧ k ≠ sb ∧ k ≠ ti ∧ k ≠ tl) : Chs w1 w' w' K sb rb ti tl n N a C L nx X := by
  obtain ⟨S, o0, o1, h1, h2⟩ := h
  have hs := h1.1.2
  refine ⟨S, o0, o1, ⟨⟨h1.1.1.upd hu fun k hk => ⟨.inl (hF k hk).1, (hF k hk).2.1⟩, ?_, ?_, ?_⟩, fun _ _ => rfl⟩, h2⟩
  · exact hu.at hs.1 fun hf => (hF _ hf).2.2.1 rfl
  · exact hu.at hs.2.1 fun hf => (hF _ hf).2.2.2.1 rfl
  · exact hu.at hs.2.2 fun hf => (hF _ hf).2.2.2.2 rfl
/-- The law's state: the store, beside blocks K. -/
def TxSt (w1 w0 w : World) (K : Nat → Prop) (sb rb ti tl : Nat) (M : List (ByteArray × ByteArray)) (i : Nat) : Prop :=
  ∃ C X a, Chs w1 w0 w K sb rb ti tl 30000 60 a C [] 0 X ∧ TxIn C X M ∧ a ≤ 2 * i
section
variable {w1 w0 w w' : World} {K : Nat → Prop} {sb rb ti tl i : Nat} {M : List (ByteArray × ByteArray)} {t : ByteArray}
theorem TxSt.upd {F : Nat → Prop} (h : TxSt w1 w0 w K sb rb ti tl M i) (hu : Upd F w w') (hF : ∀ k, F k → K k ∧ w1.heap.size ≤ k ∧ k ≠ sb ∧ k ≠ ti ∧ k ≠ tl) : TxSt w1 w' w' K sb rb ti tl M i := by
  obtain ⟨C, X, a, c1, c2, c3⟩ := h
  exact ⟨C, X, a, c1.upd hu hF, c2, c3⟩
theorem TxSt.bel (h : TxSt w1 w0 w K sb rb ti tl M i) : Below w1.heap.size w1 w := by
  obtain ⟨C, X, a, c1, c2, c3⟩ := h
  exact c1.bel
theorem TxSt.kept (h : TxSt w1 w0 w K sb rb ti tl M i) : Kept K w0 w := by
  obtain ⟨C, X, a, c1, c2, c3⟩ := h
  exact c1.kept
theorem TxSt.reset (h : TxSt w1 w0 w K sb rb ti tl M i) : TxSt w1 w w K sb rb ti tl M i := by
  obtain ⟨C, X, a, c1, c2, c3⟩ := h
  exact ⟨C, X, a, c1.reset, c2, c3⟩
theorem TxSt.new (h : TxSt w1 w0 w K sb rb ti tl M i) (hb : Below w.heap.size w w') (x : Nat) (h1 : w.heap.size ≤ x) (h2 : x < w'.heap.size) : TxSt w1 w' w' (fun k => K k ∨ k = x) sb rb ti tl M i := by
  obtain ⟨C, X, a, c1, c2, c3⟩ := h
  exact ⟨C, X, a, c1.new hb x h1 h2, c2, c3⟩
theorem TxSt.sbk (h : TxSt w1 w0 w K sb rb ti tl M i) : sb < w.heap.size ∧ ti < w.heap.size ∧ tl < w.heap.size := by
  obtain ⟨C, X, a, c1, c2, c3⟩ := h
  exact ⟨lt_of_heap c1.sbk.1, lt_of_heap c1.sbk.2.1, lt_of_heap c1.sbk.2.2⟩
end
end Go.Proofs.YtdcjhpafipbpkaaGreatDoor
namespace Go.Proofs.YtdcjhpafipbpkaaGreatDoor
set_option linter.unusedVariables false
set_option maxRecDepth 100000
set_option maxHeartbeats 2000000
open Go.RowKit
/-- What a Put makes of chunks. -/
def PutTo (C : List Ck) (X : List (Nat × ByteArray)) (t id : ByteArray) (C' : List Ck) (X' : List (Nat × ByteArray)) : Prop :=
  (C' = C ∧ X' = X ∧ ∃ k c, k < 256 ∧ id = nameB (prB t) k ∧ cAt C id = some c ∧ c.text = t ∧ NoHit C (prB t) t k) ∨
  (∃ k page, k < 256 ∧ id = nameB (prB t) k ∧ cAt C id = none ∧ (∀ j, j < k → cAt C (nameB (prB t) j) ≠ none) ∧ NoHit C (prB t) t 256 ∧ PutC ⟨id, page, 0, t⟩ C C' ∧ X' = (page, t) :: X)
/-- The state after m keeps. -/
structure RcX (w1 w0 w : World) (K : Nat → Prop) (sb rb ti tl n N m : Nat) (C : List Ck) (L : List Lg) (X : List (Nat × ByteArray)) : Prop where
  ex : ∃ a, a ≤ 3 * m ∧ Chs w1 w0 w K sb rb ti tl n N a C L L.length X
  x : ∀ c ∈ C, (c.page, c.text) ∈ X
  len : C.length ≤ m ∧ L.length ≤ m
theorem PutTo.size {C C' : List Ck} {X X' : List (Nat × ByteArray)} {t id : ByteArray} (h : PutTo C X t id C' X') : id.size = 33 := by
  rcases h with ⟨-, -, k, c, -, rfl, -⟩ | ⟨k, page, -, rfl, -⟩ <;> rw [nameB_size, prB_size]
theorem PutC.cAt {c : Ck} {C C' : List Ck} (h : PutC c C C') (hs : CSrt C') : cAt C' c.id = some c := by
  refine cAt_of hs ?_
  obtain ⟨A, B, rfl, -⟩ := h
  simp
theorem PutTo.at {C C' : List Ck} {X X' : List (Nat × ByteArray)} {t id : ByteArray} (h : PutTo C X t id C' X') (hs : CSrt C') : ∃ c, Go.Proofs.YtdcjhpafipbpkaaGreatDoor.cAt C' id = some c ∧ c.text = t := by
  rcases h with ⟨rfl, -, k, c, -, -, h1, h2, -⟩ | ⟨k, page, -, -, -, -, -, h1, -⟩
  · exact ⟨c, h1, h2⟩
  · exact ⟨_, h1.cAt hs, rfl⟩
theorem PutTo.ok {C C' : List Ck} {X X' : List (Nat × ByteArray)} {t id : ByteArray} (h : PutTo C X t id C' X') (hx : ∀ c ∈ C, (c.page, c.text) ∈ X) : (∀ c ∈ C', (c.page, c.text) ∈ X') ∧ C'.length ≤ C.length + 1 := by
  rcases h with ⟨rfl, rfl, -⟩ | ⟨k, page, -, -, h0, -, -, h1, rfl⟩
  · exact ⟨hx, by omega⟩
  · obtain ⟨h2, h3⟩ := h1.new h0
    refine ⟨fun c hc => ?_, by omega⟩
    rcases (h3 c).1 hc with rfl | hc
    · simp
    · exact List.mem_cons_of_mem _ (hx c hc)
/-- Chunks that were there stay. -/
theorem PutTo.stay {C C' : List Ck} {X X' : List (Nat × ByteArray)} {t id : ByteArray} (h : PutTo C X t id C' X') (hs : CSrt C') {c : Ck} (hc : c ∈ C) : Go.Proofs.YtdcjhpafipbpkaaGreatDoor.cAt C' c.id = some c := by
  rcases h with ⟨rfl, rfl, -⟩ | ⟨k, page, -, -, h0, -, -, h1, rfl⟩
  · exact cAt_of hs hc
  · exact cAt_of hs (((h1.new h0).2 c).2 (.inr hc))
theorem infoR : (Tryz.prog.info? 57).map (fun i => (i.zero, i.size, i.bytes)) = some (some (.agg #[.string ⟨#[]⟩, .int .i64 0]), 2, 24) := by kernel_rfl
theorem PutRes.to {w1 w0 w : World} {K : Nat → Prop} {sb rb ti tl n N a nx : Nat} {C : List Ck} {L : List Lg} {X : List (Nat × ByteArray)} {t id : ByteArray} {fresh : Bool} (h : PutRes w1 w0 w K sb rb ti tl n N a C L nx X (prB t) t id fresh) : ∃ C' X' a', PutTo C X t id C' X' ∧ a' ≤ a + 2 ∧ Chs w1 w0 w K sb rb ti tl n N a' C' L nx X' := by
  rcases h with ⟨-, k, c, h1, h2, h3, h4, h5, h6⟩ | ⟨-, k, page, C', h1, h2, h3, h4, h5, h6, h7⟩
  · exact ⟨C, X, a, .inl ⟨rfl, rfl, k, c, h1, h2, h3, h4, h5⟩, by omega, h6⟩
  · exact ⟨C', _, a + 2, .inr ⟨k, page, h1, h2, h3, h4, h5, h6, rfl⟩, by omega, h7⟩
/-- A caller changed its own new block. -/
theorem Chs.back {w1 w0 w wb w4 w6 : World} {K : Nat → Prop} {sb rb ti tl n N a a' nx nx' x : Nat} {C C' : List Ck} {L L' : List Lg} {X X' : List (Nat × ByteArray)} (h : Chs w1 w0 w K sb rb ti tl n N a C L nx X) (hb : Below w.heap.size w wb) (g : Chs w1 wb w4 (fun k => K k ∨ k = x) sb rb ti tl n N a' C' L' nx' X') (hx : w.heap.size ≤ x) (hu : Upd (fun k => k = x) w4 w6) : Chs w1 w0 w6 K sb rb ti tl n N a' C' L' nx' X' := by
  have hs := h.sbk
  have l0 := lt_of_heap hs.1
  have l1 := lt_of_heap hs.2.1
  have l2 := lt_of_heap hs.2.2
  have lb := h.bel.size
  have g1 := g.upd hu fun k hk => by subst hk; exact ⟨.inr rfl, by omega, by omega, by omega, by omega⟩
  have k46 : Kept K w4 w6 := fun k hk => by
    have := h.klt hk
    exact hu.block k (g.klt (.inl hk)) (by omega)
  exact (((g1.mono fun k hk => Or.inl hk).to k46).to (g.kept.mono fun k hk => Or.inl hk)).to (h.keep hb) |>.to h.kept
section
variable (w1 w w0 : World) (K : Nat → Prop) (sb rb ti tl n N m : Nat) (C : List Ck) (L : List Lg) (X : List (Nat × ByteArray))
theorem Keep_k (t : ByteArray) (h : Hid (RcX w1 w0 w K sb rb ti tl n N m C L X)) (hN : 3 * m + 3 ≤ N ∧ N ≤ 1000) (hm : m < 250) (ht1 : 1 ≤ t.size) (ht2 : t.size ≤ 128) :
    Calls Tryz.prog 76 #[.pointer (some ⟨sb, 0, none⟩), .string t] w fun e w' => ∃ id C' X', e = .returned (.tuple #[.agg #[.string id, .int .i64 (t.size : Int)], .int .i64 0]) ∧ Hid (PutTo C X t id C' X' ∧ RcX w1 w0 w' K sb rb ti tl n N (m + 1) C' (L ++ [⟨L.length, true, id⟩]) X') := by
  obtain ⟨a, ha, H0⟩ := h.out.ex
  obtain ⟨x, hx⟩ : ∃ x, w.heap.size = x := ⟨_, rfl⟩
  obtain ⟨wb, hwb⟩ : ∃ w0, w.alloc (.cells #[.string ⟨#[]⟩, .int .i64 0] 57) = w0 := ⟨_, rfl⟩
  have HB : Hid (Below w.heap.size w wb) := Lib.hid (by rw [← hwb]; exact (Below.refl w.heap.size w).alloc (Nat.le_refl _) _)
  have HBX : wb.heap[x]? = some (.cells #[.string ⟨#[]⟩, .int .i64 0] 57 (0, 0)) := by subst hx hwb; exact heap_alloc_new _ _
  have M0 := Lib.hid (H0.new HB.out x (by omega) (by rw [← hwb]; simp; omega))
  obtain ⟨k, MK⟩ := Mark_k w1 wb wb _ sb rb ti tl n N a L.length C L X M0
  have PT := Put_k w1 wb wb _ sb rb ti tl n N a L.length C L X t M0 (by omega) ht1 ht2 (by have := h.out.len; omega) h.out.x
  go_enter Tryz.func76, Tryz.ntmps76
  go_wp2_with fail
  refine MK.mono ?_
  rintro e w2 ⟨rfl, rfl⟩
  clear MK
  go_wp2_with fail
  refine PT.mono ?_
  rintro e w3 ⟨id, fresh, rfl, HP⟩
  clear PT
  obtain ⟨C', X', a', P1, P2, P3⟩ := HP.out.to
  have M3 := Lib.hid P3
  obtain ⟨c, hc1, hc2⟩ := P1.at P3.ok.2.1
  have AD := Add_yes w1 w3 wb _ sb rb ti tl n N a' L.length C' L X' id true c M3 (by omega) P1.size hc1
  rw [show byI true = 1 from rfl] at AD
  have HPT := Lib.hid P1
  have HA := Lib.hid (show a' ≤ a + 2 from P2)
  clear P1 P2 P3 HP
  go_wp2_with fail
  refine AD.mono ?_
  rintro e w4 ⟨rfl, M4⟩
  clear AD
  have hbx := (M4.out.kept x (.inr rfl)).trans HBX
  have c4 := cell_lit hbx (i := 0) rfl
  have c5 := cell_lit hbx (i := 1) rfl
  have f4 := frozen_lit hbx 0
  have f5 := frozen_lit hbx 1
  have hb5 := heap_set_lit (i := 0) hbx (.string id)
  have g5 := cell_lit (i := 1) hb5 rfl
  have g6 := frozen_lit hb5 1
  have hb6 := heap_set_lit (i := 1) hb5 (.int .i64 (t.size : Int))
  have e0 := cell_lit (i := 0) hb6 rfl
  have e1 := cell_lit (i := 1) hb6 rfl
  have HB6 := Lib.hid hb6
  clear hb5 hb6 hbx
  have HU : Hid (Upd (fun k => k = x) w4 ((w4.setCell ⟨x, 0, none⟩ (.string id)).setCell ⟨x, 1, none⟩ (.int .i64 (t.size : Int)))) := Lib.hid (by
    have u0 : Upd (fun k => k = x) w4 w4 := Upd.refl _ _
    exact (u0.setCell (p := ⟨x, 0, none⟩) (.inl rfl) _).setCell (p := ⟨x, 1, none⟩) (.inl rfl) _)
  have HG : Hid (PutTo C X t id C' X' ∧ RcX w1 w0 ((w4.setCell ⟨x, 0, none⟩ (.string id)).setCell ⟨x, 1, none⟩ (.int .i64 (t.size : Int))) K sb rb ti tl n N (m + 1) C' (L ++ [⟨L.length, true, id⟩]) X') := Lib.hid (by
    have hk := HPT.out.ok h.out.x
    have hl := h.out.len
    refine ⟨HPT.out, ⟨a' + 1, by have := HA.out; omega, ?_⟩, hk.1, by omega, by rw [List.length_append, List.length_singleton]; omega⟩
    rw [List.length_append, List.length_singleton]
    exact H0.back HB.out M4.out (by omega) HU.out)
  clear HU HA HPT h H0 M4 M3
  go_wp2_with fail
  (try simp only [Exit.inBlock, Exit.then])
  refine bodyPost_ret (v := .tuple #[.agg #[.string id, .int .i64 (t.size : Int)], .int .i64 0]) ?_ rfl ⟨id, C', X', rfl, HG⟩
  rw [results_cell_tmp rfl]
  go_simp
end
end Go.Proofs.YtdcjhpafipbpkaaGreatDoor
namespace Go.Proofs.YtdcjhpafipbpkaaGreatDoor
set_option linter.unusedVariables false
set_option maxRecDepth 100000
set_option maxHeartbeats 2000000
open Go.RowKit
/-- Parts are kept, one by one. -/
inductive KpAll (C : List Ck) (X : List (Nat × ByteArray)) (L : List Lg) : List (List UInt8) → List Rf → List Ck → List (Nat × ByteArray) → List Lg → Prop
  | nil : KpAll C X L [] [] C X L
  | snoc {ps : List (List UInt8)} {R : List Rf} {C1 C2 : List Ck} {X1 X2 : List (Nat × ByteArray)} {L1 : List Lg} {p : List UInt8} {id : ByteArray} (h : KpAll C X L ps R C1 X1 L1) (g : PutTo C1 X1 (ofL p) id C2 X2) (hs : CSrt C2) : KpAll C X L (ps ++ [p]) (R ++ [(id, ((ofL p).size : Int))]) C2 X2 (L1 ++ [⟨L1.length, true, id⟩])
theorem KpAll.len {C C' : List Ck} {X X' : List (Nat × ByteArray)} {L L' : List Lg} {ps : List (List UInt8)} {R : List Rf} (h : KpAll C X L ps R C' X' L') : R.length = ps.length ∧ L'.length = L.length + ps.length := by
  induction h with
  | nil => simp
  | snoc h g hs ih => simp [ih.1, ih.2]; omega
theorem RSt.updN {w1 w w' : World} {K F : Nat → Prop} {rb n m : Nat} {S : RS} (h : RSt w1 w K rb n m S) (hu : Upd F w w') (hF : ∀ k, F k → K k ∧ w1.heap.size ≤ k) : RSt w1 w' (fun k => K k ∨ (w.heap.size ≤ k ∧ k < w'.heap.size)) rb n m S := by
  obtain ⟨G, a, b, d, e⟩ := h
  refine ⟨G, a.frame hu fun k hk hf => (d k (hF k hf).1).2 hk, b, fun k hk => ?_, e.trans (hu.below e.size fun k hk hf => by have := (hF k hf).2; omega)⟩
  rcases hk with hk | hk
  · exact ⟨Nat.lt_of_lt_of_le (d k hk).1 hu.size, (d k hk).2⟩
  · exact ⟨hk.2, fun hg => by have := a.lt k hg; omega⟩
theorem Chs.updN {w1 w0 w w' : World} {K F : Nat → Prop} {sb rb ti tl n N a nx : Nat} {C : List Ck} {L : List Lg} {X : List (Nat × ByteArray)} (h : Chs w1 w0 w K sb rb ti tl n N a C L nx X) (hu : Upd F w w') (hF : ∀ k, F k → K k ∧ w1.heap.size ≤ k ∧ k ≠ sb ∧ k ≠ ti ∧ k ≠ tl) : Chs w1 w' w' (fun k => K k ∨ (w.heap.size ≤ k ∧ k < w'.heap.size)) sb rb ti tl n N a C L nx X := by
  obtain ⟨S, o0, o1, h1, h2⟩ := h
  have hs := h1.1.2
  refine ⟨S, o0, o1, ⟨⟨(h1.1.1.updN hu fun k hk => ⟨.inl (hF k hk).1, (hF k hk).2.1⟩).mono fun k hk => ?_, ?_, ?_, ?_⟩, fun _ _ => rfl⟩, h2⟩
  · rcases hk with (hk | hk) | hk
    · exact .inl (.inl hk)
    · exact .inr hk
    · exact .inl (.inr hk)
  · exact hu.at hs.1 fun hf => (hF _ hf).2.2.1 rfl
  · exact hu.at hs.2.1 fun hf => (hF _ hf).2.2.2.1 rfl
  · exact hu.at hs.2.2 fun hf => (hF _ hf).2.2.2.2 rfl
section
variable {w1 w0 w w' : World} {K K' F : Nat → Prop} {sb rb ti tl n N m : Nat} {C : List Ck} {L : List Lg} {X : List (Nat × ByteArray)}
theorem RcX.map {w1' w0' : World} {w' : World} {K' : Nat → Prop} (h : RcX w1 w0 w K sb rb ti tl n N m C L X) (f : ∀ a, Chs w1 w0 w K sb rb ti tl n N a C L L.length X → Chs w1' w0' w' K' sb rb ti tl n N a C L L.length X) : RcX w1' w0' w' K' sb rb ti tl n N m C L X := by
  obtain ⟨⟨a, h1, h2⟩, h3, h4⟩ := h
  exact ⟨⟨a, h1, f a h2⟩, h3, h4⟩
theorem RcX.mono (h : RcX w1 w0 w K sb rb ti tl n N m C L X) (hK : ∀ k, K' k → K k) : RcX w1 w0 w K' sb rb ti tl n N m C L X := h.map fun a g => g.mono hK
theorem RcX.below (h : RcX w1 w0 w K sb rb ti tl n N m C L X) (hb : Below w.heap.size w w') : RcX w1 w0 w' K sb rb ti tl n N m C L X := h.map fun a g => g.below hb
theorem RcX.updN (h : RcX w1 w0 w K sb rb ti tl n N m C L X) (hu : Upd F w w') (hF : ∀ k, F k → K k ∧ w1.heap.size ≤ k ∧ k ≠ sb ∧ k ≠ ti ∧ k ≠ tl) : RcX w1 w' w' (fun k => K k ∨ (w.heap.size ≤ k ∧ k < w'.heap.size)) sb rb ti tl n N m C L X := h.map fun a g => g.updN hu hF
theorem RcX.to {W : World} (h : RcX w1 w0 w K sb rb ti tl n N m C L X) (hk : Kept K W w0) : RcX w1 W w K sb rb ti tl n N m C L X := h.map fun a g => g.to hk
theorem RcX.kept (h : RcX w1 w0 w K sb rb ti tl n N m C L X) : Kept K w0 w := by obtain ⟨⟨a, h1, h2⟩, -⟩ := h; exact h2.kept
theorem RcX.klt (h : RcX w1 w0 w K sb rb ti tl n N m C L X) {k : Nat} (hk : K k) : k < w.heap.size := by obtain ⟨⟨a, h1, h2⟩, -⟩ := h; exact h2.klt hk
theorem RcX.bel (h : RcX w1 w0 w K sb rb ti tl n N m C L X) : Below w1.heap.size w1 w := by obtain ⟨⟨a, h1, h2⟩, -⟩ := h; exact h2.bel
theorem RcX.sbk (h : RcX w1 w0 w K sb rb ti tl n N m C L X) : SBk w sb rb ti tl := by obtain ⟨⟨a, h1, h2⟩, -⟩ := h; exact h2.sbk
theorem RcX.srt (h : RcX w1 w0 w K sb rb ti tl n N m C L X) : CSrt C := by obtain ⟨⟨a, h1, h2⟩, -⟩ := h; exact h2.ok.2.1
theorem RcX.keep (h : RcX w1 w0 w K sb rb ti tl n N m C L X) (hb : Below w.heap.size w w') : Kept K w w' := by obtain ⟨⟨a, h1, h2⟩, -⟩ := h; exact h2.keep hb
theorem RcX.new (h : RcX w1 w0 w K sb rb ti tl n N m C L X) (hb : Below w.heap.size w w') : RcX w1 w' w' (fun k => K k ∨ (w.heap.size ≤ k ∧ k < w'.heap.size)) sb rb ti tl n N m C L X :=
  h.updN (F := fun _ => False) ⟨hb.os, hb.tape, hb.output, hb.size, fun k hk _ => hb.block k hk⟩ fun _ h => h.elim
end
/-- Where Build's loop is: k parts are kept; two rows of its own beside the store. -/
def BdR (w1 w : World) (K : Nat → Prop) (sb rb ti tl n N m : Nat) (C : List Ck) (L : List Lg) (X : List (Nat × ByteArray)) (P : List (List UInt8)) (vp : Value) (B k : Nat) (v : Value) (wr : World) : Prop :=
  ∃ R C' X' L', KpAll C X L (P.take k) R C' X' L' ∧ wr.ownsRow B 57 2 v k (rcells R) ∧ wr.ownsRow w.heap.size 9 1 vp P.length (partC P) ∧
    RcX w1 wr wr (fun j => (K j ∨ vp.ownBlock = some j) ∨ v.ownBlock = some j) sb rb ti tl n N (m + k) C' L' X' ∧ Kept K w wr ∧
    (w1.heap.size ≤ w.heap.size ∧ w.heap.size ≤ B ∧ (sb < w.heap.size ∧ ti < w.heap.size ∧ tl < w.heap.size)) ∧ (∀ j, K j → j < w.heap.size) ∧ ∀ j, vp.ownBlock = some j → j < B
section
variable {w1 w0 w wr w' w3 w4 : World} {K : Nat → Prop} {sb rb ti tl n N m k B : Nat} {C C' C2 : List Ck} {L L' : List Lg} {X X' X2 : List (Nat × ByteArray)} {P : List (List UInt8)} {vp v v' : Value}
theorem rcells_snoc (R : List Rf) (p : Rf) : rcells (R ++ [p]) = rcells R ++ [.string p.1, .int .i64 p.2] := by simp [rcells]
/-- .. and the loop begins. -/
theorem BdR.start {w2 : World} (h : RcX w1 w0 w K sb rb ti tl n N m C L X) (hb : Below w.heap.size w w2) (ho : w2.ownsRow w.heap.size 9 1 vp P.length (partC P)) {g : Nat} (hg : vp.ownBlock = some g) (h3 : RcX w1 w2 w3 (fun j => K j ∨ vp.ownBlock = some j) sb rb ti tl n N m C L X) : BdR w1 w K sb rb ti tl n N m C L X P vp (g + 1) 0 (.slice none 0 0) w3 := by
  have hs := h.sbk
  refine ⟨[], C, X, L, by rw [List.take_zero]; exact .nil, World.ownsRow_nil _ _ _ _, h3.kept.row ho fun k e => .inr e, ?_, ?_, ⟨h.bel.size, by have := (ho.lt g hg).1; omega, lt_of_heap hs.1, lt_of_heap hs.2.1, lt_of_heap hs.2.2⟩, fun j hj => h.klt hj, fun j hj => by rw [hg] at hj; cases hj; omega⟩
  · refine (h3.mono (K' := fun j => (K j ∨ vp.ownBlock = some j) ∨ (Value.slice none 0 0).ownBlock = some j) ?_).map fun a g => g.reset
    rintro j (hj | hj)
    · exact hj
    · cases hj
  · exact (h.keep hb).trans (h3.kept.mono fun j hj => .inl hj)
theorem BdR.step {R : List Rf} {id : ByteArray} (hk : k < P.length) (hA : KpAll C X L (P.take k) R C' X' L') (ho : wr.ownsRow B 57 2 v k (rcells R)) (hp : wr.ownsRow w.heap.size 9 1 vp P.length (partC P))
    (hkp : Kept K w wr) (hl : w1.heap.size ≤ w.heap.size ∧ w.heap.size ≤ B ∧ (sb < w.heap.size ∧ ti < w.heap.size ∧ tl < w.heap.size)) (hK : ∀ j, K j → j < w.heap.size) (hvp : ∀ j, vp.ownBlock = some j → j < B)
    (hput : PutTo C' X' (ofL P[k]) id C2 X2) (h1 : RcX w1 wr w' (fun j => (K j ∨ vp.ownBlock = some j) ∨ v.ownBlock = some j) sb rb ti tl n N (m + k + 1) C2 (L' ++ [⟨L'.length, true, id⟩]) X2)
    (hb : Below w'.heap.size w' w3) (hg : w3.grownBy w4 v.ownBlock) (hv : v'.ownBlock = v.ownBlock ∨ v'.ownBlock = some w3.heap.size) (ho' : w4.ownsRow B 57 2 v' (k + 1) (rcells R ++ [.string id, .int .i64 ((ofL P[k]).size : Int)])) : BdR w1 w K sb rb ti tl n N m C L X P vp B (k + 1) v' w4 := by
  have hu : Upd (fun j => v.ownBlock = some j) w3 w4 := (Upd.refl _ _).grown hg fun j e => .inl e
  have hnew := h1.new hb
  have hlo : ∀ j, v.ownBlock = some j → B ≤ j := fun j e => (ho.lt j e).1
  have h2 := hnew.updN hu fun j e => by
    have := hlo j e
    exact ⟨.inl (.inr e), by omega, by omega, by omega, by omega⟩
  have k34 : Kept (fun j => K j ∨ vp.ownBlock = some j) w3 w4 := fun j hj => by
    refine hu.block j (hnew.klt (.inl (.inl hj))) fun e => ?_
    have := hlo j e
    rcases hj with hj | hj
    · have := hK j hj; omega
    · have := hvp j hj; omega
  have kr3 : Kept (fun j => K j ∨ vp.ownBlock = some j) wr w3 := (h1.kept.trans (h1.keep hb)).mono fun j hj => .inl hj
  have kr4 := kr3.trans k34
  refine ⟨R ++ [(id, ((ofL P[k]).size : Int))], C2, X2, L' ++ [⟨L'.length, true, id⟩], ?_, ?_, kr4.row hp fun j e => .inr e, ?_, hkp.trans (kr4.mono fun j hj => .inl hj), hl, hK, hvp⟩
  · rw [List.take_succ_eq_append_getElem hk]
    exact .snoc hA hput h1.srt
  · rw [rcells_snoc]; exact ho'
  · rw [show m + (k + 1) = m + k + 1 from rfl]
    refine h2.mono fun j hj => ?_
    rcases hj with hj | hj
    · exact .inl (.inl (.inl hj))
    · rcases hv with e | e
      · rw [e] at hj; exact .inl (.inl (.inr hj))
      · have := (ho'.lt j hj).2
        rw [e] at hj
        cases hj
        exact .inr ⟨Nat.le_refl _, this⟩
end
/-- How a Build ends. -/
def BdEnd (w1 w : World) (K : Nat → Prop) (sb rb ti tl n N m : Nat) (C : List Ck) (L : List Lg) (X : List (Nat × ByteArray)) (P : List (List UInt8)) (v : Value) (w' : World) : Prop :=
  ∃ R C' X' L', KpAll C X L P R C' X' L' ∧ w'.ownsRow w.heap.size 57 2 v P.length (rcells R) ∧ RcX w1 w' w' (fun j => K j ∨ v.ownBlock = some j) sb rb ti tl n N (m + P.length) C' L' X' ∧ Kept K w w'
theorem BdR.end_ {w1 w wr : World} {K : Nat → Prop} {sb rb ti tl n N m B : Nat} {C : List Ck} {L : List Lg} {X : List (Nat × ByteArray)} {P : List (List UInt8)} {vp v : Value} (h : BdR w1 w K sb rb ti tl n N m C L X P vp B P.length v wr) : BdEnd w1 w K sb rb ti tl n N m C L X P v wr := by
  obtain ⟨R, C', X', L', h1, h2, -, h3, h4, h5, -⟩ := h
  rw [List.take_length] at h1
  exact ⟨R, C', X', L', h1, own_le h2 h5.2.1, h3.mono fun j hj => hj.imp .inl id, h4⟩
end Go.Proofs.YtdcjhpafipbpkaaGreatDoor
namespace Go.Proofs.YtdcjhpafipbpkaaGreatDoor
set_option linter.unusedVariables false
set_option maxRecDepth 100000
set_option maxHeartbeats 4000000
open Go.RowKit
section
variable (w1 w w0 : World) (K : Nat → Prop) (sb rb ti tl n N m : Nat) (C : List Ck) (L : List Lg) (X : List (Nat × ByteArray))
theorem rc_waits (h : Hid (RcX w1 w0 w K sb rb ti tl n N m C L X)) (hN : 3 * m ≤ N ∧ N ≤ 1000) (hm : m ≤ 250) :
    Calls Tryz.prog 54 #[.pointer (some ⟨sb, 0, none⟩)] w fun e w' => e = .returned (.tuple #[.int .i64 (L.length : Int), .int .i64 0]) ∧ Hid (RcX w1 w0 w' K sb rb ti tl n N m C L X) := by
  obtain ⟨⟨a, h1, h2⟩, h3, h4⟩ := h.out
  refine (Waits_k w1 w w0 K sb rb ti tl n N a L.length C L X (Lib.hid h2) (by omega) (by omega)).mono ?_
  rintro e w' ⟨rfl, hE⟩
  exact ⟨rfl, Lib.hid ⟨⟨a, h1, hE.out⟩, h3, h4⟩⟩
theorem rc_mark (h : Hid (RcX w1 w0 w K sb rb ti tl n N m C L X)) :
    ∃ k : Nat, Calls Tryz.prog 61 #[.pointer (some ⟨sb, 0, none⟩)] w fun e w' => e = .returned (.int .i64 (k : Int)) ∧ w = w' := by
  obtain ⟨⟨a, h1, h2⟩, h3, h4⟩ := h.out
  exact Mark_k w1 w w0 K sb rb ti tl n N a L.length C L X (Lib.hid h2)
theorem Build_k (t : ByteArray) (h : Hid (RcX w1 w0 w K sb rb ti tl n N m C L X)) (ht : t.size ≤ 100000) (hP : m + (cutT t.data.toList).length ≤ 250) (hN : 3 * (m + (cutT t.data.toList).length) ≤ N ∧ N ≤ 1000) :
    Calls Tryz.prog 24 #[.pointer (some ⟨sb, 0, none⟩), .string t] w fun e w' => ∃ v, e = .returned (.tuple #[v, .int .i64 0]) ∧ Hid (BdEnd w1 w K sb rb ti tl n N m C L X (cutT t.data.toList) v w') := by
  have CT := CutText_c t w ht
  have HPT := Lib.hid (cutT_ok t.data.toList).1
  obtain ⟨P, hPP⟩ : ∃ P, cutT t.data.toList = P := ⟨_, rfl⟩
  rw [hPP] at CT HPT hP hN ⊢
  have HM := Lib.hid hP
  have HN := Lib.hid hN
  clear ht hPP hP hN
  obtain ⟨jR, hjR, hR0, hR1, hR2⟩ := info_parts infoR
  go_enter Tryz.func24, Tryz.ntmps24
  go_wp2_with fail
  refine CT.mono ?_
  rintro e w2 ⟨vp, rfl, HC⟩
  clear CT
  have HO := Lib.hid HC.out.1
  have HB := Lib.hid HC.out.2
  clear HC
  obtain ⟨va, vc, rfl⟩ : ∃ va vc, vp = .slice va P.length vc := by
    rcases HO.out.2 with ⟨rfl, h0⟩ | ⟨g, cap, cur, rfl, -⟩
    · exact ⟨_, _, by rw [h0]⟩
    · exact ⟨_, _, rfl⟩
  have d1 : decide ((P.length : Int) > 4000) = false := decide_eq_false (by have := HM.out; omega)
  by_cases h0 : P.length = 0
  · obtain rfl : P = [] := List.length_eq_zero_iff.1 h0
    have M2 : Hid (RcX w1 w2 w2 K sb rb ti tl n N m C L X) := Lib.hid ((h.out.new HB.out).mono fun j hj => .inl hj)
    have WT := rc_waits w1 w2 w2 K sb rb ti tl n N m C L X M2 (by have := HN.out; simp at this; omega) (by have := HM.out; simp at this; omega)
    have HE : Hid (∀ w3, Hid (RcX w1 w2 w3 K sb rb ti tl n N m C L X) → BdEnd w1 w K sb rb ti tl n N m C L X [] (.slice none 0 0) w3) := Lib.hid fun w3 h3 =>
      ⟨[], C, X, L, .nil, World.ownsRow_nil _ _ _ _, (h3.out.map fun a g => g.reset).mono fun j hj => hj.elim id fun e => (by cases e), (h.out.keep HB.out).trans h3.out.kept⟩
    clear HO M2 h HPT
    go_wp2_with fail
    refine WT.mono ?_
    rintro e w3 ⟨rfl, H3⟩
    clear WT
    go_wp2_with fail
    go_ret2
    exact ⟨_, rfl, Lib.hid (HE.out _ H3)⟩
  · have hne : ((P.length : Int) == 0) = false := by simp only [beq_eq_false_iff_ne, ne_eq]; omega
    have M2 : Hid (RcX w1 w2 w2 (fun j => K j ∨ (Value.slice va P.length vc).ownBlock = some j) sb rb ti tl n N m C L X) := Lib.hid ((h.out.new HB.out).mono fun j hj => hj.imp id fun e => HO.out.lt j e)
    obtain ⟨g0, hg0⟩ : ∃ g0, (Value.slice va P.length vc).ownBlock = some g0 := by
      rcases HO.out.2 with ⟨e, e0⟩ | ⟨g, cap, cur, e, -⟩
      · exact absurd e0 h0
      · exact ⟨g, by rw [e]; rfl⟩
    obtain ⟨mk, MK⟩ := rc_mark w1 w2 w2 _ sb rb ti tl n N m C L X M2
    have B0 : Hid (BdR w1 w K sb rb ti tl n N m C L X P (.slice va P.length vc) (g0 + 1) 0 (.slice none 0 0) w2) := Lib.hid (BdR.start h.out HB.out HO.out hg0 M2.out)
    have HG0 := Lib.hid hg0
    clear HO M2 h0 hg0
    go_wp2_with fail
    refine MK.mono ?_
    rintro e w3 ⟨rfl, rfl⟩
    clear MK
    go_wp2_with fail
    go_loopg [12, 43] P.length (fun g s12 s43 wr => ∃ (k : Nat) (v : Value), g = P.length - k ∧ k ≤ P.length ∧ s43 = .int .i64 (k : Int) ∧ v = s12 ∧ Hid (BdR w1 w K sb rb ti tl n N m C L X P (.slice va P.length vc) (g0 + 1) k v wr))
    case atStart => exact ⟨0, _, rfl, Nat.zero_le _, rfl, rfl, B0⟩
    case round =>
      obtain ⟨k, v, rfl, hk, rfl, rfl, HR⟩ := hrel
      clear B0
      by_cases hlt : k < P.length
      · obtain ⟨R, C', X', L', x1, x2, x3, x4, x5, x6, x7, x8⟩ := HR.out
        have hpk := HPT.out P[k] (List.getElem_mem hlt)
        obtain ⟨g, rfl⟩ : ∃ g, va = some ⟨g, 0, none⟩ := by
          rcases x3.2 with ⟨e, h0⟩ | ⟨g, cap, cur, e, -⟩
          · omega
          · cases e; exact ⟨g, rfl⟩
        have c0 := x3.cells rfl k (.string (ofL P[k])) (by unfold partC; simp [hlt])
        rw [addr_add2, Nat.zero_add] at c0
        have KP := Keep_k w1 wr wr _ sb rb ti tl n N (m + k) C' L' X' (ofL P[k]) (Lib.hid x4) (by have := HN.out; omega) (by have := HM.out; omega) hpk.1 hpk.2
        have STEP : Hid (∀ id C2 X2 w' w3 w4 v', PutTo C' X' (ofL P[k]) id C2 X2 → RcX w1 wr w' (fun j => (K j ∨ (Value.slice (some ⟨g, 0, none⟩) P.length vc).ownBlock = some j) ∨ v.ownBlock = some j) sb rb ti tl n N (m + k + 1) C2 (L' ++ [⟨L'.length, true, id⟩]) X2 → Below w'.heap.size w' w3 → w3.grownBy w4 v.ownBlock → (v'.ownBlock = v.ownBlock ∨ v'.ownBlock = some w3.heap.size) → w4.ownsRow (g0 + 1) 57 2 v' (k + 1) (rcells R ++ [.string id, .int .i64 ((ofL P[k]).size : Int)]) → BdR w1 w K sb rb ti tl n N m C L X P (.slice (some ⟨g, 0, none⟩) P.length vc) (g0 + 1) (k + 1) v' w4) := Lib.hid fun id C2 X2 w' w3 w4 v' a1 a2 a3 a4 a5 a6 => BdR.step hlt x1 x2 x3 x5 x6 x7 x8 a1 a2 a3 a4 a5 a6
        have HRR : Hid (∀ w', Hid (RcX w1 wr w' (fun j => (K j ∨ (Value.slice (some ⟨g, 0, none⟩) P.length vc).ownBlock = some j) ∨ v.ownBlock = some j) sb rb ti tl n N (m + k + 1) C' L' X') → True) := Lib.hid fun _ _ => trivial
        have OWN : Hid (∀ w', Kept (fun j => (K j ∨ (Value.slice (some ⟨g, 0, none⟩) P.length vc).ownBlock = some j) ∨ v.ownBlock = some j) wr w' → w'.ownsRow (g0 + 1) 57 2 v k (rcells R)) := Lib.hid fun w' h => h.row x2 fun j e => .inr e
        clear x1 x2 x3 x4 x5 x6 x7 x8 HR hpk HRR
        generalize ofL P[k] = p at *
        go_wp2_with fail
        refine KP.mono ?_
        rintro e w4 ⟨id, C2, X2, rfl, HK⟩
        clear KP
        have H5 : Hid (Below w4.heap.size w4 (w4.alloc (.cells #[.string id, .int .i64 (p.size : Int)] 57))) := Lib.hid ((Below.refl _ _).alloc (Nat.le_refl _) _)
        have HO5 : Hid ((w4.alloc (.cells #[.string id, .int .i64 (p.size : Int)] 57)).ownsRow (g0 + 1) 57 2 v k (rcells R)) := Lib.hid ((OWN.out _ HK.out.2.kept).alloc _)
        have HZ : Hid (g0 + 1 ≤ w4.heap.size) := Lib.hid (HK.out.2.klt (.inl (.inr HG0.out)))
        have HB5 : Hid (∀ o, g0 + 1 ≤ ((w4.alloc (.cells #[.string id, .int .i64 (p.size : Int)] 57)).alloc o).heap.size) := Lib.hid fun o => by have := HZ.out; simp; omega
        have L1 := Lib.hid (show k + 1 ≤ maxLen ∧ (k + 1) * 24 ≤ 140737488355328 from ⟨Nat.le_trans (by have := HM.out; omega : k + 1 ≤ 1000000) (by decide), by have := HM.out; omega⟩)
        have HST : Hid (∀ o w5 v', (((w4.alloc (.cells #[.string id, .int .i64 (p.size : Int)] 57)).alloc o).grownBy w5 v.ownBlock) → (v'.ownBlock = v.ownBlock ∨ v'.ownBlock = some ((w4.alloc (.cells #[.string id, .int .i64 (p.size : Int)] 57)).alloc o).heap.size) → w5.ownsRow (g0 + 1) 57 2 v' (k + 1) (rcells R ++ [.string id, .int .i64 (p.size : Int)]) → BdR w1 w K sb rb ti tl n N m C L X P (.slice (some ⟨g, 0, none⟩) P.length vc) (g0 + 1) (k + 1) v' w5) := Lib.hid fun o w5 v' a1 a2 a3 =>
          STEP.out id C2 X2 w4 _ w5 v' HK.out.1 HK.out.2 (H5.out.alloc (by simp) o) a1 a2 a3
        have HY : Hid (Yields ((w4.alloc (.cells #[.string id, .int .i64 (p.size : Int)] 57)).alloc (.cells #[.string id, .int .i64 (p.size : Int)] 57)) (.slice (some ⟨w4.heap.size + 1, 0, none⟩) 1 1) 1 [.string id, .int .i64 (p.size : Int)]) := Lib.hid (by
          have := yields_boxL (w4.alloc (.cells #[.string id, .int .i64 (p.size : Int)] 57)) #[.string id, .int .i64 (p.size : Int)] 57 1 1
          simpa using this)
        clear STEP OWN HK H5 HZ
        go_wp2_with (first
          | (refine chkA 46 46 ⟨_, _, by with_reducible rfl⟩ ?_
             refine wpList_append_y (by rfl) _ _ _ rfl (g0 + 1) 57 jR _ 2 24 Tryz.underlying46 hjR hR0 hR1 hR2 rfl (by decide) _ _ _ (by rfl) (HO5.out.alloc _) _ 1 _ (by rfl) HY.out rfl (one2 _ _ rfl rfl) L1.out.1 L1.out.2 (HB5.out _) ?_
             intro v5 W5 ho5 hg5 ha5
             have HN5 := Lib.hid (HST.out _ W5 v5 hg5 ha5 ho5)
             clear ho5 hg5 ha5))
        go_roundg (P.length - (k + 1))
        case measure => omega
        case rel => exact ⟨k + 1, _, rfl, by omega, congrArg (Value.int .i64) (wrap_up hlt (by have := HM.out; omega)), rfl, HN5⟩
      · obtain rfl : k = P.length := by omega
        have HE := Lib.hid HR.out.end_
        clear hlt hk
        go_wp2_with fail
        go_ret2
        exact ⟨_, rfl, HE⟩
end
end Go.Proofs.YtdcjhpafipbpkaaGreatDoor
namespace Go.Proofs.YtdcjhpafipbpkaaGreatDoor
set_option linter.unusedVariables false
set_option maxRecDepth 100000
set_option maxHeartbeats 2000000
open Go.RowKit
theorem ownsRowF_of2 {w w' : World} {base : Nat} {e : TypeId} {s : Nat} {v : Value} {n : Nat} {xs : List Value} (h : w.ownsRowF base e s v n xs) (hk : ∀ k, v.ownBlock = some k → w'.heap[k]? = w.heap[k]?) : w'.ownsRowF base e s v n xs := by
  refine ⟨h.1, ?_⟩
  rcases h.2 with hn | ⟨g, cap, cur, fz, rfl, hb, hg, r⟩
  · exact .inl hn
  · exact .inr ⟨g, cap, cur, fz, rfl, hb, (hk g rfl).trans hg, r⟩
theorem ownsRowF_lt {w : World} {base : Nat} {e : TypeId} {s : Nat} {v : Value} {n : Nat} {xs : List Value} (h : w.ownsRowF base e s v n xs) {k : Nat} (hk : v.ownBlock = some k) : base ≤ k ∧ k < w.heap.size := by
  rcases h.2 with ⟨rfl, hn⟩ | ⟨g, cap, cur, fz, rfl, hb, hg, r⟩
  · cases hk
  · cases hk
    exact ⟨hb, lt_of_heap hg⟩
theorem infoU8 : (Tryz.prog.info? 5).map (fun i => (i.zero, i.size, i.bytes)) = some (some (.int .u8 0), 1, 1) := by kernel_rfl
/-- append(buf, s...): where the new value stands. -/
theorem run_app (w : World) (base : Nat) (v : Value) (n : Nat) (xs : List Value) (ty : TypeId) (hown : w.ownsRowF base 5 1 v n xs) (s : ByteArray) (hn : n + s.size ≤ 100000000000) (hbase : base ≤ w.heap.size) :
    ∃ v' w', (Builtin.append_ #[91, 9] ty #[v, .string s]).run Tryz.prog w = .ok v' w' ∧ w'.ownsRowF base 5 1 v' (n + s.size) (xs ++ Lib.strCells s) ∧ w.grownBy w' v.ownBlock ∧ (v'.ownBlock = v.ownBlock ∨ ∀ k, v'.ownBlock = some k → w.heap.size ≤ k) := by
  obtain ⟨i, hi, hz, h1, h2⟩ := info_parts infoU8
  have hm : n + s.size ≤ maxLen := Nat.le_trans hn (by decide)
  have LAW := fun b (hb : b ≤ w.heap.size) (ho : w.ownsRowF b 5 1 v n xs) => Lib.run_append_own_stringF (P := Tryz.prog) w b 91 9 ty 5 i Tryz.underlying91 Tryz.underlying9 hi hz h1 h2 v n xs ho s hm (by omega) hb
  obtain ⟨v', w', a1, a2, a3, -⟩ := LAW base hbase hown
  refine ⟨v', w', a1, a2, a3, ?_⟩
  rcases hown.2 with ⟨rfl, rfl⟩ | ⟨g, cap, cur, fz, rfl, hbg, hg, hfz, hnc, hcm, hcs, htake⟩
  · obtain ⟨v2, w2, b1, b2, -⟩ := LAW w.heap.size (Nat.le_refl _) ⟨hown.1, .inl ⟨rfl, rfl⟩⟩
    rw [a1] at b1
    injection b1 with e1 e2
    subst e1
    exact .inr fun k hk => (ownsRowF_lt b2 hk).1
  · have hxl : xs.length = n := by simpa using hown.1
    have hsm : maxLen = 9223372036854775807 := by decide
    by_cases hroom : n + s.size ≤ cap
    · have hcs' : cur.size = cap := by simpa using hcs
      have hr := Lib.run_append_room_stringF (P := Tryz.prog) w 91 9 ty 5 i Tryz.underlying91 Tryz.underlying9 hi h1 g n cap cur fz hg (by simpa using hfz) s hroom (by omega)
      rw [a1] at hr
      injection hr with e1 e2
      subst e1
      exact .inl rfl
    · have holds : ∀ j u, xs[j]? = some u → w.cell? ((⟨g, 0, none⟩ : Addr).add j) = some u := hown.cells (g := g) rfl
      have hr := Lib.run_append_grow_string (P := Tryz.prog) w 91 9 ty 5 i (.int .u8 0) Tryz.underlying91 Tryz.underlying9 hi hz ⟨g, 0, none⟩ n cap xs (by rw [h1]; simpa using hxl) holds s (by omega) (by omega) (by rw [h2]; exact growslice_fits (by omega) (by omega))
      rw [a1] at hr
      injection hr with e1 e2
      subst e1
      exact .inr fun k hk => by cases hk; exact Nat.le_refl _
theorem wpList_app {w : World} {ops : Array Oper} {rest : List Oper} {o : Oper} {a : Act} {Q : Exit → Act → World → Prop} (hgd : o.guard = none) (sl x : Operand)
    (ho : o.op = .call { callee := .builtin .append, args := #[sl, x], argTypes := #[91, 9] }) (base : Nat) (v : Value) (n : Nat) (xs : List Value) (hs : a.eval sl = v) (hown : w.ownsRowF base 5 1 v n xs) (s : ByteArray) (hx : a.eval x = .string s)
    (hn : n + s.size ≤ 100000000000) (hbase : base ≤ w.heap.size)
    (h : ∀ v' w', w'.ownsRowF base 5 1 v' (n + s.size) (xs ++ Lib.strCells s) → w.grownBy w' v.ownBlock → (v'.ownBlock = v.ownBlock ∨ ∀ k, v'.ownBlock = some k → w.heap.size ≤ k) → wpList Tryz.prog ops Q rest (a.put o.dst v') w') : wpList Tryz.prog ops Q (o :: rest) a w := by
  refine wpList_plain hgd fun K hK => ?_
  obtain ⟨v', w', hr, h2, h3, h4⟩ := run_app w base v n xs o.type hown s hn hbase
  unfold Oper.wp execOp
  simp only [ho, resolve, invoke, builtin, Sem.run_bind, Sem.run_pure, Result.andThen_ok, List.map_toArray, List.map_cons, List.map_nil, hs, hx, hr]
  exact hK _ _ (h v' w' h2 h3 h4)
/-- A builder at block b; its row stands behind it. -/
def BdS (W : World) (b : Nat) (l : List UInt8) (v : Value) : Prop :=
  (∃ p, (p = .pointer none ∨ p = .pointer (some ⟨b, 0, none⟩)) ∧ W.heap[b]? = some (.cells #[p, v] 156 (0, 0))) ∧ W.ownsRowF (b + 1) 5 1 v l.length (Lib.byteCells l)
theorem check_c (W : World) (b : Nat) (l : List UInt8) (v : Value) (h : BdS W b l v) :
    Calls Tryz.prog 140 #[.pointer (some ⟨b, 0, none⟩)] W fun e w' => e = .returned (.tuple #[]) ∧ (w'.heap[b]? = some (.cells #[.pointer (some ⟨b, 0, none⟩), v] 156 (0, 0)) ∧ w'.ownsRowF (b + 1) 5 1 v l.length (Lib.byteCells l) ∧ Upd (fun k => k = b) W w') := by
  obtain ⟨⟨p, rfl | rfl, hb⟩, ho⟩ := h
  · refine (Any.Builder_copyCheck_fresh Tryz.lays240 Tryz.Builder_X72_240 b W (cell_lit hb rfl) (by simp [World.shape?, hb]; rfl) (frozen_lit hb 0)).mono ?_
    rintro e w' ⟨rfl, rfl⟩
    refine ⟨rfl, heap_set_lit hb _, ownsRowF_of2 ho fun k hk => heap_set_ne _ fun e => ?_, (Upd.refl (fun k => k = b) W).setCell (p := ⟨b, 0, none⟩) (.inl rfl) _⟩
    have := (ownsRowF_lt ho hk).1
    omega
  · refine (Any.Builder_copyCheck_used Tryz.lays240 Tryz.Builder_X72_240 b W (cell_lit hb rfl)).mono ?_
    rintro e w' ⟨rfl, rfl⟩
    exact ⟨rfl, hb, ho, Upd.refl _ _⟩
theorem ownsRowF_form {w : World} {base : Nat} {e : TypeId} {s : Nat} {v : Value} {n : Nat} {xs : List Value} (h : w.ownsRowF base e s v n xs) : ∃ a m c, v = .slice a m c := by
  rcases h.2 with ⟨rfl, hn⟩ | ⟨g, cap, cur, fz, rfl, hb, hg, r⟩
  · exact ⟨_, _, _, rfl⟩
  · exact ⟨_, _, _, rfl⟩
theorem byteCells_str (S : ByteArray) (l : List UInt8) : Lib.byteCells l ++ Lib.strCells S = Lib.byteCells (l ++ S.data.toList) := by
  unfold Lib.byteCells
  rw [List.map_append]
  simp [Lib.strCells, Lib.byteCells, Lib.toList_data]
theorem WriteU_c (W : World) (b : Nat) (l : List UInt8) (v : Value) (S : ByteArray) (h : BdS W b l v) (hn : l.length + S.size ≤ 100000000000) :
    Calls Tryz.prog 82 #[.pointer (some ⟨b, 0, none⟩), .string S] W fun e w' => e = .returned (.tuple #[.int .i64 S.size, .nilIface]) ∧ Hid (∃ v', BdS w' b (l ++ S.data.toList) v' ∧ Upd (fun k => k = b ∨ v.ownBlock = some k) W w' ∧ (v'.ownBlock = v.ownBlock ∨ ∀ k, v'.ownBlock = some k → W.heap.size ≤ k)) := by
  have CC := check_c W b l v h
  have hlow : Hid (∀ k, v.ownBlock = some k → b + 1 ≤ k) := Lib.hid fun k hk => (ownsRowF_lt h.2 hk).1
  clear h
  go_enter Tryz.func82, Tryz.ntmps82
  go_wp2_with fail
  refine CC.mono ?_
  rintro e w1 ⟨rfl, hb, ho, hu⟩
  clear CC
  have hlt := lt_of_heap hb
  have hsz := hu.size
  have c1 : w1.cell? ⟨b, 1, none⟩ = some v := cell_lit hb rfl
  obtain ⟨va, vm, vc, rfl⟩ := ownsRowF_form ho
  have HE : Hid (∀ v' w2, w2.ownsRowF (b + 1) 5 1 v' (l.length + S.size) (Lib.byteCells l ++ Lib.strCells S) → w1.grownBy w2 (Value.slice va vm vc).ownBlock → (v'.ownBlock = (Value.slice va vm vc).ownBlock ∨ ∀ k, v'.ownBlock = some k → w1.heap.size ≤ k) →
      (w2.cell? ⟨b, 1, none⟩ = some (.slice va vm vc) ∧ w2.frozen? ⟨b, 1, none⟩ = false) ∧ Hid (∃ v0, BdS (w2.setCell ⟨b, 1, none⟩ v') b (l ++ S.data.toList) v0 ∧ Upd (fun k => k = b ∨ (Value.slice va vm vc).ownBlock = some k) W (w2.setCell ⟨b, 1, none⟩ v') ∧ (v0.ownBlock = (Value.slice va vm vc).ownBlock ∨ ∀ k, v0.ownBlock = some k → W.heap.size ≤ k))) := Lib.hid fun v' w2 g1 g2 g3 => by
    have hu2 : Upd (fun k => k = b ∨ (Value.slice va vm vc).ownBlock = some k) W w2 := (hu.mono fun k _ e => .inl e).grown g2 fun k e => .inl (.inr e)
    have hb2 : w2.heap[b]? = some (.cells #[.pointer (some ⟨b, 0, none⟩), .slice va vm vc] 156 (0, 0)) := by
      rw [g2.block b hlt fun e => by have := hlow.out b e.symm; omega]; exact hb
    refine ⟨⟨cell_lit hb2 rfl, frozen_lit hb2 1⟩, Lib.hid ⟨v', ⟨⟨_, .inr rfl, heap_set_lit hb2 v'⟩, ?_⟩, hu2.setCell (p := ⟨b, 1, none⟩) (.inl (.inl rfl)) v', g3.imp id fun h k hk => Nat.le_trans hsz (h k hk)⟩⟩
    rw [List.length_append, ← Lib.size_eq, ← byteCells_str]
    refine ownsRowF_of2 g1 fun k hk => heap_set_ne _ fun e => ?_
    have := (ownsRowF_lt g1 hk).1
    omega
  have HB : Hid (b + 1 ≤ w1.heap.size) := Lib.hid hlt
  have HO := Lib.hid ho
  clear ho hu hb hlow hsz
  go_wp2_with (first
    | (refine chkA 91 9 ⟨_, _, by with_reducible rfl⟩ ?_
       refine wpList_app (by rfl) _ _ rfl (b + 1) _ _ _ (by rfl) HO.out S (by rfl) hn HB.out ?_
       intro v5 W5 ho5 hg5 ha5
       obtain ⟨a5, m5, c5, rfl⟩ := ownsRowF_form ho5
       obtain ⟨⟨k1, k2⟩, HN5⟩ := HE.out _ W5 ho5 hg5 ha5
       clear ho5 hg5 ha5))
  go_ret2
  exact ⟨rfl, HN5⟩
end Go.Proofs.YtdcjhpafipbpkaaGreatDoor
namespace Go.Proofs.YtdcjhpafipbpkaaGreatDoor
set_option linter.unusedVariables false
set_option maxRecDepth 100000
set_option maxHeartbeats 4000000
open Go.RowKit
/-- A recipe's bytes. -/
def wrR (l : List Rf) : List UInt8 := l.flatMap fun p => p.1.data.toList ++ [UInt8.ofNat p.2.toNat]
theorem wrR_snoc (l : List Rf) (p : Rf) : wrR (l ++ [p]) = wrR l ++ (p.1.data.toList ++ [UInt8.ofNat p.2.toNat]) := by simp [wrR]
theorem wrR_len {l : List Rf} (h : l.all rOk = true) : (wrR l).length = 34 * l.length := by
  induction l with
  | nil => rfl
  | cons p r ih =>
    simp only [List.all_cons, Bool.and_eq_true] at h
    have hp := h.1
    simp only [rOk, Bool.and_eq_true, decide_eq_true_eq] at hp
    have e : wrR (p :: r) = (p.1.data.toList ++ [UInt8.ofNat p.2.toNat]) ++ wrR r := by simp [wrR]
    rw [e, List.length_append, List.length_append, ← Lib.size_eq, ih h.2, hp.1]
    simp
    omega
theorem byte_wrap {n : Int} (h : 1 ≤ n ∧ n ≤ 128) : IntKind.u8.wrap n = ((UInt8.ofNat n.toNat).toNat : Int) := by
  rw [UInt8.toNat_ofNat']
  simp [IntKind.wrap, IntKind.bits, IntKind.signed]
  omega
theorem bld_byte (B b : Nat) (l : List UInt8) (c : UInt8) (w : World) (h : Bld B b l w) (hB : B ≤ w.heap.size) (hl : l.length ≤ 100000000000) :
    Calls Tryz.prog 90 #[.pointer (some ⟨b, 0, none⟩), .int .u8 (c.toNat : Int)] w fun e w' => e = .returned .nilIface ∧ Hid (Bld B b (l ++ [c]) w' ∧ Below B w w' ∧ Lib.OthersKept 5 (some b) w w') := by
  refine (Tryz.Builder_WriteByte_k B b (Lib.byteCells l) (c.toNat : Int) w h (by rw [byteCells_length]; omega) hB).mono ?_
  rintro e w' ⟨rfl, h1, h2, h3⟩
  rw [← byteCells_snoc] at h1
  exact ⟨rfl, Lib.hid ⟨Bld.of h1, h2, h3⟩⟩
def WrS (w1 : World) (l : List Rf) (k : Nat) (wr : World) : Prop := Bld w1.heap.size w1.heap.size (wrR (l.take k)) wr ∧ Below w1.heap.size w1 wr
theorem WrS.step {w1 wr W W' : World} {l : List Rf} {k : Nat} (h : WrS w1 l k wr) (hb : Below wr.heap.size wr W) : Bld w1.heap.size w1.heap.size (wrR (l.take k)) W ∧ Below w1.heap.size w1 W :=
  ⟨h.1.kept hb.block, h.2.trans (hb.mono h.2.size)⟩
theorem Write_rc (v : Value) (l : List Rf) (w : World) (h : RefsAt w v l) :
    Calls Tryz.prog 38 #[v] w fun e w' => e = .returned (.tuple #[.string (if rightR l then ofL (wrR l) else ⟨#[]⟩), .bool (rightR l)]) ∧ Below w.heap.size w w' := by
  have RC := RightR_c v l w h
  cases hr : rightR l with
  | false =>
    rw [hr] at RC
    clear h hr
    go_enter Tryz.func38, Tryz.ntmps38
    go_wp2_with fail
    refine RC.mono ?_
    rintro e w1 ⟨rfl, HB1⟩
    go_wp2_with fail
    go_ret2
    exact ⟨rfl, HB1⟩
  | true =>
    rw [hr] at RC
    obtain ⟨hall, h4⟩ := rightR_parts hr
    have HF := Lib.hid h
    have HAL := Lib.hid hall
    have H4 := Lib.hid h4
    obtain ⟨a, cap, rfl⟩ := h.form
    clear h hr hall h4
    go_enter Tryz.func38, Tryz.ntmps38
    go_wp2_with fail
    refine RC.mono ?_
    rintro e w1 ⟨rfl, HB1⟩
    have HW1 := Lib.hid HB1
    have R0 : Hid (WrS w1 l 0 (w1.alloc (.cells #[.pointer none, .slice none 0 0] 156))) := Lib.hid ⟨bld_begin w1, (Below.refl _ _).alloc (Nat.le_refl _) _⟩
    have HF1 : Hid (RefsAt w1 (.slice a l.length cap) l) := Lib.hid (HF.out.below HB1)
    clear RC HB1 HF
    go_wp2_with fail
    go_loopg [12] l.length (fun g s12 wr => ∃ k : Nat, g = l.length - k ∧ k ≤ l.length ∧ s12 = .int .i64 (k : Int) ∧ Hid (WrS w1 l k wr))
    case atStart => exact ⟨0, by omega, Nat.zero_le _, rfl, R0⟩
    case round =>
      obtain ⟨k, rfl, hk, rfl, HI⟩ := hrel
      clear R0
      by_cases hlt : k < l.length
      · obtain ⟨b, off, rfl, c1, c2, hbl⟩ := (HF1.out).get k hlt
        have c1 := (HI.out.2.cell (p := ⟨b, off + k * 2, none⟩) hbl).trans c1
        have c2 := (HI.out.2.cell (p := ⟨b, off + k * 2 + 1, none⟩) hbl).trans c2
        have hp := (List.all_eq_true.1 HAL.out) _ (List.getElem_mem hlt)
        simp only [rOk, Bool.and_eq_true, decide_eq_true_eq] at hp
        have HWR := Lib.hid (wrap_up hlt (Nat.le_trans H4.out (by decide)))
        have hsn : wrR (l.take (k + 1)) = wrR (l.take k) ++ (l[k].1.data.toList ++ [UInt8.ofNat l[k].2.toNat]) := by rw [List.take_succ_eq_append_getElem hlt, wrR_snoc]
        have hln : (wrR (l.take k)).length ≤ 1000000 := by
          rw [wrR_len (by rw [List.all_eq_true]; exact fun x hx => (List.all_eq_true.1 HAL.out) x (List.mem_of_mem_take hx)), List.length_take]
          have := H4.out; omega
        have hu := byte_wrap hp.2
        have HSN := Lib.hid hsn
        have hlw := lt_of_heap (heap_alloc_new wr (.cells #[.string l[k].1, .int .i64 l[k].2] 57))
        have WS := bld_strK w1.heap.size w1.heap.size (wrR (l.take k)) l[k].1 (wr.alloc (.cells #[.string l[k].1, .int .i64 l[k].2] 57)) (HI.out.step (W' := wr) ((Below.refl _ _).alloc (Nat.le_refl _) _)).1 (by have := HI.out.2.size; simp; omega) (by omega)
        have WB : Hid (∀ w5, Hid (Bld w1.heap.size w1.heap.size (wrR (l.take k) ++ l[k].1.data.toList) w5 ∧ Below w1.heap.size (wr.alloc (.cells #[.string l[k].1, .int .i64 l[k].2] 57)) w5 ∧ Lib.OthersKept 5 (some w1.heap.size) (wr.alloc (.cells #[.string l[k].1, .int .i64 l[k].2] 57)) w5) → w5.cell? ⟨wr.heap.size, 1, none⟩ = some (.int .i64 l[k].2) ∧ Calls Tryz.prog 90 #[.pointer (some ⟨w1.heap.size, 0, none⟩), .int .u8 ((UInt8.ofNat l[k].2.toNat).toNat : Int)] w5 fun e w' => e = .returned .nilIface ∧ Hid (WrS w1 l (k + 1) w')) := Lib.hid fun w5 h5 => by
          obtain ⟨g1, g2, g3⟩ := h5.out
          have hb0 : Below w1.heap.size w1 (wr.alloc (.cells #[.string l[k].1, .int .i64 l[k].2] 57)) := HI.out.2.alloc HI.out.2.size _
          refine ⟨kept_lit (i := 1) g3 (heap_alloc_new _ _) (by have := HI.out.1.lt; omega) (by decide) rfl, ?_⟩
          have hb5 := hb0.trans g2
          refine (bld_byte w1.heap.size w1.heap.size _ (UInt8.ofNat l[k].2.toNat) w5 g1 hb5.size (by rw [List.length_append, ← Lib.size_eq, hp.1]; omega)).mono ?_
          rintro e w' ⟨rfl, hE⟩
          refine ⟨rfl, Lib.hid ⟨?_, hb5.trans hE.out.2.1⟩⟩
          rw [HSN.out, ← List.append_assoc]
          exact hE.out.1
        clear HI HSN hsn hln hp
        generalize l[k] = p at *
        obtain ⟨i, q⟩ := p
        simp only at c1 c2 hu WS WB
        generalize wrR (l.take k) = wl at *
        generalize ((UInt8.ofNat q.toNat).toNat : Int) = bt at *
        go_wp2_with fail
        refine WS.mono ?_
        rintro e w5 ⟨rfl, H5⟩
        obtain ⟨k1, WB5⟩ := WB.out w5 H5
        clear WS WB H5
        go_wp2_with fail
        refine WB5.mono ?_
        rintro e w6 ⟨rfl, H6⟩
        clear WB5
        go_wp2_with fail
        go_roundg (l.length - (k + 1))
        case measure => omega
        case rel => exact ⟨k + 1, rfl, hlt, congrArg (Value.int .i64) HWR.out, H6⟩
      · obtain rfl : k = l.length := by omega
        obtain ⟨g1, g2⟩ := HI.out
        rw [List.take_length] at g1
        have SS := Tryz.Builder_String_any_k w1.heap.size w1.heap.size (wrR l) wr g1 g2.size
        have HBW := Lib.hid (HW1.out.trans (g2.mono HW1.out.size))
        have HZ : Hid (∀ w', Below w1.heap.size wr w' → Below w.heap.size w w') := Lib.hid fun w' hb => HW1.out.trans ((g2.trans hb).mono HW1.out.size)
        clear HI g1 g2 hlt hk
        go_wp2_with fail
        refine SS.mono ?_
        rintro e w6 ⟨rfl, -, hB6, -⟩
        have HB6 := Lib.hid (HZ.out _ hB6)
        clear SS hB6
        go_wp2_with fail
        go_ret2
        exact ⟨rfl, HB6.out⟩
end Go.Proofs.YtdcjhpafipbpkaaGreatDoor
namespace Go.Proofs.YtdcjhpafipbpkaaGreatDoor
set_option linter.unusedVariables false
set_option maxRecDepth 100000
set_option maxHeartbeats 4000000
open Go.RowKit
def WrO (w : World) (l : List Rf) (k : Nat) (v : Value) (wr : World) : Prop := wr.ownsRow w.heap.size 5 1 v (wrR (l.take k)).length (bytesC (wrR (l.take k))) ∧ Below w.heap.size w wr
theorem WrO.below {w wr w' : World} {l : List Rf} {k : Nat} {v : Value} (h : WrO w l k v wr) (hb : Below wr.heap.size wr w') : WrO w l k v w' :=
  ⟨ownsRow_of2 h.1 fun j hj => hb.block j (h.1.lt j hj).2, h.2.trans (hb.mono h.2.size)⟩
theorem RefWrite_rc (v : Value) (l : List Rf) (w : World) (h : RefsAt w v l) :
    Calls Tryz.prog 39 #[v] w fun e w' => e = .returned (.tuple #[.string (if rightR l then ofL (wrR l) else ⟨#[]⟩), .bool (rightR l)]) ∧ Below w.heap.size w w' := by
  have RC := RefRight_c v l w h
  cases hr : rightR l with
  | false =>
    rw [hr] at RC
    clear h hr
    go_enter Tryz.func39, Tryz.ntmps39
    go_wp2_with fail
    refine RC.mono ?_
    rintro e w1 ⟨rfl, HB1⟩
    go_wp2_with fail
    go_ret2
    exact ⟨rfl, HB1⟩
  | true =>
    rw [hr] at RC
    obtain ⟨hall, h4⟩ := rightR_parts hr
    have HF := Lib.hid h
    have HAL := Lib.hid hall
    have H4 := Lib.hid h4
    obtain ⟨jU, hjU, hU0, hU1, hU2⟩ := info_parts infoU8
    obtain ⟨a, cap, rfl⟩ := h.form
    clear h hr hall h4
    go_enter Tryz.func39, Tryz.ntmps39
    go_wp2_with fail
    refine RC.mono ?_
    rintro e w1 ⟨rfl, HB1⟩
    have R0 : Hid (WrO w l 0 (.slice none 0 0) w1) := Lib.hid ⟨by rw [List.take_zero]; exact World.ownsRow_nil _ _ _ _, HB1⟩
    clear RC HB1
    go_wp2_with fail
    go_loopg [4, 5] l.length (fun g s4 s5 wr => ∃ (k : Nat) (vo : Value), g = l.length - k ∧ k ≤ l.length ∧ s5 = .int .i64 (k : Int) ∧ vo = s4 ∧ Hid (WrO w l k vo wr))
    case atStart => exact ⟨0, _, rfl, Nat.zero_le _, rfl, rfl, R0⟩
    case round =>
      obtain ⟨k, vo, rfl, hk, rfl, rfl, HI⟩ := hrel
      clear R0
      by_cases hlt : k < l.length
      · obtain ⟨b, off, rfl, c1, c2, hbw⟩ := (HF.out).get k hlt
        have c1 := (HI.out.2.cell (p := ⟨b, off + k * 2, none⟩) hbw).trans c1
        have c2 := (HI.out.2.cell (p := ⟨b, off + k * 2 + 1, none⟩) hbw).trans c2
        have hp := (List.all_eq_true.1 HAL.out) _ (List.getElem_mem hlt)
        simp only [rOk, Bool.and_eq_true, decide_eq_true_eq] at hp
        have HWR := Lib.hid (wrap_up hlt (Nat.le_trans H4.out (by decide)))
        have hsn : wrR (l.take (k + 1)) = wrR (l.take k) ++ (l[k].1.data.toList ++ [UInt8.ofNat l[k].2.toNat]) := by rw [List.take_succ_eq_append_getElem hlt, wrR_snoc]
        have hln : (wrR (l.take k)).length ≤ 1000000 := by
          rw [wrR_len (by rw [List.all_eq_true]; exact fun x hx => (List.all_eq_true.1 HAL.out) x (List.mem_of_mem_take hx)), List.length_take]
          have := H4.out; omega
        have hu := byte_wrap hp.2
        have hps := hp.1
        have HO0 := Lib.hid HI.out.1
        have HZ0 := Lib.hid HI.out.2.size
        -- behind the name
        have H1 : Hid (∀ v5 W5, wr.grownBy W5 vo.ownBlock → W5.ownsRow w.heap.size 5 1 v5 ((wrR (l.take k)).length + l[k].1.size) (bytesC (wrR (l.take k)) ++ Lib.strCells l[k].1) → W5.cell? ⟨b, off + k * 2 + 1, none⟩ = some (.int .i64 l[k].2) ∧ w.heap.size ≤ W5.heap.size ∧ Below w.heap.size w W5) := Lib.hid fun v5 W5 hg ho => by
          have hB : Below w.heap.size w W5 := HI.out.2.grown hg HI.out.2.size fun j e => (HI.out.1.lt j e).1
          obtain ⟨b', off', e', _, d2, _⟩ := (HF.out).get k hlt
          cases e'
          exact ⟨(hB.cell (p := ⟨b, off + k * 2 + 1, none⟩) hbw).trans d2, hB.size, hB⟩
        have H2 : Hid (∀ v5 W5 v6 W6 o, Below w.heap.size w W5 → W5.ownsRow w.heap.size 5 1 v5 ((wrR (l.take k)).length + l[k].1.size) (bytesC (wrR (l.take k)) ++ Lib.strCells l[k].1) → (W5.alloc o).grownBy W6 v5.ownBlock → W6.ownsRow w.heap.size 5 1 v6 ((wrR (l.take k)).length + l[k].1.size + 1) (bytesC (wrR (l.take k)) ++ Lib.strCells l[k].1 ++ [.int .u8 ((UInt8.ofNat l[k].2.toNat).toNat : Int)]) → WrO w l (k + 1) v6 W6) := Lib.hid fun v5 W5 v6 W6 o hB ho hg ho6 => by
          refine ⟨?_, (hB.alloc hB.size o).grown hg (by have := hB.size; simp; omega) fun j e => (ho.lt j e).1⟩
          have e1 : bytesC (wrR (l.take k)) ++ Lib.strCells l[k].1 ++ [.int .u8 ((UInt8.ofNat l[k].2.toNat).toNat : Int)] = bytesC (wrR (l.take (k + 1))) := by
            rw [hsn, strCells_bytes]; simp [bytesC]
          have e2 : (wrR (l.take (k + 1))).length = (wrR (l.take k)).length + l[k].1.size + 1 := by
            rw [hsn, List.length_append, List.length_append, ← Lib.size_eq]; simp; omega
          rw [e2, ← e1]
          exact ho6
        clear HI hsn hp HF
        generalize l[k] = p at *
        obtain ⟨i, q⟩ := p
        simp only at c1 c2 hu hps H1 H2
        generalize (wrR (l.take k)).length = wn at *
        generalize wrR (l.take k) = wl at *
        generalize ((UInt8.ofNat q.toNat).toNat : Int) = bt at *
        have L1 := Lib.hid (show wn + i.size ≤ maxLen ∧ wn + i.size ≤ 140737488355328 ∧ wn + i.size + 1 ≤ maxLen ∧ (wn + i.size + 1) * 1 ≤ 140737488355328 from ⟨Nat.le_trans (by omega : wn + i.size ≤ 2000000) (by decide), by omega, Nat.le_trans (by omega : wn + i.size + 1 ≤ 2000000) (by decide), by omega⟩)
        have HBZ : Hid (∀ W : World, w.heap.size ≤ W.heap.size → ∀ o, w.heap.size ≤ (W.alloc o).heap.size) := Lib.hid fun W h o => by simp; omega
        clear hln hps
        go_wp2_with (first
          | (refine chkA 91 91 ⟨_, _, by with_reducible rfl⟩ ?_
             refine wpList_append_y (by rfl) _ _ _ rfl w.heap.size 5 jU _ 1 1 Tryz.underlying91 hjU hU0 hU1 hU2 rfl (by decide) _ _ _ (by rfl) (HO5.out.alloc _) _ 1 _ (by rfl) (yields_boxL _ #[.int .u8 bt] _ 1 1) rfl (one1 _ rfl) L1.out.2.2.1 L1.out.2.2.2 (HBZ.out _ HZ5.out _) ?_
             intro v6 W6 ho6 hg6 ha6
             have HN6 := Lib.hid (H2.out v5 W5 v6 W6 _ HB5.out HO5.out hg6 ho6)
             clear ho6 hg6 ha6)
          | (refine chkA 91 9 ⟨_, _, by with_reducible rfl⟩ ?_
             refine Lib.wpList_append_own_string _ (by rfl) _ _ _ _ rfl w.heap.size 5 jU Tryz.underlying91 Tryz.underlying9 hjU hU0 hU1 hU2 _ _ _ (by rfl) HO0.out i (by rfl) L1.out.1 L1.out.2.1 HZ0.out ?_
             intro v5 W5 ho5 hg5 ha5
             obtain ⟨f2, f3, f4⟩ := H1.out v5 W5 hg5 ho5
             have HO5 := Lib.hid ho5
             have HZ5 := Lib.hid f3
             have HB5 := Lib.hid f4
             clear ho5 hg5 ha5 f3 f4))
        go_roundg (l.length - (k + 1))
        case measure => omega
        case rel => exact ⟨k + 1, _, rfl, hlt, congrArg (Value.int .i64) HWR.out, rfl, HN6⟩
      · obtain rfl : k = l.length := by omega
        obtain ⟨g1, g2⟩ := HI.out
        rw [List.take_length] at g1
        have cv := conv_rowC g1
        have HG := Lib.hid g2
        clear HI g1 g2 hlt hk
        go_wp2_with fail
        go_ret2
        exact ⟨rfl, HG.out⟩
end Go.Proofs.YtdcjhpafipbpkaaGreatDoor
namespace Go.Proofs.YtdcjhpafipbpkaaGreatDoor
set_option linter.unusedVariables false
set_option maxRecDepth 100000
set_option maxHeartbeats 4000000
open Go.RowKit
/-- So many refs of bytes. -/
def rdK : Nat → ByteArray → List Rf
  | 0, _ => []
  | n + 1, r => (r.extract 0 33, (((r.data.toList.getD 33 0).toNat : Nat) : Int)) :: rdK n (r.extract 34 r.size)
theorem rdK_len : ∀ (n : Nat) (r : ByteArray), (rdK n r).length = n
  | 0, _ => rfl
  | n + 1, r => by simp [rdK, rdK_len n]
theorem rdK_in : ∀ (n : Nat) (r : ByteArray), ∀ p ∈ rdK n r, RfIn p
  | 0, _ => fun p hp => by cases hp
  | n + 1, r => fun p hp => by
    simp only [rdK, List.mem_cons] at hp
    rcases hp with rfl | hp
    · have := (r.data.toList.getD 33 0).toNat_lt
      unfold RfIn
      simp only
      omega
    · exact rdK_in n _ p hp
/-- What is read of bytes. -/
def readR (s : ByteArray) : Option (List Rf) := if s.size % 34 = 0 ∧ rightR (rdK (s.size / 34) s) = true then some (rdK (s.size / 34) s) else none
/-- What is written is read back. -/
theorem rdK_wrR : ∀ (l : List Rf), l.all rOk = true → rdK l.length (ofL (wrR l)) = l
  | [], _ => rfl
  | p :: r, h => by
    simp only [List.all_cons, Bool.and_eq_true] at h
    have hp := h.1
    simp only [rOk, Bool.and_eq_true, decide_eq_true_eq] at hp
    have hl : p.1.data.toList.length = 33 := by rw [← Lib.size_eq]; exact hp.1
    have e : wrR (p :: r) = p.1.data.toList ++ ([UInt8.ofNat p.2.toNat] ++ wrR r) := by simp [wrR]
    have e1 : (ofL (wrR (p :: r))).extract 0 33 = p.1 := by
      rw [e, ← hl, ofL_extract0, ofL_toList]
    have e2 : (ofL (wrR (p :: r))).extract 34 (ofL (wrR (p :: r))).size = ofL (wrR r) := by
      have h34 : (p.1.data.toList ++ [UInt8.ofNat p.2.toNat]).length = 34 := by rw [List.length_append, hl]; rfl
      rw [e, ← List.append_assoc, ← h34, ofL_extract1]
    have e3 : (((ofL (wrR (p :: r))).data.toList.getD 33 0).toNat : Int) = p.2 := by
      rw [toList_ofL, e, List.getD_eq_getElem?_getD, List.getElem?_append_right (by omega), hl]
      simp
      omega
    simp only [List.length_cons, rdK, e1, e2, e3, rdK_wrR r h.2]
/-- What is read is written again. -/
theorem wrR_rdK : ∀ (n : Nat) (s : ByteArray), s.size = 34 * n → (rdK n s).all rOk = true → wrR (rdK n s) = s.data.toList
  | 0, s, hs, _ => by
    have : s.data.toList.length = 0 := by rw [← Lib.size_eq]; omega
    rw [List.length_eq_zero_iff.1 this]; rfl
  | n + 1, s, hs, h => by
    simp only [rdK, List.all_cons, Bool.and_eq_true] at h
    have hsz : (s.extract 34 s.size).size = 34 * n := by rw [ByteArray.size_extract]; omega
    have ih := wrR_rdK n (s.extract 34 s.size) hsz h.2
    have hl : s.data.toList.length = 34 * (n + 1) := by rw [← Lib.size_eq]; exact hs
    have e : wrR (rdK (n + 1) s) = (s.extract 0 33).data.toList ++ ([UInt8.ofNat ((s.data.toList.getD 33 0).toNat : Int).toNat] ++ wrR (rdK n (s.extract 34 s.size))) := by simp [wrR, rdK]
    rw [e, ih]
    have e0 : UInt8.ofNat ((s.data.toList.getD 33 0).toNat : Int).toNat = s.data.toList.getD 33 0 := by simp
    have x1 : (s.extract 0 33).data.toList = s.data.toList.take 33 := by simp [ByteArray.data_extract]
    have x2 : (s.extract 34 s.size).data.toList = s.data.toList.drop 34 := by
      rw [ByteArray.data_extract, Array.toList_extract]
      simp only [List.extract_eq_take_drop]
      rw [List.take_of_length_le]
      rw [List.length_drop, ← Lib.size_eq]
      omega
    rw [e0, x1, x2]
    generalize s.data.toList = D at *
    have h33 : 33 < D.length := by omega
    have e4 : D.getD 33 0 = D[33] := by rw [List.getD_eq_getElem?_getD, List.getElem?_eq_getElem h33]; rfl
    rw [e4]
    calc D.take 33 ++ ([D[33]] ++ D.drop 34) = D.take 33 ++ D.drop 33 := by rw [List.drop_eq_getElem_cons h33]; rfl
      _ = D := List.take_append_drop 33 D
end Go.Proofs.YtdcjhpafipbpkaaGreatDoor
namespace Go.Proofs.YtdcjhpafipbpkaaGreatDoor
set_option linter.unusedVariables false
set_option maxRecDepth 100000
set_option maxHeartbeats 4000000
open Go.RowKit
/-- The store, the variable that holds it, and a builder with what is read so far. -/
def BtS (w1 w : World) (K : Nat → Prop) (sb rb ti tl n N m : Nat) (C : List Ck) (L : List Lg) (X : List (Nat × ByteArray)) (ys bb : Nat) (out : List UInt8) (W : World) : Prop :=
  ∃ v, W.heap[ys]? = some (.cells #[.pointer (some ⟨sb, 0, none⟩)] 28 (0, 0)) ∧ BdS W bb out v ∧ RcX w1 W W (fun j => ((K j ∨ j = ys) ∨ j = bb) ∨ v.ownBlock = some j) sb rb ti tl n N m C L X ∧ Kept K w W ∧
    (w.heap.size ≤ ys ∧ ys < bb ∧ w1.heap.size ≤ w.heap.size ∧ sb < w.heap.size ∧ ti < w.heap.size ∧ tl < w.heap.size) ∧ (∀ j, K j → j < w.heap.size) ∧ (out = [] → v = .slice none 0 0)
section
variable {w1 w0 w W W2 w3 w4 : World} {K : Nat → Prop} {sb rb ti tl n N m ys bb : Nat} {C : List Ck} {L : List Lg} {X : List (Nat × ByteArray)} {out : List UInt8}
theorem rc_get (h : Hid (RcX w1 w0 w K sb rb ti tl n N m C L X)) (hN : 3 * m ≤ N ∧ N ≤ 1000) (id : ByteArray) (hi : id.size ≤ 96) (c : Ck) (hc : cAt C id = some c) :
    Calls Tryz.prog 29 #[.pointer (some ⟨sb, 0, none⟩), .string id] w fun e w' => e = .returned (.tuple #[.string c.text, .int .i64 0]) ∧ Hid (RcX w1 w0 w' K sb rb ti tl n N m C L X) := by
  obtain ⟨⟨a, h1, h2⟩, h3, h4⟩ := h.out
  refine (Get_yes w1 w w0 K sb rb ti tl n N a L.length C L X id c (Lib.hid h2) (by omega) hi hc (h3 c (cAt_some hc).1)).mono ?_
  rintro e w' ⟨rfl, hE⟩
  exact ⟨rfl, Lib.hid ⟨⟨a, h1, hE.out⟩, h3, h4⟩⟩
theorem rc_get_no (h : Hid (RcX w1 w0 w K sb rb ti tl n N m C L X)) (hN : 3 * m ≤ N ∧ N ≤ 1000) (id : ByteArray) (hi : id.size ≤ 96) (hc : cAt C id = none) :
    Calls Tryz.prog 29 #[.pointer (some ⟨sb, 0, none⟩), .string id] w fun e w' => e = .returned (.tuple #[.string ⟨#[]⟩, .int .i64 6]) ∧ Hid (RcX w1 w0 w' K sb rb ti tl n N m C L X) := by
  obtain ⟨⟨a, h1, h2⟩, h3, h4⟩ := h.out
  refine (Get_no w1 w w0 K sb rb ti tl n N a L.length C L X id (Lib.hid h2) (by omega) hi hc).mono ?_
  rintro e w' ⟨rfl, hE⟩
  exact ⟨rfl, Lib.hid ⟨⟨a, h1, hE.out⟩, h3, h4⟩⟩
theorem BdS.of {W W' : World} {b : Nat} {l : List UInt8} {v : Value} (h : BdS W b l v) (h1 : W'.heap[b]? = W.heap[b]?) (h2 : ∀ k, v.ownBlock = some k → W'.heap[k]? = W.heap[k]?) : BdS W' b l v := by
  obtain ⟨⟨p, hp, hb⟩, ho⟩ := h
  exact ⟨⟨p, hp, h1.trans hb⟩, ownsRowF_of2 ho h2⟩
theorem BtS.below {W' : World} (h : BtS w1 w K sb rb ti tl n N m C L X ys bb out W) (hb : Below W.heap.size W W') : BtS w1 w K sb rb ti tl n N m C L X ys bb out W' := by
  obtain ⟨v, h1, h2, h3, h4, h5, h6, h7⟩ := h
  have hk := h3.keep hb
  exact ⟨v, (hk ys (.inl (.inl (.inr rfl)))).trans h1, h2.of (hk bb (.inl (.inr rfl))) fun k e => hk k (.inr e), ((h3.new hb).mono fun j hj => .inl hj), h4.trans (hk.mono fun j hj => .inl (.inl (.inl hj))), h5, h6, h7⟩
/-- Text is written behind it. -/
theorem BtS.step {v v' : Value} {S : List UInt8} (h1 : W.heap[ys]? = some (.cells #[.pointer (some ⟨sb, 0, none⟩)] 28 (0, 0))) (h2 : BdS W bb out v) (h3 : RcX w1 W W (fun j => ((K j ∨ j = ys) ∨ j = bb) ∨ v.ownBlock = some j) sb rb ti tl n N m C L X) (h4 : Kept K w W)
    (h5 : w.heap.size ≤ ys ∧ ys < bb ∧ w1.heap.size ≤ w.heap.size ∧ sb < w.heap.size ∧ ti < w.heap.size ∧ tl < w.heap.size) (h6 : ∀ j, K j → j < w.heap.size)
    (g2 : BdS w4 bb (out ++ S) v') (hu : Upd (fun k => k = bb ∨ v.ownBlock = some k) W w4) (hv : v'.ownBlock = v.ownBlock ∨ ∀ k, v'.ownBlock = some k → W.heap.size ≤ k) (hS : S ≠ []) : BtS w1 w K sb rb ti tl n N m C L X ys bb (out ++ S) w4 := by
  have hlo : ∀ k, v.ownBlock = some k → bb + 1 ≤ k := fun k e => (ownsRowF_lt h2.2 e).1
  have hF : ∀ k, (k = bb ∨ v.ownBlock = some k) → bb ≤ k := fun k e => e.elim (fun e => by omega) fun e => by have := hlo k e; omega
  have hn := h3.updN hu fun k e => by
    have := hF k e
    refine ⟨?_, by omega, by omega, by omega, by omega⟩
    rcases e with e | e
    · exact .inl (.inr e)
    · exact .inr e
  have ky : w4.heap[ys]? = W.heap[ys]? := hu.block ys (lt_of_heap h1) fun e => by have := hF ys e; omega
  have kk : Kept K W w4 := fun k hk => hu.block k (h3.klt (.inl (.inl (.inl hk)))) fun e => by have := hF k e; have := h6 k hk; omega
  refine ⟨v', ky.trans h1, g2, hn.mono fun j hj => ?_, h4.trans kk, h5, h6, fun e => absurd (List.append_eq_nil_iff.1 e).2 hS⟩
  rcases hj with hj | hj
  · exact .inl (.inl hj)
  · rcases hv with e | e
    · rw [e] at hj; exact .inl (.inr hj)
    · exact .inr ⟨e j hj, (ownsRowF_lt g2.2 hj).2⟩
end
theorem piece_yes (w1 w W : World) (K : Nat → Prop) (sb rb ti tl n N m ys bb : Nat) (C : List Ck) (L : List Lg) (X : List (Nat × ByteArray)) (out : List UInt8) (id : ByteArray) (c : Ck) (a b : Nat) (h : BtS w1 w K sb rb ti tl n N m C L X ys bb out W) (hN : 3 * m ≤ N ∧ N ≤ 1000) (hi : id.size ≤ 96) (hc : cAt C id = some c) (hs : c.text.size ≤ 128) (hab : a < b ∧ b ≤ c.text.size) (ho : out.length ≤ 1000000) :
    Calls Tryz.prog 81 #[.agg #[.string id, .int .i64 (c.text.size : Int)], .int .i64 (a : Int), .int .i64 (b : Int), .pointer (some ⟨ys, 0, none⟩), .pointer (some ⟨bb, 0, none⟩)] W fun e w' => e = .returned (.int .i64 0) ∧ Hid (BtS w1 w K sb rb ti tl n N m C L X ys bb (out ++ (c.text.extract a b).data.toList) w') := by
  obtain ⟨v, h1, h2, h3, h4, h5, h6, h7⟩ := h
  have hly := lt_of_heap h1
  have c0 : W.cell? ⟨ys, 0, none⟩ = some (.pointer (some ⟨sb, 0, none⟩)) := cell_lit h1 rfl
  have hb : Below W.heap.size W (W.alloc (.cells #[.string id, .int .i64 (c.text.size : Int)] 57)) := (Below.refl _ _).alloc (Nat.le_refl _) _
  have hn := h3.new hb
  have GT := rc_get (Lib.hid hn) hN id hi c hc
  have HT : Hid (∀ w3, RcX w1 (W.alloc (.cells #[.string id, .int .i64 (c.text.size : Int)] 57)) w3 (fun k => (((K k ∨ k = ys) ∨ k = bb) ∨ v.ownBlock = some k) ∨ (W.heap.size ≤ k ∧ k < (W.alloc (.cells #[.string id, .int .i64 (c.text.size : Int)] 57)).heap.size)) sb rb ti tl n N m C L X →
      (w3.cell? ⟨W.heap.size, 1, none⟩ = some (.int .i64 (c.text.size : Int))) ∧ Hid (Calls Tryz.prog 82 #[.pointer (some ⟨bb, 0, none⟩), .string (c.text.extract a b)] w3 fun e w' => e = .returned (.tuple #[.int .i64 (c.text.extract a b).size, .nilIface]) ∧ Hid (BtS w1 w K sb rb ti tl n N m C L X ys bb (out ++ (c.text.extract a b).data.toList) w'))) := Lib.hid fun w3 hr => by
    have kb := hr.kept
    have kw : ∀ j, (((K j ∨ j = ys) ∨ j = bb) ∨ v.ownBlock = some j) → w3.heap[j]? = W.heap[j]? := fun j hj => (kb j (.inl hj)).trans (hb.block j (h3.klt hj))
    refine ⟨cell_lit ((kb W.heap.size (.inr ⟨Nat.le_refl _, by simp⟩)).trans (heap_alloc_new _ _)) rfl, Lib.hid ?_⟩
    have hbd : BdS w3 bb out v := h2.of (kw bb (.inl (.inr rfl))) fun k e => kw k (.inr e)
    have hne : (c.text.extract a b).data.toList ≠ [] := fun e => by
      have := congrArg List.length e
      rw [← Lib.size_eq, ByteArray.size_extract] at this
      simp at this
      omega
    have he : (c.text.extract a b).size ≤ 128 := by rw [ByteArray.size_extract]; omega
    refine (WriteU_c w3 bb out v (c.text.extract a b) hbd (by omega)).mono ?_
    rintro e w4 ⟨rfl, hE⟩
    obtain ⟨v', e1, e2, e3⟩ := hE.out
    exact ⟨rfl, Lib.hid (BtS.step ((kw ys (.inl (.inl (.inr rfl)))).trans h1) hbd ((hr.map fun a g => g.reset).mono fun j hj => .inl hj) (h4.trans fun j hj => kw j (.inl (.inl (.inl hj)))) h5 h6 e1 e2 e3 hne)⟩
  have hab1 := Nat.le_of_lt hab.1
  have hab2 := hab.2
  obtain ⟨tx, htx⟩ : ∃ tx, c.text = tx := ⟨_, rfl⟩
  rw [htx] at GT HT hab2 ⊢
  clear h1 h2 h3 h4 h5 h6 h7 hb hn hc hab ho hs
  go_enter Tryz.func81, Tryz.ntmps81
  go_wp2_with fail
  refine GT.mono ?_
  rintro e w3 ⟨rfl, HR⟩
  obtain ⟨c1, WR⟩ := HT.out w3 HR.out
  have WR := WR.out
  clear GT HT HR
  go_wp2_with fail
  refine WR.mono ?_
  rintro e w4 ⟨rfl, hE⟩
  clear WR
  go_wp2_with fail
  go_ret
  exact ⟨rfl, hE⟩
/-- A chunk that is not there, or is of another length. -/
theorem piece_no (w1 w W : World) (K : Nat → Prop) (sb rb ti tl n N m ys bb : Nat) (C : List Ck) (L : List Lg) (X : List (Nat × ByteArray)) (out : List UInt8) (id : ByteArray) (len a b : Int) (h : BtS w1 w K sb rb ti tl n N m C L X ys bb out W) (hN : 3 * m ≤ N ∧ N ≤ 1000) (hi : id.size ≤ 96) (hc : cAt C id = none ∨ ∃ c, cAt C id = some c ∧ (c.text.size : Int) ≠ len) :
    Calls Tryz.prog 81 #[.agg #[.string id, .int .i64 len], .int .i64 a, .int .i64 b, .pointer (some ⟨ys, 0, none⟩), .pointer (some ⟨bb, 0, none⟩)] W fun e w' => e = .returned (.int .i64 6) ∧ Hid (BtS w1 w K sb rb ti tl n N m C L X ys bb out w') := by
  obtain ⟨v, h1, h2, h3, h4, h5, h6, h7⟩ := h
  have hly := lt_of_heap h1
  have c0 : W.cell? ⟨ys, 0, none⟩ = some (.pointer (some ⟨sb, 0, none⟩)) := cell_lit h1 rfl
  have hb : Below W.heap.size W (W.alloc (.cells #[.string id, .int .i64 len] 57)) := (Below.refl _ _).alloc (Nat.le_refl _) _
  have hn := h3.new hb
  have HT : Hid (∀ w3, RcX w1 (W.alloc (.cells #[.string id, .int .i64 len] 57)) w3 (fun k => (((K k ∨ k = ys) ∨ k = bb) ∨ v.ownBlock = some k) ∨ (W.heap.size ≤ k ∧ k < (W.alloc (.cells #[.string id, .int .i64 len] 57)).heap.size)) sb rb ti tl n N m C L X →
      (w3.cell? ⟨W.heap.size, 1, none⟩ = some (.int .i64 len)) ∧ Hid (BtS w1 w K sb rb ti tl n N m C L X ys bb out w3)) := Lib.hid fun w3 hr => by
    have kb := hr.kept
    have kw : ∀ j, (((K j ∨ j = ys) ∨ j = bb) ∨ v.ownBlock = some j) → w3.heap[j]? = W.heap[j]? := fun j hj => (kb j (.inl hj)).trans (hb.block j (h3.klt hj))
    exact ⟨cell_lit ((kb W.heap.size (.inr ⟨Nat.le_refl _, by simp⟩)).trans (heap_alloc_new _ _)) rfl, Lib.hid ⟨v, (kw ys (.inl (.inl (.inr rfl)))).trans h1, h2.of (kw bb (.inl (.inr rfl))) fun k e => kw k (.inr e), (hr.map fun a g => g.reset).mono fun j hj => .inl hj, h4.trans fun j hj => kw j (.inl (.inl (.inl hj))), h5, h6, h7⟩⟩
  rcases hc with hc | ⟨c, hc, hne⟩
  · have GT := rc_get_no (Lib.hid hn) hN id hi hc
    clear h1 h2 h3 h4 h5 h6 h7 hb hn hc
    go_enter Tryz.func81, Tryz.ntmps81
    go_wp2_with fail
    refine GT.mono ?_
    rintro e w3 ⟨rfl, HR⟩
    obtain ⟨c1, BS⟩ := HT.out w3 HR.out
    clear GT HT HR
    go_wp2_with fail
    go_ret
    exact ⟨rfl, BS⟩
  · have GT := rc_get (Lib.hid hn) hN id hi c hc
    have hbn : ((c.text.size : Int) != len) = true := by simpa using hne
    generalize c.text = tx at *
    clear h1 h2 h3 h4 h5 h6 h7 hb hn hc hne
    go_enter Tryz.func81, Tryz.ntmps81
    go_wp2_with fail
    refine GT.mono ?_
    rintro e w3 ⟨rfl, HR⟩
    obtain ⟨c1, BS⟩ := HT.out w3 HR.out
    clear GT HT HR
    go_wp2_with fail
    go_ret
    exact ⟨rfl, BS⟩
end Go.Proofs.YtdcjhpafipbpkaaGreatDoor
namespace Go.Proofs.YtdcjhpafipbpkaaGreatDoor
set_option linter.unusedVariables false
set_option maxRecDepth 100000
set_option maxHeartbeats 2000000
open Go.RowKit
theorem upd_freeze {S : Nat → Prop} {a w : World} (h : Upd S a w) {p : Addr} (hp : S p.block) (n : Nat) : Upd S a (w.freeze p n) := by
  refine h.trans ?_
  unfold World.freeze
  split
  · exact Upd.refl _ _
  · exact ⟨rfl, rfl, rfl, by simp, fun k hk hn => by
      simp only [Array.getElem?_modify]
      rw [if_neg (fun e : p.block = k => hn (by rw [← e]; exact hp))]⟩
theorem cellsU8 : Tryz.prog.cellsOf 5 = 1 := by kernel_rfl
theorem StringU_c (W : World) (b : Nat) (l : List UInt8) (v : Value) (h : BdS W b l v) (h0 : l = [] → v = .slice none 0 0) :
    Calls Tryz.prog 83 #[.pointer (some ⟨b, 0, none⟩)] W fun e w' => e = .returned (.string (ofL l)) ∧ Hid (Upd (fun k => v.ownBlock = some k) W w') := by
  obtain ⟨⟨p, hp, hb⟩, ho⟩ := h
  have mixed := Tryz.lays166.mixed
  by_cases hl : l = []
  · subst hl
    rw [h0 rfl] at hb ⊢
    have hUS : ∀ w q, (Builtin.unsafeString_ #[235, 3] 9 #[.pointer q, .int .i64 0]).run Tryz.prog w = .ok (.string .empty) w := fun w q => Lib.run_unsafeString_none w _ _ _ q
    have c1 : W.drew.cell? ⟨b, 1, none⟩ = some (.slice none 0 0) := cell_lit (w := W.drew) (i := 1) hb rfl
    have hSD : (Builtin.unsafeSliceData_ #[91] 235 #[.slice none 0 0]).run Tryz.prog W.drew = .ok (.pointer none) W.drew := rfl
    have HU : Hid (Upd (fun k => (Value.slice none 0 0).ownBlock = some k) W W.drew) := Lib.hid (Upd.refl _ _).drew
    clear ho hb hp h0
    go_enter Tryz.func83, Tryz.ntmps83
    go_wp2_with fail
    go_region_o
    all_goals (go_wp2_with fail; go_ret; exact ⟨rfl, HU⟩)
  · have hl0 : l.length ≠ 0 := by simpa using hl
    obtain ⟨g, cap, cur, fz, rfl, hbg, hg, hfz, hnc, hcm, hcs, htake⟩ : ∃ g cap cur fz, v = .slice (some ⟨g, 0, none⟩) l.length cap ∧ b + 1 ≤ g ∧ W.heap[g]? = some (.cells cur 5 fz) ∧ fz.2 ≤ l.length * 1 ∧ l.length ≤ cap ∧ cap ≤ maxLen ∧ cur.size = cap * 1 ∧ cur.toList.take (l.length * 1) = Lib.byteCells l := by
      rcases ho.2 with ⟨_, hz⟩ | ⟨g, cap, cur, fz, hv, r⟩
      · exact absurd hz hl0
      · exact ⟨g, cap, cur, fz, hv, r⟩
    have hsm : maxLen = 9223372036854775807 := by decide
    have c1 : W.drew.cell? ⟨b, 1, none⟩ = some (.slice (some ⟨g, 0, none⟩) l.length cap) := cell_lit (w := W.drew) (i := 1) hb rfl
    have hSD : (Builtin.unsafeSliceData_ #[91] 235 #[.slice (some ⟨g, 0, none⟩) l.length cap]).run Tryz.prog W.drew = .ok (.pointer (some ⟨g, 0, none⟩)) W.drew :=
      Lib.run_unsafeSliceData_row _ _ _ _ _ _ (by omega)
    have hUS : (Builtin.unsafeString_ #[235, 3] 9 #[.pointer (some ⟨g, 0, none⟩), .int .i64 l.length]).run Tryz.prog W.drew = .ok (.string ⟨l.toArray⟩) (W.drew.freeze ⟨g, 0, none⟩ l.length) := by
      refine Lib.run_unsafeString_row W.drew 235 3 9 5 Tryz.underlying235 cellsU8 g cur.size (by have hg' : W.drew.heap[g]? = some (.cells cur 5 fz) := hg; simp [World.shape?, hg']) l hl (by omega) (by omega) ?_
      intro j x hx
      have := ho.cells (g := g) rfl j (.int .u8 x.toNat) (by simp [Lib.byteCells, hx])
      exact this
    have HU : Hid (Upd (fun k => (Value.slice (some ⟨g, 0, none⟩) l.length cap).ownBlock = some k) W (W.drew.freeze ⟨g, 0, none⟩ l.length)) := Lib.hid (by
      have u0 : Upd (fun k => (Value.slice (some ⟨g, 0, none⟩) l.length cap).ownBlock = some k) W W.drew := (Upd.refl _ _).drew
      exact upd_freeze u0 (p := ⟨g, 0, none⟩) rfl _)
    clear ho hb hp h0 hbg hg hfz hnc hcm hcs htake hl hl0 hsm
    go_enter Tryz.func83, Tryz.ntmps83
    go_wp2_with fail
    go_region_o
    all_goals (go_wp2_with fail; go_ret; exact ⟨rfl, HU⟩)
end Go.Proofs.YtdcjhpafipbpkaaGreatDoor
namespace Go.Proofs.YtdcjhpafipbpkaaGreatDoor
set_option linter.unusedVariables false
set_option maxRecDepth 100000
set_option maxHeartbeats 4000000
open Go.RowKit
/-- Of one chunk what is asked; none: it is lost. -/
def by1 (C : List Ck) (lo hi at_ : Int) (p : Rf) : Option (List UInt8) :=
  if pA lo at_ < pB hi at_ p.2 then
    (cAt C p.1).bind fun c => if (c.text.size : Int) = p.2 then some (c.text.extract (pA lo at_).toNat (pB hi at_ p.2).toNat).data.toList else none
  else some []
def byL (C : List Ck) (lo hi : Int) : Int → List Rf → Option (List UInt8)
  | _, [] => some []
  | at_, p :: r => (by1 C lo hi at_ p).bind fun x => (byL C lo hi (at_ + p.2) r).map fun y => x ++ y
theorem byL_snoc (C : List Ck) (lo hi : Int) : ∀ (l : List Rf) (at_ : Int) (p : Rf), byL C lo hi at_ (l ++ [p]) = (byL C lo hi at_ l).bind fun x => (by1 C lo hi (at_ + sumR l) p).map fun y => x ++ y
  | [], at_, p => by
    simp only [List.nil_append, byL, sumR, Int.add_zero]
    cases by1 C lo hi at_ p <;> simp
  | q :: r, at_, p => by
    simp only [List.cons_append, byL, sumR, byL_snoc C lo hi r]
    rw [Int.add_assoc]
    cases by1 C lo hi at_ q with
    | none => rfl
    | some x =>
      cases byL C lo hi (at_ + q.2) r with
      | none => rfl
      | some y =>
        simp only [Option.bind_some, Option.map_some]
        cases by1 C lo hi (at_ + (q.2 + sumR r)) p <;> simp
theorem byL_take {C : List Ck} {lo hi : Int} {l : List Rf} {k : Nat} (h : k < l.length) : byL C lo hi 0 (l.take (k + 1)) = (byL C lo hi 0 (l.take k)).bind fun x => (by1 C lo hi (atK l k) l[k]).map fun y => x ++ y := by
  rw [List.take_succ_eq_append_getElem h, byL_snoc, Int.zero_add]; rfl
theorem byL_none {C : List Ck} {lo hi : Int} {l : List Rf} : ∀ k, k ≤ l.length → byL C lo hi 0 (l.take k) = none → byL C lo hi 0 l = none := by
  have : ∀ d k, l.length - k = d → k ≤ l.length → byL C lo hi 0 (l.take k) = none → byL C lo hi 0 l = none := by
    intro d
    induction d with
    | zero =>
      intro k hd hk h
      rwa [show k = l.length by omega, List.take_length] at h
    | succ d ih =>
      intro k hd hk h
      have hlt : k < l.length := by omega
      refine ih (k + 1) (by omega) hlt ?_
      rw [byL_take hlt, h]; rfl
  exact fun k => this _ k rfl
/-- What a recipe stands for, from a place on. -/
def bytesL (C : List Ck) (l : List Rf) (frm n : Int) : ByteArray × Int :=
  if rightR l then match byL C (endsL (sumR l) frm n).1 (endsL (sumR l) frm n).2 0 l with
    | some out => (ofL out, 0)
    | none => (⟨#[]⟩, 6)
  else (⟨#[]⟩, 1)
theorem RefsAt.kept {w w' : World} {K : Nat → Prop} {v : Value} {l : List Rf} (h : RefsAt w v l) (hk : Kept K w w') (hv : ∀ b off n c, v = .slice (some ⟨b, off, none⟩) n c → K b) : RefsAt w' v l := by
  obtain ⟨⟨a, c, rfl, hc⟩, hn⟩ := h
  refine ⟨⟨a, c, rfl, fun k hk' => ?_⟩, hn⟩
  obtain ⟨b, off, e, h1, h2, h3⟩ := hc k hk'
  have hb : w'.heap[b]? = w.heap[b]? := hk b (hv b off _ c (by rw [e]))
  have e1 : w'.cell? ⟨b, off + k * 2, none⟩ = some (.string l[k].1) := by
    rw [← h1]; simp only [World.cell?, hb]
  have e2 : w'.cell? ⟨b, off + k * 2 + 1, none⟩ = some (.int .i64 l[k].2) := by
    rw [← h2]; simp only [World.cell?, hb]
  exact ⟨b, off, e, e1, e2, World.block_lt_of_cell? w' _ e1⟩
section
variable (w1 w w0 : World) (K : Nat → Prop) (sb rb ti tl n N m : Nat) (C : List Ck) (L : List Lg) (X : List (Nat × ByteArray))
theorem BtS.start {w2 w3 : World} (h : RcX w1 w0 w K sb rb ti tl n N m C L X) (hr : RcX w1 (w.alloc (.cells #[.pointer (some ⟨sb, 0, none⟩)] 28)) w2 (fun j => K j ∨ (w.heap.size ≤ j ∧ j < (w.alloc (.cells #[.pointer (some ⟨sb, 0, none⟩)] 28)).heap.size)) sb rb ti tl n N m C L X) (hb : Below w2.heap.size w2 w3) :
    BtS w1 w K sb rb ti tl n N m C L X w.heap.size w3.heap.size [] (w3.alloc (.cells #[.pointer none, .slice none 0 0] 156)) := by
  have hs := h.sbk
  have hb2 : Below w2.heap.size w2 (w3.alloc (.cells #[.pointer none, .slice none 0 0] 156)) := hb.alloc hb.size _
  have k1 : Kept (fun j => K j ∨ (w.heap.size ≤ j ∧ j < (w.alloc (.cells #[.pointer (some ⟨sb, 0, none⟩)] 28)).heap.size)) (w.alloc (.cells #[.pointer (some ⟨sb, 0, none⟩)] 28)) (w3.alloc (.cells #[.pointer none, .slice none 0 0] 156)) := hr.kept.trans (hr.keep hb2)
  have hy := hr.klt (k := w.heap.size) (.inr ⟨Nat.le_refl _, by simp⟩)
  have hsz := hb.size
  refine ⟨.slice none 0 0, (k1 _ (.inr ⟨Nat.le_refl _, by simp⟩)).trans (heap_alloc_new _ _), ⟨⟨_, .inl rfl, heap_alloc_new _ _⟩, World.ownsRowF_of (World.ownsRow_nil _ _ _ _)⟩, ?_, (h.keep ((Below.refl _ _).alloc (Nat.le_refl _) _)).trans (k1.mono fun j hj => .inl hj), ⟨Nat.le_refl _, by omega, h.bel.size, lt_of_heap hs.1, lt_of_heap hs.2.1, lt_of_heap hs.2.2⟩, fun j hj => h.klt hj, fun _ => rfl⟩
  refine (hr.new hb2).mono fun j hj => ?_
  rcases hj with ((hj | rfl) | rfl) | hj
  · exact .inl (.inl hj)
  · exact .inl (.inr ⟨Nat.le_refl _, by simp⟩)
  · exact .inr ⟨hsz, by simp⟩
  · cases hj
/-- asked of Bytes. -/
theorem asked_b (v : Value) (l : List Rf) (W : World) (ys bb : Nat) (hW : BtS w1 w K sb rb ti tl n N m C L X ys bb [] W) (hN : 3 * m ≤ N ∧ N ≤ 1000) (hC : ∀ c ∈ C, c.text.size ≤ 128) (hv : RefsAt w v l) (hvK : ∀ b off n c, v = .slice (some ⟨b, off, none⟩) n c → K b) (hr : rightR l = true) (frm num lo hi : Int) (h1 : -9223372036854775808 ≤ frm ∧ frm < 9223372036854775808) (h2 : -9223372036854775808 ≤ num ∧ num < 9223372036854775808) (hlo : (endsL (sumR l) frm num).1 = lo) (hhi : (endsL (sumR l) frm num).2 = hi) :
    Calls Tryz.prog 80 #[v, .int .i64 frm, .int .i64 num, .func (.func 81) #[] #[.pointer (some ⟨ys, 0, none⟩), .pointer (some ⟨bb, 0, none⟩)]] W fun e w' =>
      (e = .returned (.int .i64 0) ∧ ∃ out, byL C lo hi 0 l = some out ∧ BtS w1 w K sb rb ti tl n N m C L X ys bb out w') ∨ ∃ er, er ≠ 0 ∧ e = .returned (.int .i64 er) ∧ er = 6 ∧ byL C lo hi 0 l = none ∧ ∃ out, BtS w1 w K sb rb ti tl n N m C L X ys bb out w' := by
  have hrf : ∀ out W, BtS w1 w K sb rb ti tl n N m C L X ys bb out W → RefsAt W v l := fun out W h => by
    obtain ⟨v0, -, -, -, h4, -⟩ := h
    exact hv.kept h4 hvK
  have hrp := rightR_parts hr
  have := askedB_c v l W (hrf _ _ hW) hr frm num lo hi h1 h2 hlo hhi (.pointer (some ⟨ys, 0, none⟩)) (.pointer (some ⟨bb, 0, none⟩))
    (fun k W => ∃ out, byL C lo hi 0 (l.take k) = some out ∧ out.length ≤ 128 * k ∧ BtS w1 w K sb rb ti tl n N m C L X ys bb out W)
    (fun er W => er = 6 ∧ byL C lo hi 0 l = none ∧ ∃ out, BtS w1 w K sb rb ti tl n N m C L X ys bb out W)
    ⟨[], rfl, by simp, hW⟩ (fun k a b ⟨out, g1, g2, g3⟩ hb => ⟨out, g1, g2, g3.below hb⟩) (fun k a ⟨out, g1, g2, g3⟩ => hrf out a g3)
    (fun k hk a ⟨out, g1, g2, g3⟩ hn => ⟨out, by rw [byL_take hk, g1]; unfold by1; rw [if_neg hn]; simp, by omega, g3⟩)
    (fun k hk a ⟨out, g1, g2, g3⟩ hy => by
      have hp : rOk l[k] = true := (List.all_eq_true.1 hrp.1) _ (List.getElem_mem hk)
      simp only [rOk, Bool.and_eq_true, decide_eq_true_eq] at hp
      have hT := byL_take (C := C) (lo := lo) (hi := hi) hk
      rw [g1] at hT
      have hA : 0 ≤ pA lo (atK l k) := by unfold pA; omega
      have hB : pB hi (atK l k) l[k].2 ≤ l[k].2 := by unfold pB; omega
      have hlost : (cAt C l[k].1 = none ∨ ∃ c, cAt C l[k].1 = some c ∧ (c.text.size : Int) ≠ l[k].2) → by1 C lo hi (atK l k) l[k] = none := by
        intro h
        unfold by1
        rw [if_pos hy]
        rcases h with h | ⟨c, h, h'⟩
        · rw [h]; rfl
        · rw [h]; simp [h']
      have NO : (cAt C l[k].1 = none ∨ ∃ c, cAt C l[k].1 = some c ∧ (c.text.size : Int) ≠ l[k].2) → Calls Tryz.prog 81 #[.agg #[.string l[k].1, .int .i64 l[k].2], .int .i64 (pA lo (atK l k)), .int .i64 (pB hi (atK l k) l[k].2), .pointer (some ⟨ys, 0, none⟩), .pointer (some ⟨bb, 0, none⟩)] a fun e w' => (e = .returned (.int .i64 0) ∧ ∃ out, byL C lo hi 0 (l.take (k + 1)) = some out ∧ out.length ≤ 128 * (k + 1) ∧ BtS w1 w K sb rb ti tl n N m C L X ys bb out w') ∨ ∃ er, er ≠ 0 ∧ e = .returned (.int .i64 er) ∧ er = 6 ∧ byL C lo hi 0 l = none ∧ ∃ out, BtS w1 w K sb rb ti tl n N m C L X ys bb out w' := fun hc => by
        refine (piece_no w1 w a K sb rb ti tl n N m ys bb C L X out l[k].1 l[k].2 _ _ g3 hN (by omega) hc).mono ?_
        rintro e w' ⟨rfl, hE⟩
        refine .inr ⟨6, by decide, rfl, rfl, byL_none (k + 1) hk ?_, out, hE.out⟩
        rw [hT, hlost hc]; rfl
      cases hc : cAt C l[k].1 with
      | none => exact NO (.inl hc)
      | some c =>
        by_cases hs : (c.text.size : Int) = l[k].2
        · have hm := hC c (cAt_some hc).1
          obtain ⟨x, hx⟩ : ∃ x : Nat, pA lo (atK l k) = (x : Int) := ⟨(pA lo (atK l k)).toNat, by omega⟩
          obtain ⟨y, hy'⟩ : ∃ y : Nat, pB hi (atK l k) l[k].2 = (y : Int) := ⟨(pB hi (atK l k) l[k].2).toNat, by omega⟩
          have hb1 : by1 C lo hi (atK l k) l[k] = some (c.text.extract x y).data.toList := by
            unfold by1
            rw [if_pos hy, hc, hx, hy']
            simp [hs]
          rw [hx, hy'] at hy
          rw [hx, hy', ← hs]
          refine (piece_yes w1 w a K sb rb ti tl n N m ys bb C L X out l[k].1 c x y g3 hN (by omega) hc hm (by rw [hy', ← hs] at hB; omega) (by omega)).mono ?_
          rintro e w' ⟨rfl, hE⟩
          refine .inl ⟨rfl, out ++ (c.text.extract x y).data.toList, by rw [hT, hb1]; rfl, ?_, hE.out⟩
          rw [List.length_append, ← Lib.size_eq, ByteArray.size_extract]
          omega
        · exact NO (.inr ⟨c, hc, hs⟩))
  refine this.mono ?_
  rintro e w' (⟨rfl, out, g1, -, g3⟩ | h)
  · rw [List.take_length] at g1
    exact .inl ⟨rfl, out, g1, g3⟩
  · exact .inr h
theorem BtS.fin {w1 w w0 W w' : World} {K : Nat → Prop} {sb rb ti tl n N m ys bb : Nat} {C : List Ck} {L : List Lg} {X : List (Nat × ByteArray)} {out : List UInt8} (h : RcX w1 w0 w K sb rb ti tl n N m C L X) (hW : BtS w1 w K sb rb ti tl n N m C L X ys bb out W) (v : Value) (hb : BdS W bb out v) (h3 : RcX w1 W W (fun j => ((K j ∨ j = ys) ∨ j = bb) ∨ v.ownBlock = some j) sb rb ti tl n N m C L X) (hu : Upd (fun k => v.ownBlock = some k) W w') : RcX w1 w0 w' K sb rb ti tl n N m C L X := by
  obtain ⟨v0, -, -, -, h4, h5, h6, -⟩ := hW
  have hlo : ∀ k, v.ownBlock = some k → bb + 1 ≤ k := fun k e => (ownsRowF_lt hb.2 e).1
  have hn := h3.updN hu fun k e => by
    have := hlo k e
    exact ⟨.inr e, by omega, by omega, by omega, by omega⟩
  have kk : Kept K W w' := fun k hk => hu.block k (h3.klt (.inl (.inl (.inl hk)))) fun e => by have := hlo k e; have := h6 k hk; omega
  exact ((hn.mono (K' := K) fun j hj => .inl (.inl (.inl (.inl hj)))).to (h4.trans kk)).to h.kept
theorem Bytes_c (v : Value) (l : List Rf) (h : Hid (RcX w1 w0 w K sb rb ti tl n N m C L X)) (hN : 3 * m ≤ N ∧ N ≤ 1000) (hm : m ≤ 250) (hv : RefsAt w v l) (hvK : ∀ b off n c, v = .slice (some ⟨b, off, none⟩) n c → K b) (frm num : Int) (h1 : -9223372036854775808 ≤ frm ∧ frm < 9223372036854775808) (h2 : -9223372036854775808 ≤ num ∧ num < 9223372036854775808) :
    Calls Tryz.prog 27 #[.pointer (some ⟨sb, 0, none⟩), v, .int .i64 frm, .int .i64 num] w fun e w' => e = .returned (.tuple #[.string (bytesL C l frm num).1, .int .i64 (bytesL C l frm num).2]) ∧ Hid (RcX w1 w0 w' K sb rb ti tl n N m C L X) := by
  have hC : ∀ c ∈ C, c.text.size ≤ 128 := fun c hc => by
    obtain ⟨a, -, h2⟩ := h.out.ex
    exact (h2.ok.1 c hc).t2
  have HB0 : Hid (Below w.heap.size w (w.alloc (.cells #[.pointer (some ⟨sb, 0, none⟩)] 28))) := Lib.hid ((Below.refl _ _).alloc (Nat.le_refl _) _)
  have hn := h.out.new HB0.out
  have WT := rc_waits w1 _ _ _ sb rb ti tl n N m C L X (Lib.hid hn) hN hm
  have c0 : (w.alloc (.cells #[.pointer (some ⟨sb, 0, none⟩)] 28)).cell? ⟨w.heap.size, 0, none⟩ = some (.pointer (some ⟨sb, 0, none⟩)) := cell_lit (heap_alloc_new _ _) rfl
  have RC : Hid (∀ w2, RcX w1 (w.alloc (.cells #[.pointer (some ⟨sb, 0, none⟩)] 28)) w2 (fun j => K j ∨ (w.heap.size ≤ j ∧ j < (w.alloc (.cells #[.pointer (some ⟨sb, 0, none⟩)] 28)).heap.size)) sb rb ti tl n N m C L X → Calls Tryz.prog 42 #[v] w2 fun e w' => e = .returned (.bool (rightR l)) ∧ Below w2.heap.size w2 w') := Lib.hid fun w2 hr =>
    RightR_c v l w2 ((hv.below HB0.out).kept hr.kept fun b off n c e => .inl (hvK b off n c e))
  have FIN0 : Hid (∀ w2 w3, RcX w1 (w.alloc (.cells #[.pointer (some ⟨sb, 0, none⟩)] 28)) w2 (fun j => K j ∨ (w.heap.size ≤ j ∧ j < (w.alloc (.cells #[.pointer (some ⟨sb, 0, none⟩)] 28)).heap.size)) sb rb ti tl n N m C L X → Below w2.heap.size w2 w3 → RcX w1 w0 w3 K sb rb ti tl n N m C L X) := Lib.hid fun w2 w3 hr hb =>
    (((hr.below hb).mono fun j hj => .inl hj).to (h.out.keep HB0.out)).to h.out.kept
  cases hr : rightR l with
  | false =>
    rw [hr] at RC
    have HE := Lib.hid (show bytesL C l frm num = (⟨#[]⟩, 1) by unfold bytesL; rw [hr]; rfl)
    clear h hv hvK h1 h2 hr hC hn
    go_enter Tryz.func27, Tryz.ntmps27
    go_wp2_with fail
    refine WT.mono ?_
    rintro e w2 ⟨rfl, H2⟩
    have RC2 := RC.out w2 H2.out
    clear WT RC
    go_wp2_with fail
    refine RC2.mono ?_
    rintro e w3 ⟨rfl, HB3⟩
    have HG := Lib.hid (FIN0.out w2 w3 H2.out HB3)
    clear RC2 HB3 H2 FIN0
    go_wp2_with fail
    go_ret2
    exact ⟨by rw [HE.out]; rfl, HG⟩
  | true =>
    rw [hr] at RC
    obtain ⟨lo, hlo⟩ : ∃ lo, (endsL (sumR l) frm num).1 = lo := ⟨_, rfl⟩
    obtain ⟨hi, hhi⟩ : ∃ hi, (endsL (sumR l) frm num).2 = hi := ⟨_, rfl⟩
    have HE : Hid (∀ o, byL C lo hi 0 l = some o → bytesL C l frm num = (ofL o, 0)) := Lib.hid fun o ho => by unfold bytesL; rw [if_pos hr, hlo, hhi, ho]
    have HE6 : Hid (byL C lo hi 0 l = none → bytesL C l frm num = (⟨#[]⟩, 6)) := Lib.hid fun ho => by unfold bytesL; rw [if_pos hr, hlo, hhi, ho]
    have AK : Hid (∀ W bb, BtS w1 w K sb rb ti tl n N m C L X w.heap.size bb [] W → _) := Lib.hid fun W bb hW => asked_b w1 w K sb rb ti tl n N m C L X v l W w.heap.size bb hW hN hC hv hvK hr frm num lo hi h1 h2 hlo hhi
    have ST := Lib.hid fun w2 w3 hr hb => BtS.start w1 w w0 K sb rb ti tl n N m C L X (w2 := w2) (w3 := w3) h.out hr hb
    have FI6 : Hid (∀ W bb, (∃ out, BtS w1 w K sb rb ti tl n N m C L X w.heap.size bb out W) → RcX w1 w0 W K sb rb ti tl n N m C L X) := Lib.hid fun W bb ⟨out, hW⟩ => by
      obtain ⟨v0, -, -, g3, g4, -⟩ := hW
      exact ((g3.mono fun j hj => .inl (.inl (.inl hj))).to g4).to h.out.kept
    have FI0 : Hid (∀ W bb out, BtS w1 w K sb rb ti tl n N m C L X w.heap.size bb out W → Calls Tryz.prog 83 #[.pointer (some ⟨bb, 0, none⟩)] W fun e w' => e = .returned (.string (ofL out)) ∧ Hid (RcX w1 w0 w' K sb rb ti tl n N m C L X)) := Lib.hid fun W bb out hW => by
      have hW' := hW
      obtain ⟨v0, g1, g2, g3, g4, g5, g6, g7⟩ := hW
      refine (StringU_c W bb out v0 g2 g7).mono ?_
      rintro e w' ⟨rfl, hE⟩
      exact ⟨rfl, Lib.hid (BtS.fin h.out hW' v0 g2 g3 hE.out)⟩
    clear h hv hvK h1 h2 hr hC hn hlo hhi FIN0
    go_enter Tryz.func27, Tryz.ntmps27
    go_wp2_with fail
    refine WT.mono ?_
    rintro e w2 ⟨rfl, H2⟩
    have RC2 := RC.out w2 H2.out
    clear WT RC
    go_wp2_with fail
    refine RC2.mono ?_
    rintro e w3 ⟨rfl, HB3⟩
    have A3 := AK.out _ _ (ST.out w2 w3 H2.out HB3)
    clear RC2 HB3 H2 ST AK
    go_wp2_with fail
    refine A3.mono ?_
    rintro e w4 (⟨rfl, out, ho, hW⟩ | ⟨er, hne, rfl, rfl, ho, hW⟩)
    · have S4 := FI0.out w4 _ out hW
      have HEE := Lib.hid (HE.out _ ho)
      clear A3 FI0 FI6 HE HE6 hW ho
      go_wp2_with fail
      refine S4.mono ?_
      rintro e w5 ⟨rfl, H5⟩
      clear S4
      go_wp2_with fail
      go_ret2
      exact ⟨by rw [HEE.out]; rfl, H5⟩
    · have HG := Lib.hid (FI6.out w4 _ hW)
      have HEE := Lib.hid (HE6.out ho)
      clear A3 FI0 FI6 HE HE6 hW ho hne
      go_wp2_with fail
      go_ret2
      exact ⟨by rw [HEE.out]; rfl, HG⟩
end
end Go.Proofs.YtdcjhpafipbpkaaGreatDoor
namespace Go.Proofs.YtdcjhpafipbpkaaGreatDoor
set_option linter.unusedVariables false
set_option maxRecDepth 100000
set_option maxHeartbeats 1000000
open Go.RowKit
/-- Each ref has its part's chunk. -/
def RefsOf (C : List Ck) : List (List UInt8) → List Rf → Prop
  | [], [] => True
  | p :: ps, r :: rs => (r.1.size = 33 ∧ r.2 = (p.length : Int) ∧ ∃ c, cAt C r.1 = some c ∧ c.text = ofL p) ∧ RefsOf C ps rs
  | _, _ => False
theorem RefsOf.snoc {C : List Ck} : ∀ {P : List (List UInt8)} {R : List Rf} {p : List UInt8} {r : Rf}, RefsOf C P R → (r.1.size = 33 ∧ r.2 = (p.length : Int) ∧ ∃ c, cAt C r.1 = some c ∧ c.text = ofL p) → RefsOf C (P ++ [p]) (R ++ [r])
  | [], [], _, _, _, h => ⟨h, trivial⟩
  | _ :: _, _ :: _, _, _, g, h => ⟨g.1, RefsOf.snoc g.2 h⟩
  | [], _ :: _, _, _, g, _ => g.elim
  | _ :: _, [], _, _, g, _ => g.elim
theorem RefsOf.mono {C C' : List Ck} (h : ∀ s c, cAt C s = some c → cAt C' s = some c) : ∀ {P : List (List UInt8)} {R : List Rf}, RefsOf C P R → RefsOf C' P R
  | [], [], _ => trivial
  | _ :: _, _ :: _, g => ⟨⟨g.1.1, g.1.2.1, by obtain ⟨c, h1, h2⟩ := g.1.2.2; exact ⟨c, h _ _ h1, h2⟩⟩, RefsOf.mono h g.2⟩
  | [], _ :: _, g => g.elim
  | _ :: _, [], g => g.elim
theorem RefsOf.append {C : List Ck} : ∀ {P Q : List (List UInt8)} {R S : List Rf}, RefsOf C P R → RefsOf C Q S → RefsOf C (P ++ Q) (R ++ S)
  | [], _, [], _, _, h => h
  | _ :: _, _, _ :: _, _, g, h => ⟨g.1, RefsOf.append g.2 h⟩
  | [], _, _ :: _, _, g, _ => g.elim
  | _ :: _, _, [], _, g, _ => g.elim
theorem PutTo.mono {C C' : List Ck} {X X' : List (Nat × ByteArray)} {t id : ByteArray} (h : PutTo C X t id C' X') (hs : CSrt C') : ∀ s c, cAt C s = some c → cAt C' s = some c := fun s c hc => by
  obtain ⟨h1, h2⟩ := cAt_some hc
  rw [← h2]
  exact h.stay hs h1
theorem KpAll.good {C C' : List Ck} {X X' : List (Nat × ByteArray)} {L L' : List Lg} {P : List (List UInt8)} {R : List Rf} (h : KpAll C X L P R C' X' L') : RefsOf C' P R ∧ ∀ s c, cAt C s = some c → cAt C' s = some c := by
  induction h with
  | nil => exact ⟨trivial, fun s c h => h⟩
  | snoc h g hs ih =>
    refine ⟨(ih.1.mono (g.mono hs)).snoc ⟨g.size, rfl, g.at hs⟩, fun s c hc => g.mono hs s c (ih.2 s c hc)⟩
theorem RefsOf.len {C : List Ck} : ∀ {P : List (List UInt8)} {R : List Rf}, RefsOf C P R → R.length = P.length
  | [], [], _ => rfl
  | _ :: _, _ :: _, g => by simp [RefsOf.len g.2]
  | [], _ :: _, g => g.elim
  | _ :: _, [], g => g.elim
theorem RefsOf.right {C : List Ck} : ∀ {P : List (List UInt8)} {R : List Rf}, RefsOf C P R → Parts P → R.all rOk = true
  | [], [], _, _ => rfl
  | p :: ps, r :: rs, g, h => by
    rw [List.all_cons, RefsOf.right g.2 fun q hq => h q (List.mem_cons_of_mem _ hq), Bool.and_true]
    have := h p (by simp)
    simp only [rOk, Bool.and_eq_true, decide_eq_true_eq]
    have h1 := g.1.1
    have h2 := g.1.2.1
    omega
  | [], _ :: _, g, _ => g.elim
  | _ :: _, [], g, _ => g.elim
theorem RefsOf.sum {C : List Ck} : ∀ {P : List (List UInt8)} {R : List Rf}, RefsOf C P R → sumR R = (P.flatten.length : Int)
  | [], [], _ => rfl
  | p :: ps, r :: rs, g => by
    simp only [sumR, List.flatten_cons, List.length_append, RefsOf.sum g.2, g.1.2.1]
    push_cast; rfl
  | [], _ :: _, g => g.elim
  | _ :: _, [], g => g.elim
theorem cut_app {α : Type} (p q : List α) (a b : Nat) (h : a ≤ b) : ((p ++ q).take b).drop a = (p.take b).drop a ++ (q.take (b - p.length)).drop (a - p.length) := by
  rw [List.take_append, List.drop_append, List.length_take]
  by_cases hb : b ≤ p.length
  · rw [show b - p.length = 0 by omega]; simp
  · rw [Nat.min_eq_right (by omega)]
theorem extract_list (p : List UInt8) (a b : Nat) : ((ofL p).extract a b).data.toList = (p.take b).drop a := by
  simp [ofL, ByteArray.data_extract, List.drop_take]
theorem byL_parts {C : List Ck} {lo hi : Int} (hlh : lo ≤ hi) : ∀ {P : List (List UInt8)} {R : List Rf} (at_ : Int), RefsOf C P R → byL C lo hi at_ R = some ((P.flatten.take (hi - at_).toNat).drop (lo - at_).toNat)
  | [], [], _, _ => by simp [byL]
  | p :: ps, r :: rs, at_, g => by
    obtain ⟨⟨g1, g2, c, g3, g4⟩, g5⟩ := g
    have hb : by1 C lo hi at_ r = some ((p.take (hi - at_).toNat).drop (lo - at_).toNat) := by
      unfold by1
      split
      · rename_i hlt
        rw [g3]
        simp only [Option.bind_some]
        rw [g4, ofL_size, if_pos g2.symm, extract_list]
        congr 1
        have e1 : (pA lo at_).toNat = (lo - at_).toNat := by unfold pA; omega
        have e2 : p.take (pB hi at_ r.2).toNat = p.take (hi - at_).toNat := by
          rw [List.take_eq_take_iff]
          unfold pB at *
          rw [g2]
          unfold pA at hlt
          omega
        rw [e1, e2]
      · rename_i hlt
        congr 1
        unfold pA pB at hlt
        rw [g2] at hlt
        symm
        rw [List.drop_eq_nil_iff, List.length_take]
        omega
    simp only [byL, hb, Option.bind_some, byL_parts hlh (at_ + r.2) g5, Option.map_some, List.flatten_cons]
    rw [cut_app _ _ _ _ (by omega), g2]
    congr 2
    rw [show (hi - (at_ + (p.length : Int))).toNat = (hi - at_).toNat - p.length by omega, show (lo - (at_ + (p.length : Int))).toNat = (lo - at_).toNat - p.length by omega]
  | [], _ :: _, _, g => g.elim
  | _ :: _, [], _, g => g.elim
/-- A recipe's bytes, where each ref has its chunk. -/
theorem bytesL_of {C : List Ck} {P : List (List UInt8)} {R : List Rf} (h : RefsOf C P R) (hP : Parts P) (h4 : R.length ≤ 4000) (frm n : Int) :
    bytesL C R frm n = (ofL ((P.flatten.take (endsL (P.flatten.length : Int) frm n).2.toNat).drop (endsL (P.flatten.length : Int) frm n).1.toNat), 0) := by
  have hr : rightR R = true := by unfold rightR; rw [h.right hP]; simp [h4]
  have hs := h.sum
  have ho := endsL_ok (P.flatten.length : Int) frm n (by omega)
  unfold bytesL
  rw [if_pos hr, hs, byL_parts ho.2.1 0 h]
  simp
end Go.Proofs.YtdcjhpafipbpkaaGreatDoor
namespace Go.Proofs.YtdcjhpafipbpkaaGreatDoor
set_option linter.unusedVariables false
set_option maxRecDepth 100000
set_option maxHeartbeats 4000000
open Go.RowKit
theorem Store_c (n N : Nat) (w : World) (h4 : 4 ≤ n) (hn : n ≤ 65335) (hN : 24 * N ≤ pagesN n) :
    Calls Tryz.prog 23 #[.int .i64 (n : Int)] w fun e w' => ∃ sb rb ti tl, e = .returned (.pointer (some ⟨sb, 0, none⟩)) ∧ Hid (RcX w w' w' (fun _ => False) sb rb ti tl n N 0 [] [] []) := by
  have WD := Wide_c n w h4 hn
  have HN := Lib.hid hN
  have H4 := Lib.hid h4
  clear hN hn h4
  go_enter Tryz.func23, Tryz.ntmps23
  go_wp2_with fail
  refine WD.mono ?_
  rintro e wb ⟨db, lb, FL, rfl, H1⟩
  clear WD
  go_wp2_with fail
  refine (Begin_c lb wb).mono ?_
  rintro e wc ⟨rfl, H2⟩
  have OF := Of_c _ lb n FL _ [] wc (chg_new H1.out H2.out) H4.out
  go_wp2_with fail
  refine OF.mono ?_
  rintro e wd ⟨rb, G, rfl, H3⟩
  have NR := Lib.hid (NewRoom.of (w1 := w) (Below.refl _ _) H1.out H2.out H3.out)
  clear OF H1 H2 H3
  have AT := At_k rb wd
  go_wp2_with fail
  refine AT.mono ?_
  rintro e we ⟨sb, ti, tl, rfl, HT⟩
  have M0 : Hid (RcX w we we (fun _ => False) sb rb ti tl n N 0 [] [] []) := Lib.hid ⟨⟨0, Nat.le_refl _, Chs.start NR.out H4.out HN.out HT.out.1 HT.out.2.1 HT.out.2.2⟩, fun c hc => (by cases hc), Nat.le_refl _, Nat.le_refl _⟩
  clear NR HT AT
  go_wp2_with fail
  go_ret
  exact ⟨sb, rb, ti, tl, rfl, M0⟩
theorem make_zero40 (w : World) : ∃ (w' : World) (v : Value), (Instr.makeSlice 91 (.int .i64 40) (.int .i64 40)).run Tryz.prog w = .ok v w' ∧ (convert 91 9 v).run Tryz.prog w' = .ok (.string ⟨(List.replicate 40 (0 : UInt8)).toArray⟩) w' ∧ Below w.heap.size w w' := by
  obtain ⟨j0, hj, hz0, hz1, hz2⟩ := info_parts infoB
  obtain ⟨w1, hr, ho, hg⟩ := run_makeSlice_full (P := Tryz.prog) w w.heap.size 91 5 j0 _ 1 Tryz.underlying91 hj hz0 hz1 .i64 .i64 40 (by omega) (by rw [hz2]; omega) (by unfold maxLen; omega) (Nat.le_refl _)
  have e : (madeCells (Value.int .u8 0).cells (40 * 1)).toList = bytesC (List.replicate 40 0) := by
    rw [show (Value.int .u8 0).cells = #[Value.int .u8 0] from rfl, toList_madeCells_one]
    simp [bytesC]
  rw [e] at ho
  exact ⟨w1, _, hr, conv_rowC ho, (Below.refl _ _).grown hg (Nat.le_refl _) (fun _ e => by cases e)⟩
theorem rcells_get {l : List Rf} {k : Nat} (h : k < l.length) : (rcells l)[k * 2]? = some (.string l[k].1) ∧ (rcells l)[k * 2 + 1]? = some (.int .i64 l[k].2) := by
  induction l generalizing k with
  | nil => simp at h
  | cons p r ih =>
    cases k with
    | zero => exact ⟨rfl, rfl⟩
    | succ k =>
      have := ih (k := k) (by simpa using h)
      have e1 : (k + 1) * 2 = (k * 2) + 2 := by omega
      rw [e1]
      exact this
theorem refs_of_own {w : World} {base n : Nat} {v : Value} {l : List Rf} (h : w.ownsRow base 57 2 v n (rcells l)) (he : n = l.length) (hn : ∀ p ∈ l, RfIn p) (hl : l.length ≤ 1000000) : RefsAt w v l ∧ ∀ b off n c, v = .slice (some ⟨b, off, none⟩) n c → v.ownBlock = some b := by
  subst he
  rcases h.2 with ⟨rfl, h0⟩ | ⟨g, cap, cur, rfl, -⟩
  · exact ⟨⟨⟨none, 0, by rw [h0], fun k hk => by omega⟩, hn, Nat.le_trans hl (by decide)⟩, fun b off n c e => by cases e⟩
  · refine ⟨⟨⟨some ⟨g, 0, none⟩, cap, rfl, fun k hk => ⟨g, 0, rfl, ?_, ?_, (h.lt g rfl).2⟩⟩, hn, Nat.le_trans hl (by decide)⟩, fun b off n c e => by cases e; rfl⟩
    · have := h.cells rfl (k * 2) _ (rcells_get hk).1
      rwa [addr_add2] at this
    · have := h.cells rfl (k * 2 + 1) _ (rcells_get hk).2
      rw [addr_add2] at this
      rw [show 0 + k * 2 + 1 = 0 + (k * 2 + 1) by omega]
      exact this
theorem RefsOf.ins {C : List Ck} {P : List (List UInt8)} {R : List Rf} (h : RefsOf C P R) (hP : Parts P) : ∀ p ∈ R, RfIn p := fun p hp => by
  have := (List.all_eq_true.1 (h.right hP)) p hp
  simp only [rOk, Bool.and_eq_true, decide_eq_true_eq] at this
  unfold RfIn
  omega
def awT : List UInt8 := List.replicate 40 0 ++ [120]
def awP : List (List UInt8) := [List.replicate 16 0, List.replicate 16 0, List.replicate 8 0 ++ [120]]
theorem awP_cut : cutT awT = awP := by decide +kernel
theorem awake12_c (w : World) : Calls Tryz.prog 22 #[] w fun e w' => e = .returned (.bool true) ∧ Hid (Below w.heap.size w w') := by
  have ST := Store_c 3000 20 w (by decide) (by decide) (by decide)
  rw [show ((3000 : Nat) : Int) = 3000 from rfl] at ST
  go_enter Tryz.func22, Tryz.ntmps22
  go_wp2_with fail
  refine ST.mono ?_
  rintro e w1 ⟨sb, rb, ti, tl, rfl, H1⟩
  clear ST
  obtain ⟨w2, v, hm, hc, hb⟩ := make_zero40 w1
  have H2 := Lib.hid (H1.out.below hb)
  obtain ⟨z, hz⟩ : ∃ z, (⟨(List.replicate 40 (0 : UInt8)).toArray⟩ : ByteArray) = z := ⟨_, rfl⟩
  have hT : (z ++ ⟨#[120]⟩).data.toList = awT := by rw [← hz]; rfl
  have hzs : z.size = 40 := by rw [← hz]; rfl
  have hTs : (z ++ (⟨#[120]⟩ : ByteArray)).size = 41 := by rw [Lib.size_eq, hT]; rfl
  have BK := Build_k w w2 w1 (fun _ => False) sb rb ti tl 3000 20 0 [] [] [] (z ++ ⟨#[120]⟩) H2 (by omega) (by rw [hT, awP_cut]; decide) (by rw [hT, awP_cut]; decide)
  rw [hT, awP_cut] at BK
  rw [hz] at hc
  have ha1 : (z.size + (⟨#[120]⟩ : ByteArray).size > 9223372036854775807) = False := by rw [hzs]; simp; decide
  have ha2 : (9223372036854775807 < z.size + (⟨#[120]⟩ : ByteArray).size) = False := ha1
  clear hTs hT hb H2
  have ha3 : (9223372036854775807 < z.size + 1) = False := by rw [hzs]; simp
  have HW1 := Lib.hid H1.out.bel
  clear H1
  go_wp2_with fail
  refine BK.mono ?_
  rintro e w3 ⟨vl, rfl, HE⟩
  clear BK hm hc ha1 ha2
  obtain ⟨R, C', X', L', q1, q2, q3, q4⟩ := HE.out
  have hgd := q1.good.1
  have hlen := q1.len
  have hP : Parts awP := by
    intro p hp
    simp only [awP, List.mem_cons, List.not_mem_nil, or_false] at hp
    rcases hp with rfl | rfl | rfl <;> decide
  have hR : R.length = 3 := hgd.len
  obtain ⟨hrf, hown⟩ := refs_of_own q2 hR.symm (hgd.ins hP) (by omega)
  have BY := Bytes_c w w3 w3 _ sb rb ti tl 3000 20 (0 + awP.length) C' L' X' vl R (Lib.hid q3) (by decide) (by decide) hrf (fun b off n c e => .inr (hown b off n c e)) 38 9 (by omega) (by omega)
  have hbl : bytesL C' R 38 9 = (⟨#[0, 0, 120]⟩, 0) := by
    rw [bytesL_of hgd hP (by omega)]
    rfl
  rw [hbl] at BY
  have hL3 : (L'.length : Int) = 3 := by rw [hlen.2]; rfl
  have WT : Hid (∀ w4, Hid (RcX w w3 w4 (fun j => False ∨ vl.ownBlock = some j) sb rb ti tl 3000 20 (0 + awP.length) C' L' X') → Calls Tryz.prog 54 #[.pointer (some ⟨sb, 0, none⟩)] w4 fun e w' => e = .returned (.tuple #[.int .i64 3, .int .i64 0]) ∧ Hid (RcX w w3 w' (fun j => False ∨ vl.ownBlock = some j) sb rb ti tl 3000 20 (0 + awP.length) C' L' X')) := Lib.hid fun w4 h4 => by
    have := rc_waits w w4 w3 _ sb rb ti tl 3000 20 (0 + awP.length) C' L' X' h4 (by decide) (by decide)
    rwa [hL3] at this
  have SZ : Hid (∀ w5, Hid (RcX w w3 w5 (fun j => False ∨ vl.ownBlock = some j) sb rb ti tl 3000 20 (0 + awP.length) C' L' X') → Calls Tryz.prog 43 #[vl] w5 fun e w' => e = .returned (.int .i64 41) ∧ Hid (Below w.heap.size w w')) := Lib.hid fun w5 h5 => by
    have hs : sizeR R = 41 := by
      unfold sizeR
      rw [if_pos (by unfold rightR; rw [hgd.right hP]; simp [hR]), hgd.sum]; rfl
    have := SizeR_c vl R w5 (hrf.kept h5.out.kept fun b off n c e => .inr (hown b off n c e))
    rw [hs] at this
    refine this.mono ?_
    rintro e w' ⟨rfl, hb⟩
    exact ⟨rfl, Lib.hid (h5.out.bel.trans (hb.mono h5.out.bel.size))⟩
  obtain ⟨va, vc, rfl⟩ : ∃ va vc, vl = .slice va 3 vc := by
    rcases q2.2 with ⟨_, h0⟩ | ⟨g, cap, cur, e, -⟩
    · cases h0
    · exact ⟨_, _, e⟩
  clear HE q1 q2 q3 q4 hgd hlen hP hR hrf hown hbl hL3 HW1
  go_wp2_with fail
  refine BY.mono ?_
  rintro e w4 ⟨rfl, H4⟩
  have W4 := WT.out w4 H4
  clear BY WT H4
  go_wp2_with fail
  refine W4.mono ?_
  rintro e w5 ⟨rfl, H5⟩
  have S5 := SZ.out w5 H5
  clear W4 SZ H5
  go_wp2_with fail
  refine S5.mono ?_
  rintro e w6 ⟨rfl, H6⟩
  clear S5
  go_wp2_with fail
  go_ret
  exact ⟨rfl, H6⟩
end Go.Proofs.YtdcjhpafipbpkaaGreatDoor
namespace Go.Proofs.YtdcjhpafipbpkaaGreatDoor
set_option linter.unusedVariables false
set_option maxRecDepth 100000
set_option maxHeartbeats 4000000
open Go.RowKit
def RdO (w : World) (T : List Rf) (n : Nat) (r : ByteArray) (v : Value) (wr : World) : Prop :=
  ∃ A, A ++ rdK n r = T ∧ wr.ownsRow w.heap.size 57 2 v A.length (rcells A) ∧ Below w.heap.size w wr
theorem Read_rc (s : ByteArray) (w : World) (hs : s.size ≤ 100000) (h0 : s.size % 34 = 0) :
    Calls Tryz.prog 40 #[.string s] w fun e w' => (readR s = none ∧ e = .returned (.tuple #[.slice none 0 0, .bool false]) ∧ Below w.heap.size w w') ∨ ∃ v l, readR s = some l ∧ e = .returned (.tuple #[v, .bool true]) ∧ w'.ownsRow w.heap.size 57 2 v l.length (rcells l) ∧ Below w.heap.size w w' := by
  have hN : s.size = 34 * (s.size / 34) := by omega
  have d0 : ((s.size : Int) % 34 != 0) = false := by
    have : (s.size : Int) % 34 = 0 := by omega
    rw [this]; rfl
  have R0 : Hid (RdO w (rdK (s.size / 34) s) (s.size / 34) s (.slice none 0 0) w) := Lib.hid ⟨[], rfl, World.ownsRow_nil _ _ _ _, Below.refl _ _⟩
  obtain ⟨T, hT⟩ : ∃ T, rdK (s.size / 34) s = T := ⟨_, rfl⟩
  rw [hT] at R0
  have HR : Hid (readR s = if rightR T = true then some T else none) := Lib.hid (by unfold readR; rw [hT]; simp [h0])
  have HTL : Hid (T.length ≤ 3000) := Lib.hid (by rw [← hT, rdK_len]; omega)
  have HIN : Hid (∀ p ∈ T, RfIn p) := Lib.hid (by rw [← hT]; exact rdK_in _ _)
  obtain ⟨N, hNN⟩ : ∃ N, s.size / 34 = N := ⟨_, rfl⟩
  rw [hNN] at R0 hN
  have HS0 := Lib.hid hN
  obtain ⟨jR, hjR, hR0, hR1, hR2⟩ := info_parts infoR
  clear hT hNN h0 hs hN
  go_enter Tryz.func40, Tryz.ntmps40
  go_wp2_with fail
  go_loopg [0, 4] N (fun g s0 s4 wr => ∃ (n : Nat) (r : ByteArray) (v : Value), n = g ∧ s0 = .string r ∧ v = s4 ∧ r.size = 34 * n ∧ Hid (RdO w T n r v wr))
  case atStart => exact ⟨N, s, _, rfl, rfl, rfl, HS0.out, R0⟩
  case round =>
    obtain ⟨n, r, v, rfl, rfl, rfl, hr, HI⟩ := hrel
    clear R0
    cases n with
    | zero =>
      have hemp : r.toList.isEmpty = true := by
        rw [Lib.toList_data]
        cases hq : r.data.toList with
        | nil => rfl
        | cons x l => have := congrArg List.length hq; rw [← Lib.size_eq] at this; simp only [List.length_cons] at this; omega
      obtain ⟨A, hA, ho, hb⟩ := HI.out
      obtain rfl : A = T := by simpa [rdK] using hA
      obtain ⟨hrf, -⟩ := refs_of_own ho rfl HIN.out (by have := HTL.out; omega)
      have RC := RightR_c v A wr hrf
      have HBO : Hid (∀ w', Below wr.heap.size wr w' → w'.ownsRow w.heap.size 57 2 v A.length (rcells A) ∧ Below w.heap.size w w') := Lib.hid fun w' h' => ⟨ownsRow_of2 ho fun j hj => h'.block j (ho.lt j hj).2, hb.trans (h'.mono hb.size)⟩
      clear HI hA ho hb hrf hr
      cases hrr : rightR A with
      | false =>
        rw [hrr] at RC
        have HE := Lib.hid (show readR s = none by rw [HR.out, hrr]; rfl)
        clear HR hrr
        go_wp2_with fail
        refine RC.mono ?_
        rintro e w5 ⟨rfl, hB5⟩
        have HB5 := Lib.hid (HBO.out w5 hB5)
        clear RC hB5
        go_wp2_with fail
        go_ret2
        exact .inl ⟨HE.out, rfl, HB5.out.2⟩
      | true =>
        rw [hrr] at RC
        have HE := Lib.hid (show readR s = some A by rw [HR.out, hrr]; rfl)
        clear HR hrr
        go_wp2_with fail
        refine RC.mono ?_
        rintro e w5 ⟨rfl, hB5⟩
        have HB5 := Lib.hid (HBO.out w5 hB5)
        clear RC hB5
        go_wp2_with fail
        go_ret2
        exact .inr ⟨_, _, HE.out, rfl, HB5.out⟩
    | succ n =>
      obtain ⟨A, hA, ho, hb⟩ := HI.out
      have hemp : r.toList.isEmpty = false := by
        rw [Lib.toList_data]
        cases hq : r.data.toList with
        | nil => have := congrArg List.length hq; rw [← Lib.size_eq] at this; simp only [List.length_nil] at this; omega
        | cons x l => rfl
      have y1 : ((33 : Int) ≤ (r.size : Int)) = True := eq_true (by omega)
      have y2 : ((34 : Int) ≤ (r.size : Int)) = True := eq_true (by omega)
      have y3 : ((33 : Int) < (r.size : Int)) = True := eq_true (by omega)
      have y4 : (33 < r.size) = True := eq_true (by omega)
      have HRS := Lib.hid hr
      have HO := Lib.hid ho
      have HL1 : Hid (A.length + 1 ≤ maxLen ∧ (A.length + 1) * 24 ≤ 140737488355328) := Lib.hid (by
        have h1 := congrArg List.length hA
        rw [List.length_append, rdK_len] at h1
        have := HTL.out
        exact ⟨Nat.le_trans (by omega : A.length + 1 ≤ 1000000) (by decide), by omega⟩)
      have h33 : 33 < r.size := by omega
      obtain ⟨c, hc⟩ : ∃ c : Nat, (r[33]'h33).toNat = c := ⟨_, rfl⟩
      have hcd : (r.data.toList.getD 33 0).toNat = c := by
        rw [← hc, List.getD_eq_getElem?_getD, List.getElem?_eq_getElem (by rw [← Lib.size_eq]; exact h33)]
        rfl
      have hcb : c < 256 := by rw [← hc]; exact UInt8.toNat_lt _
      have hcw : IntKind.i64.wrap (c : Int) = (c : Int) := wrap_small (x := (c : Int)) (by omega) (by omega)
      have HOD : Hid (∀ o, (wr.drew.alloc o).ownsRow w.heap.size 57 2 v A.length (rcells A)) := Lib.hid fun o => (show wr.drew.ownsRow w.heap.size 57 2 v A.length (rcells A) from ho).alloc o
      have HBX : Hid (∀ o, w.heap.size ≤ (wr.drew.alloc o).heap.size) := Lib.hid fun o => by have := hb.size; simp; omega
      obtain ⟨r2, hr2⟩ : ∃ r2, r.extract 34 r.size = r2 := ⟨_, rfl⟩
      have hsz2 : r2.size = 34 * n := by rw [← hr2, ByteArray.size_extract]; omega
      obtain ⟨X, hX⟩ : ∃ X, r.extract 0 33 = X := ⟨_, rfl⟩
      have HSTEP : Hid (∀ o v5 W5, (wr.drew.alloc o).grownBy W5 v.ownBlock → W5.ownsRow w.heap.size 57 2 v5 (A.length + 1) (rcells A ++ [.string X, .int .i64 (c : Int)]) → RdO w T n r2 v5 W5) := Lib.hid fun o v5 W5 hg h5 => by
        refine ⟨A ++ [(X, (c : Int))], ?_, ?_, (hb.drew.alloc hb.size o).grown hg (by have := hb.size; simp; omega) fun j e => (ho.lt j e).1⟩
        · rw [← hA, List.append_assoc]
          simp only [rdK, hX, hr2, hcd, List.singleton_append]
        · rw [List.length_append, List.length_singleton, rcells_snoc]; exact h5
      have HSZ2 := Lib.hid hsz2
      clear hr ho hb hA HI hcd hcb hsz2 HO
      generalize A.length = al at *
      go_wp2_with fail
      go_region_held3 (fun _ => True) (trivial) ((first
        | (refine step_append_y (by rfl) _ _ _ (by rfl) w.heap.size 57 jR _ 2 24 Tryz.underlying46 hjR hR0 hR1 hR2 rfl (by decide) _ _ _ (by rfl) (HOD.out _) _ 1 _ (by rfl) (yields_boxL _ #[.string X, .int .i64 (c : Int)] _ 1 1) rfl (one2 _ _ rfl rfl) HL1.out.1 HL1.out.2 (HBX.out _) ?_
           intro v5 W5 ho5 hg5 ha5
           have HN5 := Lib.hid (HSTEP.out _ v5 W5 hg5 ho5)
           clear ho5 hg5 ha5)))
      all_goals go_wp2_with fail
      all_goals go_roundg n
      all_goals (first
        | (case measure => omega)
        | (case rel => exact ⟨n, r2, _, rfl, rfl, rfl, HSZ2.out, HN5⟩))
end Go.Proofs.YtdcjhpafipbpkaaGreatDoor
namespace Go.Proofs.YtdcjhpafipbpkaaGreatDoor
set_option linter.unusedVariables false
set_option maxRecDepth 100000
set_option maxHeartbeats 4000000
open Go.RowKit
theorem Read_no (s : ByteArray) (w : World) (h0 : s.size % 34 ≠ 0) :
    Calls Tryz.prog 40 #[.string s] w fun e w' => readR s = none ∧ e = .returned (.tuple #[.slice none 0 0, .bool false]) ∧ Below w.heap.size w w' := by
  have d0 : ((s.size : Int) % 34 != 0) = true := by simp; omega
  have HE := Lib.hid (show readR s = none by unfold readR; rw [if_neg (fun h => h0 h.1)])
  clear h0
  go_enter Tryz.func40, Tryz.ntmps40
  go_wp2_with fail
  go_ret2
  exact ⟨HE.out, rfl, Below.refl _ _⟩
theorem RefRead_rc (s : ByteArray) (w : World) (hs : s.size ≤ 100000) :
    Calls Tryz.prog 41 #[.string s] w fun e w' => (readR s = none ∧ e = .returned (.tuple #[.slice none 0 0, .bool false]) ∧ Below w.heap.size w w') ∨ ∃ v l, readR s = some l ∧ e = .returned (.tuple #[v, .bool true]) ∧ w'.ownsRow w.heap.size 57 2 v l.length (rcells l) ∧ Below w.heap.size w w' := by
  have hN : s.size = 34 * (s.size / 34) + s.size % 34 := by omega
  have R0 : Hid (RdO w (rdK (s.size / 34) s) (s.size / 34) s (.slice none 0 0) w) := Lib.hid ⟨[], rfl, World.ownsRow_nil _ _ _ _, Below.refl _ _⟩
  obtain ⟨T, hT⟩ : ∃ T, rdK (s.size / 34) s = T := ⟨_, rfl⟩
  rw [hT] at R0
  have HR : Hid (readR s = if s.size % 34 = 0 ∧ rightR T = true then some T else none) := Lib.hid (by unfold readR; rw [hT])
  have hq : s.size % 34 < 34 := by omega
  obtain ⟨q, hqq⟩ : ∃ q, s.size % 34 = q := ⟨_, rfl⟩
  rw [hqq] at HR hq hN
  have HTL : Hid (T.length ≤ 3000) := Lib.hid (by rw [← hT, rdK_len]; omega)
  have HIN : Hid (∀ p ∈ T, RfIn p) := Lib.hid (by rw [← hT]; exact rdK_in _ _)
  obtain ⟨N, hNN⟩ : ∃ N, s.size / 34 = N := ⟨_, rfl⟩
  rw [hNN] at R0 hN
  have HS0 := Lib.hid hN
  obtain ⟨jR, hjR, hR0, hR1, hR2⟩ := info_parts infoR
  have HQ := Lib.hid hq
  clear hT hNN hs hN hq hqq
  go_enter Tryz.func41, Tryz.ntmps41
  go_wp2_with fail
  go_loopg [0, 4] N (fun g s0 s4 wr => ∃ (n : Nat) (r : ByteArray) (v : Value), n = g ∧ s0 = .string r ∧ v = s4 ∧ r.size = 34 * n + q ∧ Hid (RdO w T n r v wr))
  case atStart => exact ⟨N, s, _, rfl, rfl, rfl, HS0.out, R0⟩
  case round =>
    obtain ⟨n, r, v, rfl, rfl, rfl, hr, HI⟩ := hrel
    clear R0
    cases n with
    | zero =>
      have g34 : decide ((r.size : Int) ≥ 34) = false := decide_eq_false (by have := HQ.out; omega)
      obtain ⟨A, hA, ho, hb⟩ := HI.out
      obtain rfl : A = T := by simpa [rdK] using hA
      obtain ⟨hrf, -⟩ := refs_of_own ho rfl HIN.out (by have := HTL.out; omega)
      have RC := RefRight_c v A wr hrf
      have HBO : Hid (∀ w', Below wr.heap.size wr w' → w'.ownsRow w.heap.size 57 2 v A.length (rcells A) ∧ Below w.heap.size w w') := Lib.hid fun w' h' => ⟨ownsRow_of2 ho fun j hj => h'.block j (ho.lt j hj).2, hb.trans (h'.mono hb.size)⟩
      by_cases hq0 : q = 0
      · have hemp : r.toList.isEmpty = true := by
          rw [Lib.toList_data]
          cases hq : r.data.toList with
          | nil => rfl
          | cons x l => have := congrArg List.length hq; rw [← Lib.size_eq] at this; simp only [List.length_cons] at this; omega
        clear HI hA ho hb hrf hr
        cases hrr : rightR A with
        | false =>
          rw [hrr] at RC
          have HE := Lib.hid (show readR s = none by rw [HR.out, hrr]; simp)
          clear HR hrr hq0
          go_wp2_with fail
          refine RC.mono ?_
          rintro e w5 ⟨rfl, hB5⟩
          have HB5 := Lib.hid (HBO.out w5 hB5)
          clear RC hB5
          go_wp2_with fail
          go_ret2
          exact .inl ⟨HE.out, rfl, HB5.out.2⟩
        | true =>
          rw [hrr] at RC
          have HE := Lib.hid (show readR s = some A by rw [HR.out, hrr, if_pos ⟨hq0, rfl⟩])
          clear HR hrr hq0
          go_wp2_with fail
          refine RC.mono ?_
          rintro e w5 ⟨rfl, hB5⟩
          have HB5 := Lib.hid (HBO.out w5 hB5)
          clear RC hB5
          go_wp2_with fail
          go_ret2
          exact .inr ⟨_, _, HE.out, rfl, HB5.out⟩
      · have hemp : r.toList.isEmpty = false := by
          rw [Lib.toList_data]
          cases hq : r.data.toList with
          | nil => have := congrArg List.length hq; rw [← Lib.size_eq] at this; simp only [List.length_nil] at this; omega
          | cons x l => rfl
        have HE := Lib.hid (show readR s = none by rw [HR.out, if_neg (fun h => hq0 h.1)])
        have HBW := Lib.hid hb
        clear HI hA ho hb hrf hr HR hq0 RC HBO
        go_wp2_with fail
        go_ret2
        exact .inl ⟨HE.out, rfl, HBW.out⟩
    | succ n =>
      obtain ⟨A, hA, ho, hb⟩ := HI.out
      have g34 : decide ((r.size : Int) ≥ 34) = true := decide_eq_true (by omega)
      have y1 : ((33 : Int) ≤ (r.size : Int)) = True := eq_true (by omega)
      have y2 : ((34 : Int) ≤ (r.size : Int)) = True := eq_true (by omega)
      have y3 : ((33 : Int) < (r.size : Int)) = True := eq_true (by omega)
      have y4 : (33 < r.size) = True := eq_true (by omega)
      have HRS := Lib.hid hr
      have HO := Lib.hid ho
      have HL1 : Hid (A.length + 1 ≤ maxLen ∧ (A.length + 1) * 24 ≤ 140737488355328) := Lib.hid (by
        have h1 := congrArg List.length hA
        rw [List.length_append, rdK_len] at h1
        have := HTL.out
        exact ⟨Nat.le_trans (by omega : A.length + 1 ≤ 1000000) (by decide), by omega⟩)
      have h33 : 33 < r.size := by omega
      obtain ⟨c, hc⟩ : ∃ c : Nat, (r[33]'h33).toNat = c := ⟨_, rfl⟩
      have hcd : (r.data.toList.getD 33 0).toNat = c := by
        rw [← hc, List.getD_eq_getElem?_getD, List.getElem?_eq_getElem (by rw [← Lib.size_eq]; exact h33)]
        rfl
      have hcb : c < 256 := by rw [← hc]; exact UInt8.toNat_lt _
      have hcw : IntKind.i64.wrap (c : Int) = (c : Int) := wrap_small (x := (c : Int)) (by omega) (by omega)
      have HOD : Hid (∀ o, (wr.drew.alloc o).ownsRow w.heap.size 57 2 v A.length (rcells A)) := Lib.hid fun o => (show wr.drew.ownsRow w.heap.size 57 2 v A.length (rcells A) from ho).alloc o
      have HBX : Hid (∀ o, w.heap.size ≤ (wr.drew.alloc o).heap.size) := Lib.hid fun o => by have := hb.size; simp; omega
      obtain ⟨r2, hr2⟩ : ∃ r2, r.extract 34 r.size = r2 := ⟨_, rfl⟩
      have hsz2 : r2.size = 34 * n + q := by rw [← hr2, ByteArray.size_extract]; omega
      obtain ⟨X, hX⟩ : ∃ X, r.extract 0 33 = X := ⟨_, rfl⟩
      have HSTEP : Hid (∀ o v5 W5, (wr.drew.alloc o).grownBy W5 v.ownBlock → W5.ownsRow w.heap.size 57 2 v5 (A.length + 1) (rcells A ++ [.string X, .int .i64 (c : Int)]) → RdO w T n r2 v5 W5) := Lib.hid fun o v5 W5 hg h5 => by
        refine ⟨A ++ [(X, (c : Int))], ?_, ?_, (hb.drew.alloc hb.size o).grown hg (by have := hb.size; simp; omega) fun j e => (ho.lt j e).1⟩
        · rw [← hA, List.append_assoc]
          simp only [rdK, hX, hr2, hcd, List.singleton_append]
        · rw [List.length_append, List.length_singleton, rcells_snoc]; exact h5
      have HSZ2 := Lib.hid hsz2
      clear hr ho hb hA HI hcd hcb hsz2 HO
      generalize A.length = al at *
      go_wp2_with fail
      go_region_held3 (fun _ => True) (trivial) ((first
        | (refine step_append_y (by rfl) _ _ _ (by rfl) w.heap.size 57 jR _ 2 24 Tryz.underlying46 hjR hR0 hR1 hR2 rfl (by decide) _ _ _ (by rfl) (HOD.out _) _ 1 _ (by rfl) (yields_boxL _ #[.string X, .int .i64 (c : Int)] _ 1 1) rfl (one2 _ _ rfl rfl) HL1.out.1 HL1.out.2 (HBX.out _) ?_
           intro v5 W5 ho5 hg5 ha5
           have HN5 := Lib.hid (HSTEP.out _ v5 W5 hg5 ho5)
           clear ho5 hg5 ha5)))
      all_goals go_wp2_with fail
      all_goals go_roundg n
      all_goals (first
        | (case measure => omega)
        | (case rel => exact ⟨n, r2, _, rfl, rfl, rfl, HSZ2.out, HN5⟩))
end Go.Proofs.YtdcjhpafipbpkaaGreatDoor
