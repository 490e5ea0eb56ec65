/- Parts of the proof of RecipeLost, joined: ChkR, ChkS, ChkU, ChkV, ChkW, RcpA, RcpR, RcpE, RcpF, RcpG, ChkT, Iter. No condition. -/
import Derived.Test.YtdcjhpafipbpkaaGreatDoorRb12
import Derived.Maps.RangeRun
set_option linter.unusedSimpArgs false
set_option linter.unusedVariables false
set_option linter.unusedSectionVars false
namespace Go.Proofs.YtdcjhpafipbpkaaGreatDoor
set_option maxRecDepth 100000
set_option maxHeartbeats 2000000
open Go.RowKit
section
variable (w1 w w0 : World) (K : Nat → Prop) (sb rb ti tl n N a nx : Nat) (C : List Ck) (L : List Lg) (X : List (Nat × ByteArray))
end
set_option maxHeartbeats 1000000
theorem less_catK (p a b : List UInt8) : Op.bytesLess (p ++ a) (p ++ b) = Op.bytesLess a b := by
  induction p with
  | nil => rfl
  | cons c p ih =>
    show (decide (c < c) || (c == c && Op.bytesLess (p ++ a) (p ++ b))) = _
    rw [ih]; simp
theorem kless_name (p : ByteArray) {j k : Nat} (hj : j < 256) (hk : k < 256) : kless (nameB p j) (nameB p k) = decide (j < k) := by
  unfold kless
  rw [Lib.toList_data, Lib.toList_data, nameB_data, nameB_data, less_catK]
  show (decide (UInt8.ofNat j < UInt8.ofNat k) || (UInt8.ofNat j == UInt8.ofNat k && false)) = _
  rw [Bool.and_false, Bool.or_false]
  apply decide_eq_decide.2
  rw [UInt8.lt_iff_toNat_lt, UInt8.toNat_ofNat', UInt8.toNat_ofNat']
  omega
theorem kless_ff (p : ByteArray) (j : Nat) : kless (nameB p j) (p ++ ffB) = true := by
  unfold kless
  rw [Lib.toList_data, Lib.toList_data, nameB_data, show (p ++ ffB).data.toList = p.data.toList ++ [255, 255] by simp [ffB], less_catK]
  show (decide (UInt8.ofNat j < 255) || (UInt8.ofNat j == 255 && true)) = true
  generalize UInt8.ofNat j = x
  by_cases h : x < 255
  · simp [h]
  · have : x = 255 := by
      apply UInt8.toNat_inj.1
      rw [UInt8.lt_iff_toNat_lt] at h
      have := x.toNat_lt
      have e : (255 : UInt8).toNat = 255 := rfl
      omega
    subst this; rfl
theorem NoC.none {C : List Ck} {p : ByteArray} {k : Nat} (h : NoC C (nameB p k) (p ++ ffB)) (hk : k < 256) (j : Nat) (h1 : k ≤ j) (h2 : j < 256) : cAt C (nameB p j) = none :=
  cAt_no fun c hc e => by
    have := h c hc (by rw [e, kless_name p h2 hk]; simp; omega)
    rw [e, kless_ff] at this
    cases this
theorem names_len {C : List Ck} {p : ByteArray} {k : Nat} (hk : k ≤ 256) (h : ∀ j, j < k → cAt C (nameB p j) ≠ none) : k ≤ C.length := by
  refine Nat.le_of_not_lt fun hlt => ?_
  obtain ⟨q, q1, q2⟩ := pigeon k (C.map fun c => (c.id.data.toList.getLast?.getD 0).toNat) (by rw [List.length_map]; exact hlt)
  cases hf : cAt C (nameB p q) with
  | none => exact h q q1 hf
  | some c =>
    obtain ⟨h1, h2⟩ := cAt_some hf
    refine q2 (List.mem_map.2 ⟨c, h1, ?_⟩)
    rw [h2, nameB_data]
    simp
    omega
def NoHit (C : List Ck) (p t : ByteArray) (i : Nat) : Prop := ∀ j, j < i → ∀ c, cAt C (nameB p j) = some c → c.text ≠ t
def FreeAt (C : List Ck) (p : ByteArray) (i : Nat) (f : Int) : Prop := (f = -1 ∧ ∀ j, j < i → cAt C (nameB p j) ≠ none) ∨ ∃ k : Nat, f = (k : Int) ∧ k < i ∧ cAt C (nameB p k) = none ∧ ∀ j, j < k → cAt C (nameB p j) ≠ none
theorem FreeAt.zero (C : List Ck) (p : ByteArray) : FreeAt C p 0 (-1) := .inl ⟨rfl, fun j hj => absurd hj (by omega)⟩
theorem FreeAt.yes {C : List Ck} {p : ByteArray} {i : Nat} {f : Int} {c : Ck} (h : FreeAt C p i f) (hc : cAt C (nameB p i) = some c) : FreeAt C p (i + 1) f := by
  rcases h with ⟨h1, h2⟩ | ⟨k, h1, h2, h3⟩
  · refine .inl ⟨h1, fun j hj => ?_⟩
    by_cases e : j = i
    · subst e; rw [hc]; simp
    · exact h2 j (by omega)
  · exact .inr ⟨k, h1, by omega, h3⟩
theorem FreeAt.no {C : List Ck} {p : ByteArray} {i : Nat} {f : Int} (h : FreeAt C p i f) (hc : cAt C (nameB p i) = none) (hf : f < 0) : FreeAt C p (i + 1) (i : Int) := by
  rcases h with ⟨h1, h2⟩ | ⟨k, h1, h2, h3⟩
  · exact .inr ⟨i, rfl, by omega, hc, h2⟩
  · omega
theorem FreeAt.no' {C : List Ck} {p : ByteArray} {i : Nat} {f : Int} (h : FreeAt C p i f) (hf : ¬ f < 0) : FreeAt C p (i + 1) f := by
  rcases h with ⟨h1, h2⟩ | ⟨k, h1, h2, h3⟩
  · omega
  · exact .inr ⟨k, h1, by omega, h3⟩
theorem FreeAt.fin {C : List Ck} {p : ByteArray} {f : Int} (h : FreeAt C p 256 f) (hC : C.length < 256) : ∃ k : Nat, f = (k : Int) ∧ k < 256 ∧ cAt C (nameB p k) = none ∧ ∀ j, j < k → cAt C (nameB p j) ≠ none := by
  rcases h with ⟨h1, h2⟩ | ⟨k, h1, h2, h3⟩
  · have := names_len (by omega) h2; omega
  · exact ⟨k, h1, h2, h3⟩
theorem FreeAt.pos {C : List Ck} {p : ByteArray} {f : Int} {i : Nat} (h : FreeAt C p i f) (hi : i ≤ 256) (hf : ¬ f < 0) : ∃ k : Nat, f = (k : Int) ∧ k < 256 ∧ cAt C (nameB p k) = none ∧ ∀ j, j < k → cAt C (nameB p j) ≠ none := by
  rcases h with ⟨h1, h2⟩ | ⟨k, h1, h2, h3⟩
  · omega
  · exact ⟨k, h1, by omega, h3⟩
theorem NoHit.zero (C : List Ck) (p t : ByteArray) : NoHit C p t 0 := fun j hj => absurd hj (by omega)
theorem NoHit.yes {C : List Ck} {p t : ByteArray} {i : Nat} {c : Ck} (h : NoHit C p t i) (hc : cAt C (nameB p i) = some c) (ht : c.text ≠ t) : NoHit C p t (i + 1) := fun j hj d hd => by
  by_cases e : j = i
  · subst e; rw [hc] at hd; cases hd; exact ht
  · exact h j (by omega) d hd
theorem NoHit.no {C : List Ck} {p t : ByteArray} {i : Nat} (h : NoHit C p t i) (hc : cAt C (nameB p i) = none) : NoHit C p t (i + 1) := fun j hj d hd => by
  by_cases e : j = i
  · subst e; rw [hc] at hd; cases hd
  · exact h j (by omega) d hd
theorem NoHit.all {C : List Ck} {p t : ByteArray} {i : Nat} (h : NoHit C p t i) (hi : i < 256) (hn : NoC C (nameB p i) (p ++ ffB)) : NoHit C p t 256 := fun j hj d hd => by
  by_cases e : j < i
  · exact h j e d hd
  · rw [hn.none hi j (by omega) hj] at hd; cases hd
def PutRes (w1 w0 w : World) (K : Nat → Prop) (sb rb ti tl n N a : Nat) (C : List Ck) (L : List Lg) (nx : Nat) (X : List (Nat × ByteArray)) (p t : ByteArray) (id : ByteArray) (fresh : Bool) : Prop :=
  (fresh = false ∧ ∃ k c, k < 256 ∧ id = nameB p k ∧ cAt C id = some c ∧ c.text = t ∧ NoHit C p t k ∧ Chs w1 w0 w K sb rb ti tl n N a C L nx X) ∨
  (fresh = true ∧ ∃ k page C', k < 256 ∧ id = nameB p k ∧ cAt C id = none ∧ (∀ j, j < k → cAt C (nameB p j) ≠ none) ∧ NoHit C p t 256 ∧ PutC ⟨id, page, 0, t⟩ C C' ∧ Chs w1 w0 w K sb rb ti tl n N (a + 2) C' L nx ((page, t) :: X))
set_option maxHeartbeats 4000000
section
variable (w1 w w0 : World) (K : Nat → Prop) (sb rb ti tl n N a nx : Nat) (C : List Ck) (L : List Lg) (X : List (Nat × ByteArray))
theorem Put_k (t : ByteArray) (h : Hid (Chs w1 w0 w K sb rb ti tl n N a C L nx X)) (hN : a + 2 ≤ N ∧ N ≤ 1000) (ht1 : 1 ≤ t.size) (ht2 : t.size ≤ 128) (hC : C.length ≤ 250) (hX : ∀ c ∈ C, (c.page, c.text) ∈ X) :
    Calls Tryz.prog 18 #[.pointer (some ⟨sb, 0, none⟩), .string t] w fun e w' => ∃ id fresh, e = .returned (.tuple #[.string id, .bool fresh, .int .i64 0]) ∧ Hid (PutRes w1 w0 w' K sb rb ti tl n N a C L nx X (prB t) t id fresh) := by
  obtain ⟨x, hx⟩ : ∃ x, w.heap.size = x := ⟨_, rfl⟩
  obtain ⟨wb, hwb⟩ : ∃ w0, w.alloc (.cells #[.int .i64 0] 34) = w0 := ⟨_, rfl⟩
  have HOK := Lib.hid h.out.ok.1
  have E0 : Hid (ChE w1 w x 0 wb K sb rb ti tl n N a C L nx X) := Lib.hid (by subst hx hwb; exact ChE.start h.out)
  obtain ⟨k, MK⟩ := Mark_k w1 wb wb _ sb rb ti tl n N a nx C L X (Lib.hid E0.out.st)
  have F0 := find_no ⟨#[]⟩ (Lib.hid E0.out.st) ⟨by omega, hN.2⟩ (by decide) (cAt_no fun c hc e => by have := (HOK.out c hc).id; rw [e] at this; cases this)
  rw [show ck0 = .agg #[.int .i64 0, .int .i64 0, .int .i64 0] from rfl] at F0
  have PR := fun W => Print_c t W (by omega)
  obtain ⟨p, hp⟩ : ∃ p, prB t = p := ⟨_, rfl⟩
  have hps : p.size = 32 := by rw [← hp]; exact prB_size t
  have HSZ : Hid (∀ k, (nameB p k).size = 33) := Lib.hid fun k => by rw [nameB_size, hps]
  rw [hp] at PR ⊢
  have NM : Hid (∀ W (k : Nat), k < 256 → Calls Tryz.prog 64 #[.string p, .int .i64 (k : Int)] W fun e w' => e = .returned (.string (nameB p k)) ∧ Hid (Below W.heap.size W w')) := Lib.hid fun W k hk => name_c p k W (by omega) hk
  have FN : Hid (∀ W (s : ByteArray), s.size = 33 → cAt C s = none → Hid (ChE w1 w x 0 W K sb rb ti tl n N a C L nx X) → Calls Tryz.prog 62 #[.pointer (some ⟨sb, 0, none⟩), .string s] W fun e w' => e = .returned (.tuple #[.agg #[.int .i64 0, .int .i64 0, .int .i64 0], .bool false, .int .i64 0]) ∧ Hid (ChE w1 w x 0 w' K sb rb ti tl n N a C L nx X)) := Lib.hid fun W s hs hc hW => by
    refine (find_no s (Lib.hid hW.out.st) ⟨by omega, hN.2⟩ (by omega) hc).mono ?_
    rintro e w' ⟨rfl, hE⟩
    exact ⟨rfl, Lib.hid (hW.out.step hE.out)⟩
  have FY : Hid (∀ W (s : ByteArray) (c : Ck), s.size = 33 → cAt C s = some c → Hid (ChE w1 w x 0 W K sb rb ti tl n N a C L nx X) → Calls Tryz.prog 62 #[.pointer (some ⟨sb, 0, none⟩), .string s] W fun e w' => e = .returned (.tuple #[.agg #[.int .i64 (c.page : Int), .int .i64 (c.text.size : Int), .int .i64 c.cnt], .bool true, .int .i64 0]) ∧ Hid (ChE w1 w x 0 w' K sb rb ti tl n N a C L nx X)) := Lib.hid fun W s c hs hc hW => by
    refine (find_yes s c (Lib.hid hW.out.st) ⟨by omega, hN.2⟩ (by omega) hc).mono ?_
    rintro e w' ⟨rfl, hE⟩
    exact ⟨rfl, Lib.hid (hW.out.step hE.out)⟩
  have LS : Hid (∀ W (k : Nat), k < 256 → Hid (ChE w1 w x 0 W K sb rb ti tl n N a C L nx X) → Calls Tryz.prog 65 #[.pointer (some ⟨sb, 0, none⟩), .string p, .int .i64 (k : Int)] W fun e w' => ∃ b : Bool, e = .returned (.tuple #[.bool b, .int .i64 0]) ∧ (b = true ↔ NoC C (nameB p k) (p ++ ffB)) ∧ Hid (ChE w1 w x 0 w' K sb rb ti tl n N a C L nx X)) := Lib.hid fun W k hk hW => by
    refine (last_k w1 W W _ sb rb ti tl n N a nx C L X p k (by omega) hk (Lib.hid hW.out.st) ⟨by omega, hN.2⟩ (by omega)).mono ?_
    rintro e w' ⟨b, rfl, hb, hE⟩
    exact ⟨b, rfl, hb, Lib.hid (hW.out.step hE.out)⟩
  have BG : Hid (∀ W WA g (c : Ck), c ∈ C → Hid (ChE w1 WA x 0 W (fun k => K k ∨ k = g) sb rb ti tl n N a C L nx X) → WA.cell? ⟨g, 0, none⟩ = some (.int .i64 (c.page : Int)) → Calls Tryz.prog 66 #[.pointer (some ⟨rb, 0, none⟩), .int .i64 (c.page : Int)] W fun e w' => e = .returned (.tuple #[.string c.text, .int .i64 0]) ∧ (w'.cell? ⟨sb, 0, none⟩ = some (.pointer (some ⟨rb, 0, none⟩)) ∧ w'.cell? ⟨g, 0, none⟩ = some (.int .i64 (c.page : Int))) ∧ Hid (ChE w1 WA x 0 w' (fun k => K k ∨ k = g) sb rb ti tl n N a C L nx X)) := Lib.hid fun W WA g c hc hW hg => by
    refine (blob_get w1 W W _ sb rb ti tl n N a nx C L X c.page c.text (hX c hc) (HOK.out c hc).t2 (Lib.hid hW.out.st) ⟨by omega, hN.2⟩).mono ?_
    rintro e w' ⟨rfl, hE⟩
    have hs := hW.out.step hE.out
    exact ⟨rfl, ⟨hs.st.sbk.cells.1, (World.cell?_of_block (hs.kp g (.inr rfl))).trans hg⟩, Lib.hid hs⟩
  have BP : Hid (∀ W, Hid (ChE w1 w x 0 W K sb rb ti tl n N a C L nx X) → Calls Tryz.prog 67 #[.pointer (some ⟨rb, 0, none⟩), .string t] W fun e w' => ∃ page : Nat, e = .returned (.tuple #[.int .i64 (page : Int), .int .i64 0]) ∧ Hid (page < 65536 ∧ ChE w1 w x 0 w' K sb rb ti tl n N (a + 1) C L nx ((page, t) :: X))) := Lib.hid fun W hW => by
    refine (blob_put w1 W W _ sb rb ti tl n N a nx C L X t ht2 (Lib.hid hW.out.st) ⟨by omega, hN.2⟩).mono ?_
    rintro e w' ⟨page, rfl, hE⟩
    exact ⟨page, rfl, Lib.hid ⟨hE.out.1, hW.out.step hE.out.2⟩⟩
  have KP : Hid (∀ W (page : Nat) (s : ByteArray), page < 65536 → s.size = 33 → Hid (ChE w1 w x 0 W K sb rb ti tl n N (a + 1) C L nx ((page, t) :: X)) → Calls Tryz.prog 68 #[.pointer (some ⟨sb, 0, none⟩), .string s, .agg #[.int .i64 (page : Int), .int .i64 (t.size : Int), .int .i64 0]] W fun e w' => e = .returned (.int .i64 0) ∧ Hid (∃ C', PutC ⟨s, page, 0, t⟩ C C' ∧ ChE w1 w x 0 w' K sb rb ti tl n N (a + 2) C' L nx ((page, t) :: X))) := Lib.hid fun W page s hpg hs hW => by
    refine (keep_k w1 W W _ sb rb ti tl n N (a + 1) nx C L ((page, t) :: X) ⟨s, page, 0, t⟩ ⟨hs, hpg, ht1, ht2, by show (-1000000000 : Int) ≤ 0; decide, by show (0 : Int) ≤ 1000000000; decide⟩ (Lib.hid hW.out.st) ⟨by omega, hN.2⟩).mono ?_
    rintro e w' ⟨rfl, hE⟩
    obtain ⟨C', h1, h2⟩ := hE.out
    exact ⟨rfl, Lib.hid ⟨C', h2, hW.out.step h1⟩⟩
  have HH := Lib.hid h.out
  have k1 : ((t.size : Int) < 1) = False := by simp; omega
  have k2 : ((128 : Int) < t.size) = False := by simp; omega
  have HCL : Hid (C.length < 256) := Lib.hid (by omega)
  clear h hN ht1 ht2 hC hX hp hps
  go_enter_defers Tryz.func18, Tryz.ntmps18
  go_wp2_with fail
  subst hx
  refine MK.mono ?_
  rintro e wm ⟨rfl, rfl⟩
  go_wp2_with fail
  refine F0.mono ?_
  rintro e w2 ⟨rfl, G2⟩
  have E2 := Lib.hid (E0.out.step G2.out)
  have E3 : Hid (∀ o, ChE w1 w w.heap.size 0 (w2.alloc o) K sb rb ti tl n N a C L nx X) := Lib.hid fun o => E2.out.below ((Below.refl _ _).alloc (Nat.le_refl _) o)
  clear F0 MK G2
  go_wp2_with fail
  refine (PR _).mono ?_
  rintro e w3 ⟨rfl, hb3⟩
  have R0 : Hid (FreeAt C p 0 (-1) ∧ NoHit C p t 0 ∧ ChE w1 w w.heap.size 0 w3 K sb rb ti tl n N a C L nx X) := Lib.hid ⟨FreeAt.zero C p, NoHit.zero C p t, (E3.out _).below hb3.out⟩
  clear E2 E3 hb3 PR k1 k2
  go_wp2_with fail
  go_loopg [11, 12, 13, 14, 15, 16, 17, 18, 43, 55, 59, 94, 98] 256 (fun g s11 s12 s13 s14 s15 s16 s17 s18 s43 s55 s59 s94 s98 wr => ∃ (i : Nat) (f : Int), g = 256 - i ∧ i ≤ 256 ∧ s43 = .int .i64 (i : Int) ∧ s11 = .int .i64 f ∧ Hid (FreeAt C p i f ∧ NoHit C p t i ∧ ChE w1 w w.heap.size 0 wr K sb rb ti tl n N a C L nx X))
  case atStart => exact ⟨0, -1, rfl, Nat.zero_le _, rfl, rfl, R0⟩
  case round =>
    obtain ⟨i, f, rfl, hi, rfl, rfl, HR⟩ := hrel
    clear R0
    have HE := Lib.hid HR.out.2.2
    have HFA := Lib.hid (And.intro HR.out.1 HR.out.2.1)
    clear HR
    by_cases hlt : i < 256
    · have NMi := NM.out wr i hlt
      have hsz := HSZ.out i
      have LSi : Hid (∀ W, Hid (ChE w1 w w.heap.size 0 W K sb rb ti tl n N a C L nx X) → Calls Tryz.prog 65 #[.pointer (some ⟨sb, 0, none⟩), .string p, .int .i64 (i : Int)] W fun e w' => ∃ b : Bool, e = .returned (.tuple #[.bool b, .int .i64 0]) ∧ (b = true ↔ NoC C (nameB p i) (p ++ ffB)) ∧ Hid (ChE w1 w w.heap.size 0 w' K sb rb ti tl n N a C L nx X)) := Lib.hid fun W hW => LS.out W i hlt hW
      have HLT := Lib.hid hlt
      have hltI : (i : Int) < 256 := by omega
      cases hf : cAt C (nameB p i) with
      | none =>
        have FNi := fun W => FN.out W _ hsz hf
        have HF := Lib.hid hf
        clear hf hlt hi hsz
        go_wp2_with fail
        refine NMi.mono ?_
        rintro e w4 ⟨rfl, hb4⟩
        go_wp2_with fail
        refine (FNi _ (Lib.hid (HE.out.below hb4.out))).mono ?_
        rintro e w5 ⟨rfl, HE5⟩
        have HE6 : Hid (∀ o, ChE w1 w w.heap.size 0 (w5.alloc o) K sb rb ti tl n N a C L nx X) := Lib.hid fun o => HE5.out.below ((Below.refl _ _).alloc (Nat.le_refl _) o)
        clear NMi FNi hb4
        by_cases hneg : f < 0
        · have HNG := Lib.hid hneg
          go_wp2_with fail
          refine (LSi.out _ (Lib.hid (HE6.out _))).mono ?_
          rintro e w6 ⟨bb, rfl, hbb, HE7⟩
          clear HE5 HE6
          cases bb with
          | false =>
            clear hbb
            go_wp2_with fail
            go_roundg (256 - (i + 1))
            case measure => have := HLT.out; omega
            case rel => exact ⟨i + 1, _, rfl, HLT.out, by congr 1, rfl, Lib.hid ⟨HFA.out.1.no HF.out HNG.out, HFA.out.2.no HF.out, HE7.out⟩⟩
          | true =>
            have HKF : Hid (i < 256 ∧ cAt C (nameB p i) = none ∧ (∀ j, j < i → cAt C (nameB p j) ≠ none) ∧ NoHit C p t 256) := Lib.hid (by
              obtain ⟨k', e1, e2, e3, e4⟩ := (HFA.out.1.no HF.out HNG.out).pos HLT.out (by omega)
              obtain rfl : k' = i := by omega
              exact ⟨e2, e3, e4, HFA.out.2.all HLT.out (hbb.1 rfl)⟩)
            clear hbb
            have CF := Lib.hid (HE7.out.st.sbk.cells)
            have BPw := BP.out _ HE7
            obtain ⟨s0, s1, s2⟩ := CF.out
            obtain ⟨cx, fx, lx⟩ := HE7.out.cell
            have lsb : sb < w6.heap.size := lt_of_heap HE7.out.st.sbk.1
            clear CF
            go_wp2_with fail
            refine BPw.mono ?_
            rintro e w5 ⟨page, rfl, HP5⟩
            have HPG : Hid (page < 65536) := Lib.hid HP5.out.1
            have E5 := Lib.hid HP5.out.2
            clear BPw cx fx lx s0 s1 s2 lsb HP5
            obtain ⟨cx, fx, lx⟩ := E5.out.cell
            have E6 := Lib.hid (E5.out.set 0)
            obtain ⟨w6, hw6⟩ : ∃ w6, w5.setCell ⟨w.heap.size, 0, none⟩ (.int .i64 0) = w6 := ⟨_, rfl⟩
            rw [hw6] at E6
            have lx6 := E6.out.cell.1
            obtain ⟨s0, s1, s2⟩ := E6.out.st.sbk.cells
            have NM6 := NM.out w6 i HKF.out.1
            go_wp2_with fail
            refine NM6.mono ?_
            rintro e w7 ⟨rfl, hb7⟩
            have E7 := Lib.hid (E6.out.below hb7.out)
            have KPw := KP.out _ page (nameB p i) HPG.out (HSZ.out _) E7
            clear NM6 hb7 lx6 s0 s1 s2 hw6
            obtain ⟨s0, s1, s2⟩ := E7.out.st.sbk.cells
            go_wp2_with fail
            refine KPw.mono ?_
            rintro e w8 ⟨rfl, HK8⟩
            obtain ⟨C', hpc, hE8⟩ := HK8.out
            have E8 := Lib.hid hE8
            have HPC := Lib.hid hpc
            clear KPw HK8 hE8 hpc cx fx lx s0 s1 s2
            have NM8 := NM.out w8 i HKF.out.1
            go_wp2_with fail
            refine NM8.mono ?_
            rintro e w9 ⟨rfl, hb9⟩
            have E9 := Lib.hid (E8.out.below hb9.out)
            clear NM8 hb9
            obtain ⟨cx, fx, lx⟩ := E9.out.cell
            have E10 := Lib.hid (E9.out.set 0)
            have hfin := E10.out.cell.1
            have HG : Hid (PutRes w1 w0 (w9.setCell ⟨w.heap.size, 0, none⟩ (.int .i64 0)) K sb rb ti tl n N a C L nx X p t (nameB p i) true) := Lib.hid (.inr ⟨rfl, i, page, C', HKF.out.1, rfl, HKF.out.2.1, HKF.out.2.2.1, HKF.out.2.2.2, HPC.out, ChE.end_ HH.out E10.out⟩)
            go_wp2_with fail
            refine leaves_cons (f := 60) (args := #[.pointer (some ⟨sb, 0, none⟩), .int .i64 (k : Int), .pointer (some ⟨w.heap.size, 0, none⟩)]) (by simp) (by simp [go_sem]) ?_
            refine (undo_d _ _ _ _ _ hfin).mono ?_
            rintro e u' wz ⟨rfl, rfl, rfl⟩
            simp [Leaves, settle, results, Tryz.results18, go_sem, hfin]
            exact HG
        · have hpos : Hid (∃ kf : Nat, f = (kf : Int) ∧ kf < 256 ∧ cAt C (nameB p kf) = none ∧ ∀ j, j < kf → cAt C (nameB p j) ≠ none) := Lib.hid (HFA.out.1.pos (Nat.le_of_lt HLT.out) hneg)
          have HNG := Lib.hid hneg
          go_wp2_with fail
          refine (LSi.out _ (Lib.hid (HE6.out _))).mono ?_
          rintro e w6 ⟨bb, rfl, hbb, HE7⟩
          clear HE5 HE6
          cases bb with
          | false =>
            clear hbb
            go_wp2_with fail
            go_roundg (256 - (i + 1))
            case measure => have := HLT.out; omega
            case rel => exact ⟨i + 1, _, rfl, HLT.out, by congr 1, rfl, Lib.hid ⟨HFA.out.1.no' (by have := HNG.out; omega), HFA.out.2.no HF.out, HE7.out⟩⟩
          | true =>
            obtain ⟨kf, hkf, q1, q2, q3⟩ := hpos.out
            have HKF : Hid (kf < 256 ∧ cAt C (nameB p kf) = none ∧ (∀ j, j < kf → cAt C (nameB p j) ≠ none) ∧ NoHit C p t 256) := Lib.hid ⟨q1, q2, q3, HFA.out.2.all HLT.out (hbb.1 rfl)⟩
            subst hkf
            clear hbb q1 q2 q3 hneg HFA HNG hpos
            have CF := Lib.hid (HE7.out.st.sbk.cells)
            have BPw := BP.out _ HE7
            obtain ⟨s0, s1, s2⟩ := CF.out
            obtain ⟨cx, fx, lx⟩ := HE7.out.cell
            have lsb : sb < w6.heap.size := lt_of_heap HE7.out.st.sbk.1
            clear CF
            go_wp2_with fail
            refine BPw.mono ?_
            rintro e w5 ⟨page, rfl, HP5⟩
            have HPG : Hid (page < 65536) := Lib.hid HP5.out.1
            have E5 := Lib.hid HP5.out.2
            clear BPw cx fx lx s0 s1 s2 lsb HP5
            obtain ⟨cx, fx, lx⟩ := E5.out.cell
            have E6 := Lib.hid (E5.out.set 0)
            obtain ⟨w6, hw6⟩ : ∃ w6, w5.setCell ⟨w.heap.size, 0, none⟩ (.int .i64 0) = w6 := ⟨_, rfl⟩
            rw [hw6] at E6
            have lx6 := E6.out.cell.1
            obtain ⟨s0, s1, s2⟩ := E6.out.st.sbk.cells
            have NM6 := NM.out w6 kf HKF.out.1
            go_wp2_with fail
            refine NM6.mono ?_
            rintro e w7 ⟨rfl, hb7⟩
            have E7 := Lib.hid (E6.out.below hb7.out)
            have KPw := KP.out _ page (nameB p kf) HPG.out (HSZ.out _) E7
            clear NM6 hb7 lx6 s0 s1 s2 hw6
            obtain ⟨s0, s1, s2⟩ := E7.out.st.sbk.cells
            go_wp2_with fail
            refine KPw.mono ?_
            rintro e w8 ⟨rfl, HK8⟩
            obtain ⟨C', hpc, hE8⟩ := HK8.out
            have E8 := Lib.hid hE8
            have HPC := Lib.hid hpc
            clear KPw HK8 hE8 hpc cx fx lx s0 s1 s2
            have NM8 := NM.out w8 kf HKF.out.1
            go_wp2_with fail
            refine NM8.mono ?_
            rintro e w9 ⟨rfl, hb9⟩
            have E9 := Lib.hid (E8.out.below hb9.out)
            clear NM8 hb9
            obtain ⟨cx, fx, lx⟩ := E9.out.cell
            have E10 := Lib.hid (E9.out.set 0)
            have hfin := E10.out.cell.1
            have HG : Hid (PutRes w1 w0 (w9.setCell ⟨w.heap.size, 0, none⟩ (.int .i64 0)) K sb rb ti tl n N a C L nx X p t (nameB p kf) true) := Lib.hid (.inr ⟨rfl, kf, page, C', HKF.out.1, rfl, HKF.out.2.1, HKF.out.2.2.1, HKF.out.2.2.2, HPC.out, ChE.end_ HH.out E10.out⟩)
            go_wp2_with fail
            refine leaves_cons (f := 60) (args := #[.pointer (some ⟨sb, 0, none⟩), .int .i64 (k : Int), .pointer (some ⟨w.heap.size, 0, none⟩)]) (by simp) (by simp [go_sem]) ?_
            refine (undo_d _ _ _ _ _ hfin).mono ?_
            rintro e u' wz ⟨rfl, rfl, rfl⟩
            simp [Leaves, settle, results, Tryz.results18, go_sem, hfin]
            exact HG
      | some c =>
        have hcm := (cAt_some hf).1
        have FYi := fun W => FY.out W _ c hsz hf
        have HF := Lib.hid hf
        have BGi : Hid (∀ W WA g, Hid (ChE w1 WA w.heap.size 0 W (fun k => K k ∨ k = g) sb rb ti tl n N a C L nx X) → WA.cell? ⟨g, 0, none⟩ = some (.int .i64 (c.page : Int)) → Calls Tryz.prog 66 #[.pointer (some ⟨rb, 0, none⟩), .int .i64 (c.page : Int)] W fun e w' => e = .returned (.tuple #[.string c.text, .int .i64 0]) ∧ (w'.cell? ⟨sb, 0, none⟩ = some (.pointer (some ⟨rb, 0, none⟩)) ∧ w'.cell? ⟨g, 0, none⟩ = some (.int .i64 (c.page : Int))) ∧ Hid (ChE w1 WA w.heap.size 0 w' (fun k => K k ∨ k = g) sb rb ti tl n N a C L nx X)) := Lib.hid fun W WA g h1 h2 => BG.out W WA g c hcm h1 h2
        clear hf hlt hi hsz hcm
        obtain ⟨tx, htx⟩ : ∃ tx, c.text = tx := ⟨_, rfl⟩
        have HTX := Lib.hid htx
        rw [htx] at BGi FYi
        generalize c.page = z0 at *
        generalize c.cnt = z2 at *
        generalize (tx.size : Int) = z1 at *
        clear htx
        go_wp2_with fail
        refine NMi.mono ?_
        rintro e w4 ⟨rfl, hb4⟩
        go_wp2_with fail
        refine (FYi _ (Lib.hid (HE.out.below hb4.out))).mono ?_
        rintro e w5 ⟨rfl, HE5⟩
        clear NMi FYi hb4
        have HE6 := Lib.hid (HE5.out.new (.cells #[.int .i64 (z0 : Int), .int .i64 z1, .int .i64 z2] 124))
        have HOLD : Hid (∀ W, ChE w1 (w5.alloc (.cells #[.int .i64 (z0 : Int), .int .i64 z1, .int .i64 z2] 124)) w.heap.size 0 W (fun k => K k ∨ k = w5.heap.size) sb rb ti tl n N a C L nx X → ChE w1 w w.heap.size 0 W K sb rb ti tl n N a C L nx X) := Lib.hid fun W h9 => ChE.old HE5.out h9
        obtain ⟨w6, hw6⟩ : ∃ w6, w5.alloc (.cells #[.int .i64 (z0 : Int), .int .i64 z1, .int .i64 z2] 124) = w6 := ⟨_, rfl⟩
        have g0 : w6.cell? ⟨w5.heap.size, 0, none⟩ = some (.int .i64 (z0 : Int)) := by rw [← hw6]; exact cell_lit (heap_alloc_new _ _) rfl
        rw [hw6] at HE6 HOLD
        obtain ⟨s0, s1, s2⟩ := HE6.out.st.sbk.cells
        have lsb : sb < w6.heap.size := lt_of_heap HE6.out.st.sbk.1
        have HE7 : Hid (ChE w1 w6 w.heap.size 0 w6.drew (fun k => K k ∨ k = w5.heap.size) sb rb ti tl n N a C L nx X) := Lib.hid (HE6.out.below (Below.refl _ _).drew)
        have HG0 := Lib.hid g0
        clear HE5
        go_wp2_with fail
        go_region_held3 (fun w' => w'.cell? ⟨sb, 0, none⟩ = some (.pointer (some ⟨rb, 0, none⟩)) ∧ w'.cell? ⟨w5.heap.size, 0, none⟩ = some (.int .i64 (z0 : Int))) (go_keep) ((first
          | (go_at_call 66
             refine Calls.at_args (BGi.out _ _ _ HE7 HG0.out) (by with_reducible rfl) ?_
             rintro e w7 ⟨rfl, hk7, HE8⟩)))
        all_goals (
          have HE9 := Lib.hid (HOLD.out _ HE8.out)
          clear HE6 HE7 HE8 HOLD s0 s1 s2 lsb g0 HG0 hk7 hw6 BGi
          by_cases he : tx = t
          · have q : (tx.toList == t.toList) = true := by rw [baK_eq]; simp [he]
            have NM2 := NM.out w7 i HLT.out
            have HQ := Lib.hid he
            clear he
            go_wp2_with fail
            refine NM2.mono ?_
            rintro e w9 ⟨rfl, hb9⟩
            have E9 := Lib.hid (HE9.out.below hb9.out)
            clear NM2 hb9
            obtain ⟨cx, fx, lx⟩ := E9.out.cell
            have E10 := Lib.hid (E9.out.set 0)
            have hfin := E10.out.cell.1
            have HG : Hid (PutRes w1 w0 (w9.setCell ⟨w.heap.size, 0, none⟩ (.int .i64 0)) K sb rb ti tl n N a C L nx X p t (nameB p i) false) := Lib.hid (.inl ⟨rfl, i, c, HLT.out, rfl, HF.out, HTX.out.trans HQ.out, HFA.out.2, ChE.end_ HH.out E10.out⟩)
            go_wp2_with fail
            refine leaves_cons (f := 60) (args := #[.pointer (some ⟨sb, 0, none⟩), .int .i64 (k : Int), .pointer (some ⟨w.heap.size, 0, none⟩)]) (by simp) (by simp [go_sem]) ?_
            refine (undo_d _ _ _ _ _ hfin).mono ?_
            rintro e u' wz ⟨rfl, rfl, rfl⟩
            simp [Leaves, settle, results, Tryz.results18, go_sem, hfin]
            exact HG
          · have q : (tx.toList == t.toList) = false := by rw [baK_eq]; simp [he]
            have HQ := Lib.hid he
            clear he
            go_wp2_with fail
            go_roundg (256 - (i + 1))
            case measure => have := HLT.out; omega
            case rel => exact ⟨i + 1, _, rfl, HLT.out, by congr 1, rfl, Lib.hid ⟨HFA.out.1.yes HF.out, HFA.out.2.yes HF.out (fun e => HQ.out (HTX.out.symm.trans e)), HE9.out⟩⟩)
    · obtain rfl : i = 256 := by omega
      obtain ⟨kf, hkf, q1, q2, q3⟩ := HFA.out.1.fin HCL.out
      have HKF : Hid (kf < 256 ∧ cAt C (nameB p kf) = none ∧ (∀ j, j < kf → cAt C (nameB p j) ≠ none) ∧ NoHit C p t 256) := Lib.hid ⟨q1, q2, q3, HFA.out.2⟩
      subst hkf
      clear q1 q2 q3 HFA hlt hi
      have CF := Lib.hid (HE.out.st.sbk.cells)
      have BPw := BP.out _ HE
      obtain ⟨s0, s1, s2⟩ := CF.out
      obtain ⟨cx, fx, lx⟩ := HE.out.cell
      have lsb : sb < wr.heap.size := lt_of_heap HE.out.st.sbk.1
      clear CF
      go_wp2_with fail
      refine BPw.mono ?_
      rintro e w5 ⟨page, rfl, HP5⟩
      have HPG : Hid (page < 65536) := Lib.hid HP5.out.1
      have E5 := Lib.hid HP5.out.2
      clear BPw cx fx lx s0 s1 s2 lsb HP5
      obtain ⟨cx, fx, lx⟩ := E5.out.cell
      have E6 := Lib.hid (E5.out.set 0)
      obtain ⟨w6, hw6⟩ : ∃ w6, w5.setCell ⟨w.heap.size, 0, none⟩ (.int .i64 0) = w6 := ⟨_, rfl⟩
      rw [hw6] at E6
      have lx6 := E6.out.cell.1
      obtain ⟨s0, s1, s2⟩ := E6.out.st.sbk.cells
      have NM6 := NM.out w6 kf HKF.out.1
      go_wp2_with fail
      refine NM6.mono ?_
      rintro e w7 ⟨rfl, hb7⟩
      have E7 := Lib.hid (E6.out.below hb7.out)
      have KPw := KP.out _ page (nameB p kf) HPG.out (HSZ.out _) E7
      clear NM6 hb7 lx6 s0 s1 s2 hw6
      obtain ⟨s0, s1, s2⟩ := E7.out.st.sbk.cells
      go_wp2_with fail
      refine KPw.mono ?_
      rintro e w8 ⟨rfl, HK8⟩
      obtain ⟨C', hpc, hE8⟩ := HK8.out
      have E8 := Lib.hid hE8
      have HPC := Lib.hid hpc
      clear KPw HK8 hE8 hpc cx fx lx s0 s1 s2
      have NM8 := NM.out w8 kf HKF.out.1
      go_wp2_with fail
      refine NM8.mono ?_
      rintro e w9 ⟨rfl, hb9⟩
      have E9 := Lib.hid (E8.out.below hb9.out)
      clear NM8 hb9
      obtain ⟨cx, fx, lx⟩ := E9.out.cell
      have E10 := Lib.hid (E9.out.set 0)
      have hfin := E10.out.cell.1
      have HG : Hid (PutRes w1 w0 (w9.setCell ⟨w.heap.size, 0, none⟩ (.int .i64 0)) K sb rb ti tl n N a C L nx X p t (nameB p kf) true) := Lib.hid (.inr ⟨rfl, kf, page, C', HKF.out.1, rfl, HKF.out.2.1, HKF.out.2.2.1, HKF.out.2.2.2, HPC.out, ChE.end_ HH.out E10.out⟩)
      go_wp2_with fail
      refine leaves_cons (f := 60) (args := #[.pointer (some ⟨sb, 0, none⟩), .int .i64 (k : Int), .pointer (some ⟨w.heap.size, 0, none⟩)]) (by simp) (by simp [go_sem]) ?_
      refine (undo_d _ _ _ _ _ hfin).mono ?_
      rintro e u' wz ⟨rfl, rfl, rfl⟩
      simp [Leaves, settle, results, Tryz.results18, go_sem, hfin]
      exact HG
end
set_option maxHeartbeats 1000000
section
variable {w1 w0 w : World} {K : Nat → Prop} {sb rb ti tl n N a nx : Nat} {C : List Ck} {L : List Lg} {X : List (Nat × ByteArray)} {p t id : ByteArray} {fresh : Bool}
end
set_option maxHeartbeats 4000000
set_option maxHeartbeats 2000000
abbrev Rf := ByteArray × Int
def rcells (l : List Rf) : List Value := l.flatMap fun p => [.string p.1, .int .i64 p.2]
def RfIn (p : Rf) : Prop := -9223372036854775808 ≤ p.2 ∧ p.2 < 9223372036854775808
def RefsAt (w : World) (v : Value) (l : List Rf) : Prop :=
  (∃ a cap, v = .slice a l.length cap ∧ ∀ k, (h : k < l.length) → ∃ b off, a = some ⟨b, off, none⟩ ∧ w.cell? ⟨b, off + k * 2, none⟩ = some (.string l[k].1) ∧ w.cell? ⟨b, off + k * 2 + 1, none⟩ = some (.int .i64 l[k].2) ∧ b < w.heap.size) ∧
    (∀ p ∈ l, RfIn p) ∧ l.length ≤ maxLen
theorem RefsAt.len {w : World} {v : Value} {l : List Rf} (h : RefsAt w v l) : l.length ≤ 9223372036854775807 :=
  Nat.le_trans h.2.2 (by decide)
theorem wrap_up {k n : Nat} (h : k < n) (hn : n ≤ 9223372036854775807) : wrap64 ((k : Int) + 1) = ((k + 1 : Nat) : Int) := by
  have e : (k : Int) + 1 = ((k + 1 : Nat) : Int) := by push_cast; rfl
  rw [e]
  unfold wrap64; omega
theorem RefsAt.get {w : World} {a : Option Addr} {n cap : Nat} {l : List Rf} (h : RefsAt w (.slice a n cap) l) (k : Nat) (hk : k < l.length) :
    ∃ b off, a = some ⟨b, off, none⟩ ∧ w.cell? ⟨b, off + k * 2, none⟩ = some (.string l[k].1) ∧ w.cell? ⟨b, off + k * 2 + 1, none⟩ = some (.int .i64 l[k].2) ∧ b < w.heap.size := by
  obtain ⟨⟨a', c', e, hc⟩, _⟩ := h
  cases e
  exact hc k hk
theorem RefsAt.form {w : World} {v : Value} {l : List Rf} (h : RefsAt w v l) : ∃ a cap, v = .slice a l.length cap := by
  obtain ⟨⟨a, c, e, _⟩, _⟩ := h; exact ⟨a, c, e⟩
theorem RefsAt.below {w w' : World} {v : Value} {l : List Rf} (h : RefsAt w v l) (hb : Below w.heap.size w w') : RefsAt w' v l := by
  obtain ⟨⟨a, c, rfl, hc⟩, hn⟩ := h
  refine ⟨⟨a, c, rfl, fun k hk => ?_⟩, hn⟩
  obtain ⟨b, off, e, h1, h2, h3⟩ := hc k hk
  exact ⟨b, off, e, (hb.cell (p := ⟨b, off + k * 2, none⟩) h3).trans h1, (hb.cell (p := ⟨b, off + k * 2 + 1, none⟩) h3).trans h2, Nat.lt_of_lt_of_le h3 hb.size⟩
def rOk (p : Rf) : Bool := decide (p.1.size = 33) && (decide (1 ≤ p.2) && decide (p.2 ≤ 128))
def rightR (l : List Rf) : Bool := l.all rOk && decide (l.length ≤ 4000)
def sumR : List Rf → Int
  | [] => 0
  | p :: r => p.2 + sumR r
def sizeR (l : List Rf) : Int := if rightR l then sumR l else 0
theorem sumR_append (l m : List Rf) : sumR (l ++ m) = sumR l + sumR m := by
  induction l with
  | nil => simp [sumR]
  | cons p r ih => simp only [List.cons_append, sumR, ih]; omega
theorem sumR_bound {l : List Rf} (h : l.all rOk = true) : 0 ≤ sumR l ∧ sumR l ≤ 128 * l.length := by
  induction l with
  | nil => simp [sumR]
  | cons p r ih =>
    simp only [List.all_cons, Bool.and_eq_true] at h
    have := ih h.2
    have h1 := h.1
    simp only [rOk, Bool.and_eq_true, decide_eq_true_eq] at h1
    simp only [sumR, List.length_cons]
    push_cast
    omega
def RightRel (w : World) (l : List Rf) (g : Nat) (s : Value) (wr : World) : Prop :=
  ∃ k, g = l.length - k ∧ k ≤ l.length ∧ s = .int .i64 k ∧ ((l.take k).all rOk = true) ∧ Below w.heap.size w wr
theorem take_all {l : List Rf} {k : Nat} (hlt : k < l.length) (h : (l.take k).all rOk = true) (hp : rOk l[k] = true) : (l.take (k + 1)).all rOk = true := by
  rw [List.take_succ_eq_append_getElem hlt, List.all_append, h]; simp [hp]
theorem rOk_dec (p : Rf) : (p.1.size = 33 ∧ 1 ≤ p.2 ∧ p.2 ≤ 128 ∧ rOk p = true) ∨ (p.1.size ≠ 33 ∧ rOk p = false) ∨ (p.1.size = 33 ∧ p.2 < 1 ∧ rOk p = false) ∨ (p.1.size = 33 ∧ 1 ≤ p.2 ∧ 128 < p.2 ∧ rOk p = false) := by
  by_cases h1 : p.1.size = 33
  · by_cases h2 : 1 ≤ p.2
    · by_cases h3 : p.2 ≤ 128
      · exact .inl ⟨h1, h2, h3, by simp [rOk, h1, h2, h3]⟩
      · exact .inr (.inr (.inr ⟨h1, h2, by omega, by simp [rOk, h3]⟩))
    · exact .inr (.inr (.inl ⟨h1, by omega, by simp [rOk, h2]⟩))
  · exact .inr (.inl ⟨h1, by simp [rOk, h1]⟩)
theorem not_right {l : List Rf} {p : Rf} (hm : p ∈ l) (h : rOk p = false) : rightR l = false := by
  unfold rightR
  rw [Bool.and_eq_false_iff]; left
  rw [List.all_eq_false]; exact ⟨p, hm, by simp [h]⟩
theorem RightR_c (v : Value) (l : List Rf) (w : World) (h : RefsAt w v l) :
    Calls Tryz.prog 42 #[v] w fun e w' => e = .returned (.bool (rightR l)) ∧ Below w.heap.size w w' := by
  have HF := Lib.hid h
  have HLN := Lib.hid h.len
  obtain ⟨a, cap, rfl⟩ := h.form
  clear h
  go_enter Tryz.func42, Tryz.ntmps42
  go_wp2_with fail
  go_loopg [7] l.length (fun g s7 wr => RightRel w l g s7 wr)
  case atStart => exact ⟨0, by omega, Nat.zero_le _, rfl, by simp, Below.refl _ _⟩
  case round =>
    obtain ⟨k, rfl, hk, rfl, hall, hb⟩ := hrel
    by_cases hlt : k < l.length
    · obtain ⟨b, off, rfl, c1, c2, hbl⟩ := (HF.out).get k hlt
      have c1 := (hb.cell (p := ⟨b, off + k * 2, none⟩) hbl).trans c1
      have c2 := (hb.cell (p := ⟨b, off + k * 2 + 1, none⟩) hbl).trans c2
      have Hb := Lib.hid hb
      have HA := Lib.hid (fun h => take_all hlt hall h)
      have HWR := Lib.hid (wrap_up hlt HLN.out)
      have HN := Lib.hid (fun h => not_right (List.getElem_mem hlt) h)
      clear hb hall
      generalize l[k] = p at *
      obtain ⟨i, n⟩ := p
      simp only at c1 c2
      rcases rOk_dec (i, n) with ⟨h1, h2, h3, h4⟩ | ⟨h1, h4⟩ | ⟨h1, h2, h4⟩ | ⟨h1, h2, h3, h4⟩
      · have HT := Lib.hid (HA.out h4)
        simp only at h1 h2 h3
        have hs : ((i.size : Int) != 33) = false := by rw [h1]; rfl
        have d1 : decide (n < 1) = false := decide_eq_false (by omega)
        have d2 : decide (n > 128) = false := decide_eq_false (by omega)
        clear h1 h2 h3 h4 HA HN
        go_wp2_with fail
        go_roundg (l.length - (k + 1))
        case measure => omega
        case rel => exact ⟨k + 1, rfl, by omega, congrArg (Value.int .i64) HWR.out, HT.out, (Hb.out).alloc (Hb.out).size _⟩
      · have HE := Lib.hid (HN.out h4)
        have hs : ((i.size : Int) != 33) = true := by simp only at h1; simp; omega
        clear h1 h4 HA HN
        go_wp2_with fail
        go_ret
        exact ⟨ret_bool HE.out.symm, (Hb.out).alloc (Hb.out).size _⟩
      · have HE := Lib.hid (HN.out h4)
        simp only at h1 h2
        have hs : ((i.size : Int) != 33) = false := by rw [h1]; rfl
        have d1 : decide (n < 1) = true := decide_eq_true (by omega)
        clear h1 h2 h4 HA HN
        go_wp2_with fail
        go_ret
        exact ⟨ret_bool HE.out.symm, (Hb.out).alloc (Hb.out).size _⟩
      · have HE := Lib.hid (HN.out h4)
        simp only at h1 h2 h3
        have hs : ((i.size : Int) != 33) = false := by rw [h1]; rfl
        have d1 : decide (n < 1) = false := decide_eq_false (by omega)
        have d2 : decide (n > 128) = true := decide_eq_true (by omega)
        clear h1 h2 h3 h4 HA HN
        go_wp2_with fail
        go_ret
        exact ⟨ret_bool HE.out.symm, (Hb.out).alloc (Hb.out).size _⟩
    · obtain rfl : k = l.length := by omega
      rw [List.take_length] at hall
      have Hb := Lib.hid hb
      by_cases h4 : l.length ≤ 4000
      · have HE := Lib.hid (show rightR l = true by unfold rightR; rw [hall]; simp [h4])
        have d1 : decide ((l.length : Int) ≤ 4000) = true := decide_eq_true (by omega)
        clear hall hb h4
        go_wp2_with fail
        go_ret
        exact ⟨ret_bool HE.out.symm, Hb.out⟩
      · have HE := Lib.hid (show rightR l = false by unfold rightR; simp [h4])
        have d1 : decide ((l.length : Int) ≤ 4000) = false := decide_eq_false (by omega)
        clear hall hb h4
        go_wp2_with fail
        go_ret
        exact ⟨ret_bool HE.out.symm, Hb.out⟩
def SizeRel (w : World) (l : List Rf) (g : Nat) (s3 s11 : Value) (wr : World) : Prop :=
  ∃ k, g = l.length - k ∧ k ≤ l.length ∧ s3 = .int .i64 (sumR (l.take k)) ∧ s11 = .int .i64 k ∧ Below w.heap.size w wr
theorem sumR_take {l : List Rf} {k : Nat} (hlt : k < l.length) (h : l.all rOk = true) (h4 : l.length ≤ 4000) : wrap64 (sumR (l.take k) + l[k].2) = sumR (l.take (k + 1)) := by
  have e : sumR (l.take k) + l[k].2 = sumR (l.take (k + 1)) := by
    rw [List.take_succ_eq_append_getElem hlt, sumR_append]; simp [sumR]
  rw [e]
  have := sumR_bound (l := l.take (k + 1)) (by rw [List.all_eq_true] at h ⊢; exact fun x hx => h x (List.mem_of_mem_take hx))
  have hl : (l.take (k + 1)).length ≤ 4000 := by rw [List.length_take]; omega
  unfold wrap64; omega
theorem rightR_parts {l : List Rf} (h : rightR l = true) : l.all rOk = true ∧ l.length ≤ 4000 := by
  unfold rightR at h
  rw [Bool.and_eq_true] at h
  exact ⟨h.1, of_decide_eq_true h.2⟩
theorem SizeR_c (v : Value) (l : List Rf) (w : World) (h : RefsAt w v l) :
    Calls Tryz.prog 43 #[v] w fun e w' => e = .returned (.int .i64 (sizeR l)) ∧ Below w.heap.size w w' := by
  have HF := Lib.hid h
  have RC := RightR_c v l w h
  obtain ⟨a, cap, rfl⟩ := h.form
  clear h
  cases hr : rightR l with
  | false =>
    rw [hr] at RC
    have HE := Lib.hid (show sizeR l = 0 by unfold sizeR; rw [hr]; rfl)
    go_enter Tryz.func43, Tryz.ntmps43
    go_wp2_with fail
    refine RC.mono ?_
    rintro e w1 ⟨rfl, HB⟩
    go_wp2_with fail
    go_ret
    exact ⟨by rw [HE.out]; rfl, HB⟩
  | true =>
    rw [hr] at RC
    obtain ⟨hall, h4⟩ := rightR_parts hr
    have HE := Lib.hid (show sizeR l = sumR l by unfold sizeR; rw [hr]; rfl)
    have HAL := Lib.hid hall
    have H4 := Lib.hid h4
    clear hall h4 hr
    go_enter Tryz.func43, Tryz.ntmps43
    go_wp2_with fail
    refine RC.mono ?_
    rintro e w1 ⟨rfl, HB⟩
    have HB := Lib.hid HB
    clear RC
    go_wp2_with fail
    go_loopg [3, 11] l.length (fun g s3 s11 wr => SizeRel w l g s3 s11 wr)
    case atStart => exact ⟨0, by omega, Nat.zero_le _, rfl, rfl, HB.out⟩
    case round =>
      obtain ⟨k, rfl, hk, rfl, rfl, hb⟩ := hrel
      by_cases hlt : k < l.length
      · obtain ⟨b, off, rfl, c1, c2, hbl⟩ := (HF.out).get k hlt
        have c1 := (hb.cell (p := ⟨b, off + k * 2, none⟩) hbl).trans c1
        have c2 := (hb.cell (p := ⟨b, off + k * 2 + 1, none⟩) hbl).trans c2
        have Hb := Lib.hid hb
        have HWR := Lib.hid (wrap_up hlt (Nat.le_trans H4.out (by decide)))
        have HSM := Lib.hid (sumR_take hlt HAL.out H4.out)
        obtain ⟨m1, hm1⟩ : ∃ m1, sumR (l.take (k + 1)) = m1 := ⟨_, rfl⟩
        rw [hm1] at HSM
        have HM1 := Lib.hid hm1
        clear hm1
        clear hb
        generalize sumR (l.take k) = m0 at *
        generalize l[k] = p at *
        obtain ⟨i, n⟩ := p
        simp only at c1 c2
        go_wp2_with fail
        go_roundg (l.length - (k + 1))
        case measure => omega
        case rel => exact ⟨k + 1, rfl, by omega, congrArg (Value.int .i64) (HSM.out.trans HM1.out.symm), congrArg (Value.int .i64) HWR.out, (Hb.out).alloc (Hb.out).size _⟩
      · obtain rfl : k = l.length := by omega
        rw [List.take_length]
        have Hb := Lib.hid hb
        clear hb
        go_wp2_with fail
        go_ret
        exact ⟨by rw [HE.out]; rfl, Hb.out⟩
def endsL (size frm n : Int) : Int × Int := if n < 1 ∨ size ≤ frm then (0, 0) else (max frm 0, max (if frm < 0 ∨ n < size - frm then min (frm + n) size else size) (max frm 0))
theorem endsL_ok (size frm n : Int) (h : 0 ≤ size) : 0 ≤ (endsL size frm n).1 ∧ (endsL size frm n).1 ≤ (endsL size frm n).2 ∧ (endsL size frm n).2 ≤ size := by
  unfold endsL
  split
  · exact ⟨Int.le_refl _, Int.le_refl _, h⟩
  · split <;> simp only <;> omega
theorem ends_c (size frm n : Int) (w : World) (h : 0 ≤ size ∧ size ≤ 1000000) (h1 : -9223372036854775808 ≤ frm ∧ frm < 9223372036854775808) (h2 : -9223372036854775808 ≤ n ∧ n < 9223372036854775808) :
    Calls Tryz.prog 139 #[.int .i64 size, .int .i64 frm, .int .i64 n] w fun e w' => e = .returned (.tuple #[.int .i64 (endsL size frm n).1, .int .i64 (endsL size frm n).2]) ∧ Below w.heap.size w w' := by
  by_cases c1 : n < 1
  · have d1 : decide (n < 1) = true := decide_eq_true c1
    have HE := Lib.hid (show endsL size frm n = (0, 0) by unfold endsL; rw [if_pos (.inl c1)])
    clear c1 h h1 h2
    go_enter Tryz.func139, Tryz.ntmps139
    go_wp2_with fail
    go_ret2
    exact ⟨by rw [HE.out]; rfl, Below.refl _ _⟩
  have d1 : decide (n < 1) = false := decide_eq_false c1
  by_cases c2 : size ≤ frm
  · have d2 : decide (frm ≥ size) = true := decide_eq_true c2
    have HE := Lib.hid (show endsL size frm n = (0, 0) by unfold endsL; rw [if_pos (.inr c2)])
    clear c1 c2 h h1 h2
    go_enter Tryz.func139, Tryz.ntmps139
    go_wp2_with fail
    go_ret2
    exact ⟨by rw [HE.out]; rfl, Below.refl _ _⟩
  have d2 : decide (frm ≥ size) = false := decide_eq_false c2
  have hE0 : endsL size frm n = (max frm 0, max (if frm < 0 ∨ n < size - frm then min (frm + n) size else size) (max frm 0)) := by unfold endsL; rw [if_neg (fun h => h.elim c1 c2)]
  by_cases c3 : frm < 0
  · have d3 : decide (frm ≥ 0) = false := decide_eq_false (by omega)
    have HE := Lib.hid (show endsL size frm n = (max frm 0, max (min (frm + n) size) (max frm 0)) by rw [hE0, if_pos (.inl c3)])
    have e1 : wrap64 (frm + n) = frm + n := by unfold wrap64; omega
    clear c1 c2 c3 hE0 h h1 h2
    go_enter Tryz.func139, Tryz.ntmps139
    go_wp2_with fail
    go_ret2
    exact ⟨by rw [HE.out]; rfl, Below.refl _ _⟩
  have d3 : decide (frm ≥ 0) = true := decide_eq_true (by omega)
  have e0 : wrap64 (size - frm) = size - frm := by unfold wrap64; omega
  by_cases c4 : n < size - frm
  · have d4 : decide (n ≥ size - frm) = false := decide_eq_false (by omega)
    have HE := Lib.hid (show endsL size frm n = (max frm 0, max (min (frm + n) size) (max frm 0)) by rw [hE0, if_pos (.inr c4)])
    have e1 : wrap64 (frm + n) = frm + n := by unfold wrap64; omega
    clear c1 c2 c3 c4 hE0 h h1 h2
    go_enter Tryz.func139, Tryz.ntmps139
    go_wp2_with fail
    go_ret2
    exact ⟨by rw [HE.out]; rfl, Below.refl _ _⟩
  · have d4 : decide (n ≥ size - frm) = true := decide_eq_true (by omega)
    have HE := Lib.hid (show endsL size frm n = (frm, size) by
      rw [hE0, if_neg (fun h => h.elim c3 c4)]
      have : max frm 0 = frm := by omega
      rw [this]
      have : max size frm = size := by omega
      rw [this])
    clear c1 c2 c3 c4 hE0 h h1 h2
    go_enter Tryz.func139, Tryz.ntmps139
    go_wp2_with fail
    go_ret2
    exact ⟨by rw [HE.out]; rfl, Below.refl _ _⟩
def pA (lo at_ : Int) : Int := max (lo - at_) 0
def pB (hi at_ len : Int) : Int := min (hi - at_) len
def atK (l : List Rf) (k : Nat) : Int := sumR (l.take k)
theorem atK_succ {l : List Rf} {k : Nat} (h : k < l.length) : atK l (k + 1) = atK l k + l[k].2 := by
  unfold atK; rw [List.take_succ_eq_append_getElem h, sumR_append]; simp [sumR]
theorem atK_bound {l : List Rf} (h : rightR l = true) (k : Nat) : 0 ≤ atK l k ∧ atK l k ≤ 512000 := by
  obtain ⟨h1, h2⟩ := rightR_parts h
  have := sumR_bound (l := l.take k) (by rw [List.all_eq_true] at h1 ⊢; exact fun x hx => h1 x (List.mem_of_mem_take hx))
  have hl : (l.take k).length ≤ 4000 := by rw [List.length_take]; omega
  unfold atK; omega
def AskRel (l : List Rf) (I : Nat → World → Prop) (g : Nat) (s11 s27 : Value) (wr : World) : Prop :=
  ∃ k, g = l.length - k ∧ k ≤ l.length ∧ s11 = .int .i64 (atK l k) ∧ s27 = .int .i64 k ∧ Hid (I k wr)
theorem askedB_c (v : Value) (l : List Rf) (w : World) (h : RefsAt w v l) (hr : rightR l = true) (frm n lo hi : Int) (h1 : -9223372036854775808 ≤ frm ∧ frm < 9223372036854775808) (h2 : -9223372036854775808 ≤ n ∧ n < 9223372036854775808)
    (hlo : (endsL (sumR l) frm n).1 = lo) (hhi : (endsL (sumR l) frm n).2 = hi) (ca cb : Value) (I : Nat → World → Prop) (J : Int → World → Prop) (h0 : I 0 w) (hst : ∀ k w w', I k w → Below w.heap.size w w' → I k w') (hrf : ∀ k w, I k w → RefsAt w v l)
    (hno : ∀ k (hk : k < l.length) w, I k w → ¬ pA lo (atK l k) < pB hi (atK l k) l[k].2 → I (k + 1) w)
    (hyes : ∀ k (hk : k < l.length) w, I k w → pA lo (atK l k) < pB hi (atK l k) l[k].2 → Calls Tryz.prog 81 #[.agg #[.string l[k].1, .int .i64 l[k].2], .int .i64 (pA lo (atK l k)), .int .i64 (pB hi (atK l k) l[k].2), ca, cb] w fun e w' => (e = .returned (.int .i64 0) ∧ I (k + 1) w') ∨ ∃ er, er ≠ 0 ∧ e = .returned (.int .i64 er) ∧ J er w') :
    Calls Tryz.prog 80 #[v, .int .i64 frm, .int .i64 n, .func (.func 81) #[] #[ca, cb]] w fun e w' => (e = .returned (.int .i64 0) ∧ I l.length w') ∨ ∃ er, er ≠ 0 ∧ e = .returned (.int .i64 er) ∧ J er w' := by
  have SZ := SizeR_c v l w h
  rw [show sizeR l = sumR l by unfold sizeR; rw [hr]; rfl] at SZ
  have hsb := atK_bound hr l.length
  unfold atK at hsb
  rw [List.take_length] at hsb
  have EN := fun w => ends_c (sumR l) frm n w (by omega) h1 h2
  have hok := endsL_ok (sumR l) frm n (by omega)
  rw [hlo, hhi] at EN hok
  have HOK := Lib.hid (show 0 ≤ lo ∧ lo ≤ 512000 ∧ 0 ≤ hi ∧ hi ≤ 512000 by omega)
  have HR := Lib.hid hr
  have HLN := Lib.hid h.len
  have HST := Lib.hid hst
  have HRF := Lib.hid hrf
  have HNO := Lib.hid hno
  have HYES := Lib.hid hyes
  have HI0 := Lib.hid h0
  obtain ⟨a, cap, rfl⟩ := h.form
  clear h hr hst hrf hno hyes h0 hlo hhi hsb hok h1 h2
  generalize sumR l = sz at *
  go_enter Tryz.func80, Tryz.ntmps80
  go_wp2_with fail
  refine SZ.mono ?_
  rintro e w1 ⟨rfl, HB1⟩
  have HI1 := Lib.hid (HST.out _ _ _ HI0.out HB1)
  clear SZ HB1 HI0
  go_wp2_with fail
  refine (EN _).mono ?_
  rintro e w2 ⟨rfl, HB2⟩
  have HI2 := Lib.hid (HST.out _ _ _ HI1.out HB2)
  clear EN HB2 HI1
  go_wp2_with fail
  go_loopg [11, 27] l.length (fun g s11 s27 wr => AskRel l I g s11 s27 wr)
  case atStart => exact ⟨0, by omega, Nat.zero_le _, rfl, rfl, HI2⟩
  case round =>
    obtain ⟨k, rfl, hk, rfl, rfl, HI⟩ := hrel
    clear HI2
    by_cases hlt : k < l.length
    · obtain ⟨b, off, rfl, c1, c2, hbl⟩ := (HRF.out _ _ HI.out).get k hlt
      have hat := atK_bound HR.out k
      have hat1 := atK_bound HR.out (k + 1)
      have hsu := atK_succ hlt
      rw [hsu] at hat1
      have YES := Lib.hid (HYES.out k hlt)
      have NO := Lib.hid (HNO.out k hlt)
      have HWR := Lib.hid (wrap_up hlt HLN.out)
      have HSU := Lib.hid hsu
      generalize l[k] = p at *
      obtain ⟨i, q⟩ := p
      simp only at c1 c2 YES NO HSU hat1
      generalize atK l k = at_ at *
      have hoo := HOK.out
      have e1 : wrap64 (lo - at_) = lo - at_ := by unfold wrap64; omega
      have e2 : wrap64 (hi - at_) = hi - at_ := by unfold wrap64; omega
      have e3 : wrap64 (at_ + q) = at_ + q := by unfold wrap64; omega
      clear hat hat1 hsu hoo
      have HB3 : Hid (∀ o, Below wr.heap.size wr (wr.alloc o).drew) := Lib.hid fun o => ((Below.refl _ _).alloc (Nat.le_refl _) o).drew
      have HI3 := Lib.hid fun o => HST.out _ _ _ HI.out (HB3.out o)
      clear HI HB3
      have HSV : Hid (∀ w', I (k + 1) w' → AskRel l I (l.length - (k + 1)) (.int .i64 (wrap64 (at_ + q))) (.int .i64 (wrap64 ((k : Int) + 1))) w') := Lib.hid fun w' h => ⟨k + 1, rfl, by omega, congrArg (Value.int .i64) (e3.trans HSU.out.symm), congrArg (Value.int .i64) HWR.out, Lib.hid h⟩
      have HSW : Hid (∀ w', I (k + 1) w' → AskRel l I (l.length - (k + 1)) (.int .i64 (at_ + q)) (.int .i64 (wrap64 ((k : Int) + 1))) w') := Lib.hid fun w' h => ⟨k + 1, rfl, by omega, congrArg (Value.int .i64) HSU.out.symm, congrArg (Value.int .i64) HWR.out, Lib.hid h⟩
      unfold pA pB at YES NO
      clear HSU HNO HYES
      go_wp2_with fail
      go_region
      generalize max (lo - at_) 0 = A at *
      generalize min (hi - at_) q = B at *
      by_cases hab : A < B
      · have dab : decide (A < B) = true := decide_eq_true hab
        have YE := YES.out (wr.alloc (.cells #[.string i, .int .i64 q] 57)).drew (HI3.out _) hab
        clear YES NO hab HI3
        go_wp2_with fail
        refine YE.mono ?_
        rintro e w4 (⟨rfl, hI⟩ | ⟨er, hne, rfl, hJ⟩)
        · have hI := Lib.hid hI
          go_wp2_with fail
          go_roundg (l.length - (k + 1))
          case measure => omega
          case rel => first | exact HSW.out _ hI.out | exact HSV.out _ hI.out
        · have hne' : (er != 0) = true := by simpa using hne
          have hJ := Lib.hid hJ
          go_wp2_with fail
          go_ret
          exact .inr ⟨er, hne, rfl, hJ.out⟩
      · have dab : decide (A < B) = false := decide_eq_false hab
        have hI := Lib.hid (NO.out (wr.alloc (.cells #[.string i, .int .i64 q] 57)).drew (HI3.out _) (Int.not_lt.1 hab))
        clear YES NO hab HI3
        go_wp2_with fail
        go_roundg (l.length - (k + 1))
        case measure => omega
        case rel => first | exact HSW.out _ hI.out | exact HSV.out _ hI.out
    · obtain rfl : k = l.length := by omega
      clear hlt hk
      go_wp2_with fail
      go_ret
      exact .inl ⟨rfl, HI.out⟩
section
variable (w1 w w0 : World) (K : Nat → Prop) (sb rb ti tl n N a nx : Nat) (C : List Ck) (L : List Lg) (X : List (Nat × ByteArray))
end
open Go.RowKit Go.MapKept
section
variable {κ α : Type} [DecidableEq κ] {K : KEnc κ} {V : α → Value} {w : World} {r it : Nat} {m left : List (κ × α)}
end
end Go.Proofs.YtdcjhpafipbpkaaGreatDoor
