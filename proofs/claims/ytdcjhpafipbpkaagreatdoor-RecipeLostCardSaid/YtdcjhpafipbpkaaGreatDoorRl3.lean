/- Parts of the proof of RecipeLost, joined: SumQ, RprA, RprB, RprC, RdA. No condition. -/
import Derived.Test.YtdcjhpafipbpkaaGreatDoorRl2
import Derived.Lib.Strings
import Derived.Deep.RegionHeld3
import Derived.Deep.AppendSrc
set_option linter.unusedSimpArgs false
set_option linter.unusedVariables false
set_option linter.unusedSectionVars false
namespace Go.Proofs.YtdcjhpafipbpkaaGreatDoor
set_option maxRecDepth 100000
set_option maxHeartbeats 1000000
open Go.RowKit
theorem ch_eq (e f g : Nat) (he : e < 4294967296) (hf : f < 4294967296) (hg : g < 4294967296) : g ^^^ (e &&& (f ^^^ g)) = (e &&& f) + ((4294967295 - e) &&& g) := by
  have hz : (BitVec.ofNat 32 e &&& BitVec.ofNat 32 f) &&& (~~~(BitVec.ofNat 32 e) &&& BitVec.ofNat 32 g) = 0#32 := by
    ext i hi
    simp
    intro h1 _ h2; rw [h1] at h2; cases h2
  have h1 := congrArg BitVec.toNat (BitVec.add_eq_or_of_and_eq_zero _ _ hz)
  have hx : BitVec.ofNat 32 g ^^^ (BitVec.ofNat 32 e &&& (BitVec.ofNat 32 f ^^^ BitVec.ofNat 32 g)) = (BitVec.ofNat 32 e &&& BitVec.ofNat 32 f) ||| (~~~(BitVec.ofNat 32 e) &&& BitVec.ofNat 32 g) := by
    ext i hi
    simp
    cases (BitVec.ofNat 32 e)[i] <;> cases (BitVec.ofNat 32 f)[i] <;> cases (BitVec.ofNat 32 g)[i] <;> rfl
  have h2 := congrArg BitVec.toNat hx
  simp only [BitVec.toNat_add, BitVec.toNat_and, BitVec.toNat_or, BitVec.toNat_xor, BitVec.toNat_not, BitVec.toNat_ofNat] at h1 h2
  rw [Nat.mod_eq_of_lt he, Nat.mod_eq_of_lt hf, Nat.mod_eq_of_lt hg] at h1 h2
  have hs : (e &&& f) + ((2 ^ 32 - 1 - e) &&& g) < 2 ^ 32 := by
    have a1 : e &&& f ≤ e := Nat.and_le_left
    have a2 : (2 ^ 32 - 1 - e) &&& g ≤ 2 ^ 32 - 1 - e := Nat.and_le_left
    have a3 : (2 : Nat) ^ 32 = 4294967296 := by decide
    omega
  rw [Nat.mod_eq_of_lt hs] at h1
  rw [h2, ← h1]
theorem maj_eq (a b c : Nat) : (a &&& b) ||| (c &&& (a ||| b)) = ((a &&& b) ||| (a &&& c)) ||| (b &&& c) := by
  apply Nat.eq_of_testBit_eq
  intro i
  simp only [Nat.testBit_or, Nat.testBit_and]
  cases a.testBit i <;> cases b.testBit i <;> cases c.testBit i <;> rfl
def refOne (v : V8) (k w : Nat) : Nat := v.h + great v.e 6 11 25 + ((v.e &&& v.f) + ((4294967295 - v.e) &&& v.g)) + k + w
def refTwo (v : V8) : Nat := great v.a 2 13 22 + (((v.a &&& v.b) ||| (v.a &&& v.c)) ||| (v.b &&& v.c))
def refStep (v : V8) (k w : Nat) : V8 := ⟨(refOne v k w + refTwo v) % 4294967296, v.a, v.b, v.c, (v.d + refOne v k w) % 4294967296, v.e, v.f, v.g⟩
theorem step_eq {v : V8} (h : v.Ok) (k w : Nat) : v.next k w = refStep v k w := by
  have hu : v.up k w = refOne v k w % 4294967296 := by
    unfold V8.up refOne add32
    rw [ch_eq _ _ _ h.e h.f h.g]
    omega
  have ho : v.over = refTwo v % 4294967296 := by
    unfold V8.over refTwo add32
    rw [maj_eq]
  unfold V8.next refStep
  rw [hu, ho]
  unfold add32
  congr 1 <;> omega
def nxW (w : List Nat) (t : Nat) : Nat := (w.getD (t - 16) 0 + small (w.getD (t - 15) 0) 7 18 3 + w.getD (t - 7) 0 + small (w.getD (t - 2) 0) 17 19 10) % 4294967296
def extW (b : List Nat) : Nat → List Nat
  | 0 => b
  | j + 1 => extW b j ++ [nxW (extW b j) (16 + j)]
theorem extW_len (b : List Nat) : ∀ j, (extW b j).length = b.length + j
  | 0 => rfl
  | j + 1 => by simp only [extW, List.length_append, List.length_singleton, extW_len b j]; omega
theorem getD_app {l m : List Nat} {i : Nat} (h : i < l.length) : (l ++ m).getD i 0 = l.getD i 0 := by
  unfold List.getD; rw [List.getElem?_append_left h]
theorem getD_last (l : List Nat) (x : Nat) : (l ++ [x]).getD l.length 0 = x := by
  unfold List.getD; simp
theorem extW_get (b : List Nat) (j : Nat) : ∀ d i, i < b.length + j → (extW b (j + d)).getD i 0 = (extW b j).getD i 0
  | 0, _, _ => rfl
  | d + 1, i, hi => by
    rw [← Nat.add_assoc]
    show (extW b (j + d) ++ _).getD i 0 = _
    rw [getD_app (by rw [extW_len]; omega)]
    exact extW_get b j d i hi
def extA (b : List Nat) (i : Nat) : Nat := (extW b 48).getD i 0
theorem extA_lo {b : List Nat} (hb : b.length = 16) {i : Nat} (hi : i < 16) : extA b i = b.getD i 0 := extW_get b 0 48 i (by omega)
theorem extA_hi {b : List Nat} (hb : b.length = 16) {t : Nat} (h1 : 16 ≤ t) (h2 : t < 64) : extA b t = (extA b (t - 16) + small (extA b (t - 15)) 7 18 3 + extA b (t - 7) + small (extA b (t - 2)) 17 19 10) % 4294967296 := by
  have e : ∀ i, i < t → extA b i = (extW b (t - 16)).getD i 0 := fun i hi => by
    unfold extA
    have := extW_get b (t - 16) (48 - (t - 16)) i (by omega)
    rwa [show t - 16 + (48 - (t - 16)) = 48 by omega] at this
  have e2 : extA b t = (extW b (t - 16 + 1)).getD t 0 := by
    unfold extA
    have := extW_get b (t - 16 + 1) (48 - (t - 16 + 1)) t (by omega)
    rwa [show t - 16 + 1 + (48 - (t - 16 + 1)) = 48 by omega] at this
  rw [e2]
  show (extW b (t - 16) ++ [nxW (extW b (t - 16)) (16 + (t - 16))]).getD t 0 = _
  have hl : t = (extW b (t - 16)).length := by rw [extW_len, hb]; omega
  rw [show ((extW b (t - 16) ++ [nxW (extW b (t - 16)) (16 + (t - 16))]).getD t 0) = nxW (extW b (t - 16)) (16 + (t - 16)) by
    conv => lhs; arg 2; rw [hl]
    exact getD_last _ _]
  unfold nxW
  rw [show 16 + (t - 16) = t by omega, ← e (t - 16) (by omega), ← e (t - 15) (by omega), ← e (t - 7) (by omega), ← e (t - 2) (by omega)]
def refR (v : V8) (b : List Nat) : Nat → V8
  | 0 => v
  | t + 1 => refStep (refR v b t) (kN t) (extA b t)
theorem getD_set_eq {l : List Nat} {i x : Nat} (h : i < l.length) : (l.set i x).getD i 0 = x := by
  unfold List.getD; rw [List.getElem?_set_self h]; rfl
theorem getD_set_ne {l : List Nat} {i j x : Nat} (h : i ≠ j) : (l.set i x).getD j 0 = l.getD j 0 := by
  unfold List.getD; rw [List.getElem?_set_ne h]
theorem rnd_eq {v : V8} {b : List Nat} (hv : v.Ok) (hb : b.length = 16) (h32 : All32 b) : ∀ t, t ≤ 64 → (rndN v b t).1 = refR v b t ∧ ∀ i, t ≤ i + 16 → i < max t 16 → (rndN v b t).2.getD (i % 16) 0 = extA b i
  | 0, _ => ⟨rfl, fun i _ hi => by
      have : i < 16 := by omega
      rw [Nat.mod_eq_of_lt this]
      exact (extA_lo hb this).symm⟩
  | t + 1, ht => by
    obtain ⟨h1, h2⟩ := rnd_eq hv hb h32 t (by omega)
    obtain ⟨o1, o2, o3⟩ := rndN_ok hv h32 t
    have hw : wAt (rndN v b t).2 t = extA b t := by
      unfold wAt
      by_cases h16 : t < 16
      · rw [if_pos h16]; exact h2 t (by omega) (by omega)
      · rw [if_neg h16, extA_hi hb (by omega) (by omega)]
        have x0 := h2 (t - 16) (by omega) (by omega)
        have x1 := h2 (t - 15) (by omega) (by omega)
        have x2 := h2 (t - 7) (by omega) (by omega)
        have x3 := h2 (t - 2) (by omega) (by omega)
        rw [show (t - 16) % 16 = t % 16 by omega] at x0
        rw [show (t - 15) % 16 = (t + 1) % 16 by omega] at x1
        rw [show (t - 7) % 16 = (t + 9) % 16 by omega] at x2
        rw [show (t - 2) % 16 = (t + 14) % 16 by omega] at x3
        unfold laterN laterX add32
        rw [x0, x1, x2, x3]
        omega
    refine ⟨?_, fun i hi1 hi2 => ?_⟩
    · show (rndN v b t).1.next (kN t) (wAt (rndN v b t).2 t) = refStep (refR v b t) (kN t) (extA b t)
      rw [hw, step_eq o1, h1]
    · show (wNext (rndN v b t).2 t).getD (i % 16) 0 = _
      unfold wNext
      by_cases h16 : t < 16
      · rw [if_pos h16]; exact h2 i (by omega) (by omega)
      · rw [if_neg h16]
        by_cases hit : i = t
        · subst hit
          rw [getD_set_eq (by rw [o3, hb]; exact Nat.mod_lt _ (by decide))]
          unfold wAt at hw
          rwa [if_neg h16] at hw
        · rw [getD_set_ne (by omega)]
          exact h2 i (by omega) (by omega)
def refBlk (h b : List Nat) : List Nat := addTo h (refR (V8.of h) b 64).list 8
theorem stir_eq {h b : List Nat} {n : Nat} (hh : All32 h) (hb : b.length = 16) (h32 : All32 b) : (Pn.stir ⟨h, b, n⟩).h = refBlk h b := by
  unfold Pn.stir Pn.stirM refBlk
  rw [(rnd_eq (V8.of_ok hh) hb h32 64 (by decide)).1]
def w4 (c0 c1 c2 c3 : Nat) : Nat := c0 * 16777216 + c1 * 65536 + c2 * 256 + c3
def wordsL : List Nat → List Nat
  | c0 :: c1 :: c2 :: c3 :: l => w4 c0 c1 c2 c3 :: wordsL l
  | _ => []
def Pn.word (p : Pn) (x : Nat) : Pn := if p.n + 4 = 64 then (Pn.stir ⟨p.h, p.W.set (p.n / 4) x, p.n + 4⟩).zero else ⟨p.h, p.W.set (p.n / 4) x, p.n + 4⟩
theorem zero_h (q : Pn) : q.zero.h = q.h := rfl
theorem set_set' (l : List Nat) (i x y : Nat) : (l.set i x).set i y = l.set i y := by simp
theorem more8_four (x c0 c1 c2 c3 : Nat) (h0 : c0 < 256) (h1 : c1 < 256) (h2 : c2 < 256) (h3 : c3 < 256) : more8 (more8 (more8 (more8 x c0) c1) c2) c3 = w4 c0 c1 c2 c3 := by
  unfold more8 w4; omega
theorem put_four {p : Pn} (h : p.Ok) (hn : p.n % 4 = 0) (c0 c1 c2 c3 : Nat) (h0 : c0 < 256) (h1 : c1 < 256) (h2 : c2 < 256) (h3 : c3 < 256) : (((p.put c0).put c1).put c2).put c3 = p.word (w4 c0 c1 c2 c3) := by
  have hlt := h.n
  have hl := h.W
  obtain ⟨hh, W, n⟩ := p
  simp only at hn hlt hl
  obtain ⟨i, rfl⟩ : ∃ i, n = 4 * i := ⟨n / 4, by omega⟩
  have e0 : (Pn.mk hh W (4 * i)).put c0 = ⟨hh, W.set i (more8 (W.getD i 0) c0), 4 * i + 1⟩ := by
    unfold Pn.put
    rw [if_neg (by show ¬ 4 * i + 1 = 64; omega)]
    simp only [Pn.fed, show 4 * i / 4 = i by omega]
  have e1 : ∀ x, (Pn.mk hh (W.set i x) (4 * i + 1)).put c1 = ⟨hh, W.set i (more8 x c1), 4 * i + 2⟩ := fun x => by
    unfold Pn.put
    rw [if_neg (by show ¬ 4 * i + 1 + 1 = 64; omega)]
    simp only [Pn.fed, show (4 * i + 1) / 4 = i by omega, set_set', getD_set_eq (show i < W.length by omega)]
  have e2 : ∀ x, (Pn.mk hh (W.set i x) (4 * i + 2)).put c2 = ⟨hh, W.set i (more8 x c2), 4 * i + 3⟩ := fun x => by
    unfold Pn.put
    rw [if_neg (by show ¬ 4 * i + 2 + 1 = 64; omega)]
    simp only [Pn.fed, show (4 * i + 2) / 4 = i by omega, set_set', getD_set_eq (show i < W.length by omega)]
  rw [e0, e1, e2]
  unfold Pn.put Pn.word
  simp only [Pn.fed, show (4 * i + 3) / 4 = i by omega, show 4 * i / 4 = i by omega, set_set', getD_set_eq (show i < W.length by omega), more8_four _ _ _ _ _ h0 h1 h2 h3]
theorem word_ok {p : Pn} (h : p.Ok) {x : Nat} (hx : x < 4294967296) (hn : p.n % 4 = 0) : (p.word x).Ok ∧ (p.word x).n % 4 = 0 ∧ (p.word x).n = (p.n + 4) % 64 := by
  have hW : All32 (p.W.set (p.n / 4) x) := h.W32.set _ hx
  have hlt := h.n
  unfold Pn.word
  split
  · next hq => exact ⟨Pn.stir_ok (p := ⟨p.h, p.W.set (p.n / 4) x, p.n + 4⟩) h.h (by rw [List.length_set]; exact h.W) h.h32 hW, rfl, by show 0 = _; omega⟩
  · next hq =>
    exact ⟨⟨h.h, by rw [List.length_set]; exact h.W, h.h32, hW, by show p.n + 4 < 64; omega⟩, by show (p.n + 4) % 4 = 0; omega, by show p.n + 4 = _; omega⟩
theorem w4_lt {c0 c1 c2 c3 : Nat} (h0 : c0 < 256) (h1 : c1 < 256) (h2 : c2 < 256) (h3 : c3 < 256) : w4 c0 c1 c2 c3 < 4294967296 := by unfold w4; omega
theorem puts_words : ∀ (m : Nat) (l : List Nat) (p : Pn), l.length = 4 * m → p.Ok → p.n % 4 = 0 → (∀ c ∈ l, c < 256) → p.puts l = (wordsL l).foldl Pn.word p
  | 0, l, p, hl, _, _, _ => by
    have : l = [] := List.length_eq_zero_iff.1 (by omega)
    subst this; rfl
  | m + 1, c0 :: c1 :: c2 :: c3 :: l, p, hl, hp, hn, hc => by
    have h0 := hc c0 (by simp)
    have h1 := hc c1 (by simp)
    have h2 := hc c2 (by simp)
    have h3 := hc c3 (by simp)
    obtain ⟨k1, k2, -⟩ := word_ok hp (w4_lt h0 h1 h2 h3) hn
    show ((((p.put c0).put c1).put c2).put c3).puts l = _
    rw [put_four hp hn _ _ _ _ h0 h1 h2 h3]
    simp only [List.length_cons] at hl
    exact puts_words m l (p.word (w4 c0 c1 c2 c3)) (by omega) k1 k2 fun c hc' => hc c (by simp [hc'])
  | m + 1, [], _, hl, _, _, _ => by simp at hl
  | m + 1, [_], _, hl, _, _, _ => by simp at hl; omega
  | m + 1, [_, _], _, hl, _, _, _ => by simp at hl; omega
  | m + 1, [_, _, _], _, hl, _, _, _ => by simp at hl; omega
theorem wordsL_lt : ∀ (m : Nat) (l : List Nat), l.length = 4 * m → (∀ c ∈ l, c < 256) → (wordsL l).length = m ∧ All32 (wordsL l)
  | 0, l, hl, _ => by
    have : l = [] := List.length_eq_zero_iff.1 (by omega)
    subst this; exact ⟨rfl, fun x hx => by cases hx⟩
  | m + 1, c0 :: c1 :: c2 :: c3 :: l, hl, hc => by
    simp only [List.length_cons] at hl
    obtain ⟨h1, h2⟩ := wordsL_lt m l (by omega) fun c hc' => hc c (by simp [hc'])
    refine ⟨by simp [wordsL, h1], fun x hx => ?_⟩
    simp only [wordsL, List.mem_cons] at hx
    rcases hx with rfl | hx
    · exact w4_lt (hc c0 (by simp)) (hc c1 (by simp)) (hc c2 (by simp)) (hc c3 (by simp))
    · exact h2 x hx
  | m + 1, [], hl, _ => by simp at hl
  | m + 1, [_], hl, _ => by simp at hl; omega
  | m + 1, [_, _], hl, _ => by simp at hl; omega
  | m + 1, [_, _, _], hl, _ => by simp at hl; omega
theorem words_part : ∀ (b : List Nat) (p : Pn), p.Ok → All32 b → b ≠ [] → p.n + 4 * b.length = 64 → (b.foldl Pn.word p).Ok ∧ (b.foldl Pn.word p).n = 0 ∧ (b.foldl Pn.word p).h = (Pn.stir ⟨p.h, p.W.take (p.n / 4) ++ b, 64⟩).h
  | [], _, _, _, h, _ => absurd rfl h
  | [x], p, hp, hb, _, hn => by
    simp only [List.length_singleton] at hn
    obtain ⟨k1, -, k3⟩ := word_ok hp (hb x (by simp)) (by omega)
    refine ⟨k1, by rw [List.foldl_cons, List.foldl_nil, k3]; omega, ?_⟩
    show (p.word x).h = _
    unfold Pn.word
    rw [if_pos (by omega)]
    have : p.W.set (p.n / 4) x = p.W.take (p.n / 4) ++ [x] := by
      have hl := hp.W
      have hi : p.n / 4 = 15 := by omega
      rw [hi]
      apply List.ext_getElem?
      intro j
      by_cases hj : j = 15
      · subst hj
        rw [List.getElem?_set_self (by omega), List.getElem?_append_right (by simp; omega)]
        simp [hl]
      · rw [List.getElem?_set_ne (by omega)]
        by_cases hj2 : j < 15
        · rw [List.getElem?_append_left (by simp; omega), List.getElem?_take_of_lt hj2]
        · rw [List.getElem?_eq_none (by omega), List.getElem?_eq_none (by simp; omega)]
    rw [this, zero_h, show p.n + 4 = 64 by omega]
  | x :: y :: b, p, hp, hb, _, hn => by
    simp only [List.length_cons] at hn
    obtain ⟨k1, k2, k3⟩ := word_ok hp (hb x (by simp)) (by omega)
    have hlt := hp.n
    have e : p.word x = ⟨p.h, p.W.set (p.n / 4) x, p.n + 4⟩ := by unfold Pn.word; rw [if_neg (by omega)]
    obtain ⟨r1, r2, r3⟩ := words_part (y :: b) (p.word x) k1 (fun z hz => hb z (by simp at hz ⊢; right; exact hz)) (by simp) (by rw [e]; simp only [List.length_cons]; omega)
    refine ⟨r1, r2, ?_⟩
    rw [List.foldl_cons, r3, e]
    have : (p.W.set (p.n / 4) x).take ((p.n + 4) / 4) ++ y :: b = p.W.take (p.n / 4) ++ x :: y :: b := by
      have hl := hp.W
      rw [show (p.n + 4) / 4 = p.n / 4 + 1 by omega]
      have h1 : p.n / 4 < p.W.length := by omega
      rw [List.take_set]
      apply List.ext_getElem?
      intro j
      by_cases hj : j < p.n / 4
      · rw [List.getElem?_append_left (by simp; omega), List.getElem?_append_left (by simp; omega), List.getElem?_set_ne (by omega), List.getElem?_take_of_lt (by omega), List.getElem?_take_of_lt hj]
      · by_cases hj2 : j = p.n / 4
        · subst hj2
          rw [List.getElem?_append_left (by simp; omega), List.getElem?_set_self (by simp; omega), List.getElem?_append_right (by simp; omega)]
          simp [Nat.min_eq_left (Nat.le_of_lt h1)]
        · rw [List.getElem?_append_right (by simp; omega), List.getElem?_append_right (by simp; omega)]
          simp only [List.length_set, List.length_take]
          rw [show j - min (p.n / 4) p.W.length = (j - min (p.n / 4 + 1) p.W.length) + 1 by omega, List.getElem?_cons_succ]
    show (Pn.stir ⟨p.h, (p.W.set (p.n / 4) x).take ((p.n + 4) / 4) ++ y :: b, 64⟩).h = _
    rw [this]
def refAll (h : List Nat) (ws : List Nat) : Nat → List Nat
  | 0 => h
  | m + 1 => refBlk (refAll h ws m) ((ws.drop (16 * m)).take 16)
theorem refBlk_ok {h b : List Nat} (hh : All32 h) (hl : h.length = 8) : All32 (refBlk h b) ∧ (refBlk h b).length = 8 := ⟨addTo_32 hh _ _, (addTo_len _ _ _).trans hl⟩
theorem refAll_ok {h ws : List Nat} (hh : All32 h) (hl : h.length = 8) : ∀ m, All32 (refAll h ws m) ∧ (refAll h ws m).length = 8
  | 0 => ⟨hh, hl⟩
  | m + 1 => refBlk_ok (refAll_ok hh hl m).1 (refAll_ok hh hl m).2
theorem all_blocks {ws : List Nat} (hw : All32 ws) {p : Pn} (hp : p.Ok) (hn : p.n = 0) : ∀ m, 16 * m ≤ ws.length → ((ws.take (16 * m)).foldl Pn.word p).Ok ∧ ((ws.take (16 * m)).foldl Pn.word p).n = 0 ∧ ((ws.take (16 * m)).foldl Pn.word p).h = refAll p.h ws m
  | 0, _ => ⟨hp, hn, rfl⟩
  | m + 1, hm => by
    obtain ⟨h1, h2, h3⟩ := all_blocks hw hp hn m (by omega)
    have e : ws.take (16 * (m + 1)) = ws.take (16 * m) ++ (ws.drop (16 * m)).take 16 := by
      rw [show 16 * (m + 1) = 16 * m + 16 by omega, List.take_add]
    have hbl : ((ws.drop (16 * m)).take 16).length = 16 := by rw [List.length_take, List.length_drop]; omega
    have hb32 : All32 ((ws.drop (16 * m)).take 16) := fun x hx => hw x (List.mem_of_mem_drop (List.mem_of_mem_take hx))
    rw [e, List.foldl_append]
    generalize (ws.take (16 * m)).foldl Pn.word p = q at *
    obtain ⟨r1, r2, r3⟩ := words_part _ q h1 hb32 (by intro h0; rw [h0] at hbl; cases hbl) (by rw [hbl, h2])
    refine ⟨r1, r2, ?_⟩
    rw [r3, h2]
    simp only [Nat.zero_div, List.take_zero, List.nil_append]
    rw [stir_eq h1.h32 hbl hb32, h3]
    rfl
theorem puts_n : ∀ (l : List Nat) (p : Pn), p.n < 64 → (p.puts l).n = (p.n + l.length) % 64
  | [], p, h => by show p.n = _; rw [List.length_nil, Nat.add_zero, Nat.mod_eq_of_lt h]
  | c :: l, p, h => by
    have e := Pn.put_n p c
    show ((p.put c).puts l).n = _
    rw [puts_n l (p.put c) (by rw [e]; split <;> omega), e, List.length_cons]
    split <;> omega
theorem puts_app (p : Pn) (l m : List Nat) : p.puts (l ++ m) = (p.puts l).puts m := by simp [Pn.puts]
theorem puts_one (p : Pn) (c : Nat) : p.puts [c] = p.put c := rfl
def padL (s : ByteArray) : List Nat := byteL s ++ 128 :: List.replicate (zerosN ((s.size + 1) % 64)) 0
def fullL (s : ByteArray) : List Nat := padL s ++ sizeL s.size
theorem byteL_len (s : ByteArray) : (byteL s).length = s.size := by unfold byteL; rw [List.length_map, Lib.size_eq]
theorem padL_len (s : ByteArray) : (padL s).length % 64 = 56 := by
  unfold padL zerosN
  simp only [List.length_append, List.length_cons, List.length_replicate, byteL_len]
  omega
theorem fullL_len (s : ByteArray) : (fullL s).length % 64 = 0 := by
  have := padL_len s
  unfold fullL
  rw [List.length_append, show (sizeL s.size).length = 8 by simp [sizeL]]
  omega
theorem fullL_lt (s : ByteArray) : ∀ c ∈ fullL s, c < 256 := by
  intro c hc
  unfold fullL padL at hc
  rcases List.mem_append.1 hc with hc | hc
  · rcases List.mem_append.1 hc with hc | hc
    · exact byteL_lt s c hc
    · rcases List.mem_cons.1 hc with rfl | hc
      · decide
      · rw [List.eq_of_mem_replicate hc]; decide
  · exact sizeL_lt _ c hc
theorem pnA_n (s : ByteArray) : (pnA s).n = (s.size + 1) % 64 := by
  unfold pnA
  rw [← puts_one, ← puts_app, puts_n _ _ (by decide), List.length_append, byteL_len]
  show (0 + (s.size + 1)) % 64 = _
  rw [Nat.zero_add]
theorem pnC_full (s : ByteArray) : pnC s = pn0.puts (fullL s) := by
  unfold pnC pnB fullL padL
  rw [pnA_n]
  unfold pnA
  rw [← puts_one, ← puts_app, ← puts_app, ← puts_app]
  simp
theorem wordsL_app : ∀ (m : Nat) (l r : List Nat), l.length = 4 * m → wordsL (l ++ r) = wordsL l ++ wordsL r
  | 0, l, r, hl => by
    have : l = [] := List.length_eq_zero_iff.1 (by omega)
    subst this; rfl
  | m + 1, c0 :: c1 :: c2 :: c3 :: l, r, hl => by
    simp only [List.length_cons] at hl
    show w4 c0 c1 c2 c3 :: wordsL (l ++ r) = _
    rw [wordsL_app m l r (by omega)]; rfl
  | m + 1, [], _, hl => by simp at hl
  | m + 1, [_], _, hl => by simp at hl; omega
  | m + 1, [_, _], _, hl => by simp at hl; omega
  | m + 1, [_, _, _], _, hl => by simp at hl; omega
theorem sizeL_words (n : Nat) (h : n * 8 < 18446744073709551616) : wordsL (sizeL n) = [n * 8 / 4294967296, n * 8 % 4294967296] := by
  show wordsL [n * 8 / 2 ^ 56 % 256, n * 8 / 2 ^ 48 % 256, n * 8 / 2 ^ 40 % 256, n * 8 / 2 ^ 32 % 256, n * 8 / 2 ^ 24 % 256, n * 8 / 2 ^ 16 % 256, n * 8 / 2 ^ 8 % 256, n * 8 / 2 ^ 0 % 256] = _
  simp only [wordsL, w4, List.cons.injEq, and_true]
  omega
def refWords (s : ByteArray) : List Nat := wordsL (padL s) ++ [s.size * 8 / 4294967296, s.size * 8 % 4294967296]
theorem full_words (s : ByteArray) (h : s.size * 8 < 18446744073709551616) : wordsL (fullL s) = refWords s := by
  have := padL_len s
  unfold fullL refWords
  rw [wordsL_app ((padL s).length / 4) _ _ (by omega), sizeL_words _ h]
theorem pr_ref (s : ByteArray) (h : s.size * 8 < 18446744073709551616) : prB s = ⟨(outL (refAll pn0.h (refWords s) ((refWords s).length / 16))).toArray⟩ := by
  have h0 := fullL_len s
  obtain ⟨q1, q2⟩ := wordsL_lt ((fullL s).length / 4) (fullL s) (by omega) (fullL_lt s)
  obtain ⟨-, -, r3⟩ := all_blocks q2 pn0_ok rfl ((wordsL (fullL s)).length / 16) (by omega)
  have e : (wordsL (fullL s)).take (16 * ((wordsL (fullL s)).length / 16)) = wordsL (fullL s) := List.take_of_length_le (by rw [q1]; omega)
  rw [e, ← puts_words ((fullL s).length / 4) (fullL s) pn0 (by omega) pn0_ok rfl (fullL_lt s), ← pnC_full, full_words s h] at r3
  unfold prB
  rw [r3]
theorem low_c (x : Nat) (w : World) : Calls Tryz.prog 231 #[.int .u64 (x : Int)] w fun e w' => e = .returned (.int .u64 ((x % 4294967296 : Nat) : Int)) ∧ w = w' := by
  go_enter Tryz.func231, Tryz.ntmps231
  go_wp2_with fail
  go_ret
  exact ⟨by simp, rfl⟩
theorem rotr_lt2 (x n : Nat) (hx : x < 4294967296) : rotr x n < 8589934592 := by
  unfold rotr
  have h1 : x * 2 ^ (32 - n) % 4294967296 < 4294967296 := Nat.mod_lt _ (by decide)
  have h2 : x / 2 ^ n ≤ x := Nat.div_le_self _ _
  omega
theorem right_c (x n : Nat) (w : World) (hx : x < 4294967296) (hn : n ≤ 31) : Calls Tryz.prog 264 #[.int .u64 (x : Int), .int .u64 (n : Int)] w fun e w' => e = .returned (.int .u64 ((rotr x n : Nat) : Int)) ∧ w = w' := by
  have hp : x * 2 ^ (32 - n) < 18446744073709551616 := by
    have h1 : (2 : Nat) ^ (32 - n) ≤ 2 ^ 32 := Nat.pow_le_pow_right (by decide) (by omega)
    have h2 : x * 2 ^ (32 - n) ≤ x * 4294967296 := Nat.mul_le_mul_left _ h1
    omega
  have e1 : IntKind.u64.wrap ((x : Int) * 2 ^ (32 - n)) = ((x * 2 ^ (32 - n) : Nat) : Int) := by
    have := wrap_u64 (v := x * 2 ^ (32 - n)) hp
    rw [← this]; push_cast; rfl
  have LW := low_c (x * 2 ^ (32 - n)) w
  have e0 : ((x * 2 ^ (32 - n) : Nat) : Int) = (x : Int) * 2 ^ (32 - n) := by push_cast; rfl
  rw [e0] at LW e1
  have hr := rotr_lt2 x n hx
  have e3 : ((x : Int) * 2 ^ (32 - n)) % 4294967296 + (x : Int) / 2 ^ n = ((rotr x n : Nat) : Int) := by
    rw [← e0]
    unfold rotr
    rw [Int.natCast_add, Int.natCast_emod, Int.natCast_ediv, Int.natCast_pow]
    rfl
  have e2 : IntKind.u64.wrap (((x : Int) * 2 ^ (32 - n)) % 4294967296 + (x : Int) / 2 ^ n) = ((rotr x n : Nat) : Int) := by
    rw [e3]
    exact wrap_u64 (by omega)
  have HE2 := Lib.hid e2
  clear hp hr e2 e3
  go_enter Tryz.func264, Tryz.ntmps264
  go_wp2_with fail
  refine LW.mono ?_
  rintro e w1 ⟨rfl, rfl⟩
  clear LW
  go_wp2_with fail
  go_ret
  exact ⟨congrArg (fun z => Ending.returned (.int .u64 z)) HE2.out, rfl⟩
theorem xor64 (x y : Nat) (hx : x < 4294967296) (hy : y < 4294967296) : bits .xor .u64 (x : Int) (y : Int) = ((x ^^^ y : Nat) : Int) := bits_xor_u64_nat x y (by omega) (by omega)
theorem small_c (x a b c : Nat) (w : World) (hx : x < 4294967296) (ha : 1 ≤ a ∧ a ≤ 31) (hb : 1 ≤ b ∧ b ≤ 31) (hc : c ≤ 31) : Calls Tryz.prog 232 #[.int .u64 (x : Int), .int .u64 (a : Int), .int .u64 (b : Int), .int .u64 (c : Int)] w fun e w' => e = .returned (.int .u64 ((small x a b c : Nat) : Int)) ∧ w = w' := by
  have R1 := right_c x a w hx ha.2
  have R2 := right_c x b w hx hb.2
  have e1 := rot_lt x a ha.1 ha.2 hx
  have e2 := rot_lt x b hb.1 hb.2 hx
  have e3 : x / 2 ^ c < 4294967296 := Nat.lt_of_le_of_lt (Nat.div_le_self _ _) hx
  have v1 := xor64 _ _ e1 e2
  have v2 := xor64 _ _ (xor_lt e1 e2) e3
  have hm : min c 64 = c := by omega
  have e4 : ((x / 2 ^ c : Nat) : Int) = (x : Int) / 2 ^ c := by rw [Int.natCast_ediv, Int.natCast_pow]; rfl
  rw [e4] at v2
  have HE : Hid (small x a b c = (rotr x a ^^^ rotr x b) ^^^ (x / 2 ^ c)) := Lib.hid rfl
  clear hx ha hb hc e1 e2 e3 e4
  generalize rotr x a = ra at *
  generalize rotr x b = rb at *
  generalize ra ^^^ rb = rab at *
  go_enter Tryz.func232, Tryz.ntmps232
  go_wp2_with fail
  refine R1.mono ?_
  rintro e w1 ⟨rfl, rfl⟩
  go_wp2_with fail
  refine R2.mono ?_
  rintro e w1 ⟨rfl, rfl⟩
  go_wp2_with fail
  go_ret
  exact ⟨by rw [HE.out, ← v2]; rfl, rfl⟩
theorem great_c (x a b c : Nat) (w : World) (hx : x < 4294967296) (ha : 1 ≤ a ∧ a ≤ 31) (hb : 1 ≤ b ∧ b ≤ 31) (hc : 1 ≤ c ∧ c ≤ 31) : Calls Tryz.prog 233 #[.int .u64 (x : Int), .int .u64 (a : Int), .int .u64 (b : Int), .int .u64 (c : Int)] w fun e w' => e = .returned (.int .u64 ((great x a b c : Nat) : Int)) ∧ w = w' := by
  have R1 := right_c x a w hx ha.2
  have R2 := right_c x b w hx hb.2
  have R3 := right_c x c w hx hc.2
  have e1 := rot_lt x a ha.1 ha.2 hx
  have e2 := rot_lt x b hb.1 hb.2 hx
  have e3 := rot_lt x c hc.1 hc.2 hx
  have v1 := xor64 _ _ e1 e2
  have v2 := xor64 _ _ (xor_lt e1 e2) e3
  have HE : Hid (great x a b c = (rotr x a ^^^ rotr x b) ^^^ rotr x c) := Lib.hid rfl
  clear hx ha hb hc e1 e2 e3
  generalize rotr x a = ra at *
  generalize rotr x b = rb at *
  generalize rotr x c = rc at *
  generalize ra ^^^ rb = rab at *
  go_enter Tryz.func233, Tryz.ntmps233
  go_wp2_with fail
  refine R1.mono ?_
  rintro e w1 ⟨rfl, rfl⟩
  go_wp2_with fail
  refine R2.mono ?_
  rintro e w1 ⟨rfl, rfl⟩
  go_wp2_with fail
  refine R3.mono ?_
  rintro e w1 ⟨rfl, rfl⟩
  go_wp2_with fail
  go_ret
  exact ⟨by rw [HE.out, ← v2]; rfl, rfl⟩
set_option maxHeartbeats 2000000
def valD (c : Nat) : Int := if 48 ≤ c ∧ c ≤ 57 then (c : Int) - 48 else if 97 ≤ c ∧ c ≤ 102 then (c : Int) - 87 else -1
theorem valD_lt (c : Nat) : -1 ≤ valD c ∧ valD c ≤ 15 := by unfold valD; split <;> (try split) <;> omega
theorem value_c (c : Nat) (w : World) (hc : c < 256) : Calls Tryz.prog 265 #[.int .u8 (c : Int)] w fun e w' => e = .returned (.int .i64 (valD c)) ∧ w = w' := by
  by_cases h1 : 48 ≤ c
  · have d1 : decide ((c : Int) ≥ 48) = true := decide_eq_true (by omega)
    by_cases h2 : c ≤ 57
    · have d2 : decide ((c : Int) ≤ 57) = true := decide_eq_true (by omega)
      have hv : valD c = (c : Int) - 48 := by unfold valD; rw [if_pos ⟨h1, h2⟩]
      have w1 : IntKind.i64.wrap (c : Int) = (c : Int) := wrap_small (x := (c : Int)) (by omega) (by omega)
      have w2 : wrap64 ((c : Int) - 48) = (c : Int) - 48 := by unfold wrap64; omega
      rw [hv]
      clear h1 h2 hc hv
      go_enter Tryz.func265, Tryz.ntmps265
      go_wp2_with fail
      go_ret
      exact ⟨congrArg (fun z => Ending.returned (.int .i64 z)) w2, rfl⟩
    · have d2 : decide ((c : Int) ≤ 57) = false := decide_eq_false (by omega)
      by_cases h3 : 97 ≤ c
      · have d3 : decide ((c : Int) ≥ 97) = true := decide_eq_true (by omega)
        by_cases h4 : c ≤ 102
        · have d4 : decide ((c : Int) ≤ 102) = true := decide_eq_true (by omega)
          have hv : valD c = (c : Int) - 87 := by unfold valD; rw [if_neg (by omega), if_pos ⟨h3, h4⟩]
          have w1 : IntKind.i64.wrap (c : Int) = (c : Int) := wrap_small (x := (c : Int)) (by omega) (by omega)
          have w2 : wrap64 ((c : Int) - 87) = (c : Int) - 87 := by unfold wrap64; omega
          rw [hv]
          clear h1 h2 h3 h4 hc hv
          go_enter Tryz.func265, Tryz.ntmps265
          go_wp2_with fail
          go_ret
          exact ⟨congrArg (fun z => Ending.returned (.int .i64 z)) w2, rfl⟩
        · have d4 : decide ((c : Int) ≤ 102) = false := decide_eq_false (by omega)
          have hv : valD c = -1 := by unfold valD; rw [if_neg (by omega), if_neg (by omega)]
          rw [hv]
          clear h1 h2 h3 h4 hc hv
          go_enter Tryz.func265, Tryz.ntmps265
          go_wp2_with fail
          go_ret
          exact ⟨rfl, rfl⟩
      · have d3 : decide ((c : Int) ≥ 97) = false := decide_eq_false (by omega)
        have hv : valD c = -1 := by unfold valD; rw [if_neg (by omega), if_neg (by omega)]
        rw [hv]
        clear h1 h2 h3 hc hv
        go_enter Tryz.func265, Tryz.ntmps265
        go_wp2_with fail
        go_ret
        exact ⟨rfl, rfl⟩
  · have d1 : decide ((c : Int) ≥ 48) = false := decide_eq_false (by omega)
    have d3 : decide ((c : Int) ≥ 97) = false := decide_eq_false (by omega)
    have hv : valD c = -1 := by unfold valD; rw [if_neg (by omega), if_neg (by omega)]
    rw [hv]
    clear h1 hc hv
    go_enter Tryz.func265, Tryz.ntmps265
    go_wp2_with fail
    go_ret
    exact ⟨rfl, rfl⟩
def numS (s : List Nat × Nat × Nat) (c : UInt8) : List Nat × Nat × Nat :=
  if valD c.toNat < 0 then s else if s.2.2 + 1 = 8 then (s.1 ++ [16 * s.2.1 + (valD c.toNat).toNat], 0, 0) else (s.1, 16 * s.2.1 + (valD c.toNat).toNat, s.2.2 + 1)
def numK (l : List UInt8) : List Nat × Nat × Nat := l.foldl numS ([], 0, 0)
def numL (l : List UInt8) : List Nat := (numK l).1
structure NumOk (s : List Nat × Nat × Nat) (k : Nat) : Prop where
  dg : s.2.2 ≤ 7
  n : s.2.1 < 16 ^ s.2.2
  len : s.1.length ≤ k
theorem NumOk.step {s : List Nat × Nat × Nat} {k : Nat} (h : NumOk s k) (c : UInt8) : NumOk (numS s c) (k + 1) := by
  obtain ⟨h1, h2, h3⟩ := h
  have hv := valD_lt c.toNat
  unfold numS
  split
  · exact ⟨h1, h2, by omega⟩
  · split
    · exact ⟨by simp, by simp, by simp; omega⟩
    · rename_i hn h8
      refine ⟨by simp only; omega, ?_, by simp only; omega⟩
      simp only
      rw [Nat.pow_succ]
      omega
theorem numK_snoc (l : List UInt8) (c : UInt8) : numK (l ++ [c]) = numS (numK l) c := by unfold numK; rw [List.foldl_append]; rfl
theorem numK_ok (l : List UInt8) : ∀ k, k ≤ l.length → NumOk (numK (l.take k)) k
  | 0, _ => ⟨by simp [numK], by simp [numK], by simp [numK]⟩
  | k + 1, h => by
    rw [List.take_succ_eq_append_getElem h, numK_snoc]
    exact (numK_ok l k (by omega)).step _
theorem infoU64 : (Tryz.prog.info? 134).map (fun i => (i.zero, i.size, i.bytes)) = some (some (.int .u64 0), 1, 8) := by kernel_rfl
def NmO (w : World) (o : List Nat) (v : Value) (wr : World) : Prop := wr.ownsRow w.heap.size 134 1 v o.length (u64C o) ∧ Below w.heap.size w wr
theorem NmO.nil (w wr : World) (h : Below w.heap.size w wr) : NmO w [] (.slice none 0 0) wr := ⟨World.ownsRow_nil _ _ _ _, h⟩
theorem NmO.snoc {w W W5 : World} {o : List Nat} {v v5 : Value} {x : Nat} (h : NmO w o v W) (ob : Obj) (hg : (W.alloc ob).grownBy W5 v.ownBlock) (h5 : W5.ownsRow w.heap.size 134 1 v5 (o.length + 1) (u64C o ++ [.int .u64 (x : Int)])) : NmO w (o ++ [x]) v5 W5 :=
  ⟨by rw [List.length_append, List.length_singleton, u64C_snoc]; exact h5, (h.2.alloc h.2.size ob).grown hg (by have := h.2.size; simp; omega) fun j e => (h.1.lt j e).1⟩
theorem numbers_c (s : ByteArray) (w : World) (hs : s.size ≤ 1000000) : Calls Tryz.prog 234 #[.string s] w fun e w' => ∃ v, e = .returned v ∧ Hid (NmO w (numL s.data.toList) v w') := by
  obtain ⟨jU, hjU, hU0, hU1, hU2⟩ := info_parts infoU64
  have HSL := Lib.hid hs
  have hl := Lib.size_eq s
  have R0 : Hid (NmO w (numK (s.data.toList.take 0)).1 (.slice none 0 0) w) := Lib.hid (NmO.nil _ _ (Below.refl _ _))
  go_enter Tryz.func234, Tryz.ntmps234
  go_wp2_with fail
  go_loopg [3, 4, 5, 6] s.size (fun g s3 s4 s5 s6 wr => ∃ (k : Nat) (v : Value), g = s.size - k ∧ k ≤ s.size ∧ s6 = .int .i64 (k : Int) ∧ v = s3 ∧ s4 = .int .u64 ((numK (s.data.toList.take k)).2.1 : Nat) ∧ s5 = .int .i64 ((numK (s.data.toList.take k)).2.2 : Nat) ∧ Hid (NmO w (numK (s.data.toList.take k)).1 v wr))
  case atStart => exact ⟨0, _, rfl, Nat.zero_le _, rfl, rfl, rfl, rfl, R0⟩
  case round =>
    obtain ⟨k, v, rfl, hk, rfl, rfl, rfl, rfl, HR⟩ := hrel
    clear R0
    have hok := numK_ok s.data.toList k (by omega)
    by_cases hlt : k < s.size
    · obtain ⟨c, hc, -⟩ := byteL_at hlt
      have hidx := fun W => strIdx (P := Tryz.prog) 9 s k c Tryz.underlying9 hc W
      have hce : s.data.toList[k]'(by omega) = c := by
        rw [getElem?_pos _ k hlt] at hc
        exact Option.some.inj hc
      have HT : Hid (numK (s.data.toList.take (k + 1)) = numS (numK (s.data.toList.take k)) c) := Lib.hid (by
        rw [List.take_succ_eq_append_getElem (by omega), numK_snoc, hce])
      have HLT := Lib.hid hlt
      have hsm : k ≤ 1000000 := by have := HSL.out; omega
      have VC := fun W => value_c c.toNat W c.toNat_lt
      have hv := valD_lt c.toNat
      obtain ⟨h7, hn, hlen⟩ := hok
      obtain ⟨ST, hST⟩ : ∃ x, numK (s.data.toList.take k) = x := ⟨_, rfl⟩
      rw [hST] at HT HR h7 hn hlen
      have hn2 : ST.2.1 < 268435456 := Nat.lt_of_lt_of_le hn (by
        have : (16 : Nat) ^ ST.2.2 ≤ 16 ^ 7 := Nat.pow_le_pow_right (by decide) h7
        omega)
      rw [hST]
      obtain ⟨NX, hNX⟩ : ∃ x, numK (s.data.toList.take (k + 1)) = x := ⟨_, rfl⟩
      have HNX := Lib.hid hNX
      rw [hNX] at HT
      have HNS : Hid (numS ST c = if valD c.toNat < 0 then ST else if ST.2.2 + 1 = 8 then (ST.1 ++ [16 * ST.2.1 + (valD c.toNat).toNat], 0, 0) else (ST.1, 16 * ST.2.1 + (valD c.toNat).toNat, ST.2.2 + 1)) := Lib.hid rfl
      obtain ⟨d, hd⟩ : ∃ x, valD c.toNat = x := ⟨_, rfl⟩
      rw [hd] at HNS VC hv
      obtain ⟨o, n, dg⟩ := ST
      simp only at HNS HR h7 hn2 hlen HT ⊢
      clear hST hNX hd hc hce hn hk hl
      by_cases hd0 : d < 0
      · have d0 : decide (d < 0) = true := decide_eq_true hd0
        have HN2 : Hid (NX = (o, n, dg)) := Lib.hid (by rw [HT.out, HNS.out, if_pos hd0])
        clear hd0 hv HNS HT h7 hn2 hlen
        go_wp2_with fail
        refine (VC _).mono ?_
        rintro e wa ⟨rfl, rfl⟩
        clear VC hidx hlt
        go_wp2_with fail
        go_roundg (s.size - (k + 1))
        case measure => have := HLT.out; omega
        case rel => exact ⟨k + 1, _, rfl, HLT.out, by congr 1, rfl, by rw [HNX.out, HN2.out], by rw [HNX.out, HN2.out], by rw [HNX.out, HN2.out]; exact HR⟩
      · obtain ⟨m, rfl⟩ : ∃ m : Nat, d = (m : Int) := ⟨d.toNat, by omega⟩
        have d0 : decide ((m : Int) < 0) = false := decide_eq_false hd0
        have hm : m ≤ 15 := by omega
        rw [Int.toNat_natCast] at HNS
        have hW : Hid ((16 * (n : Int)) % 18446744073709551616 = 16 * (n : Int) ∧ (m : Int) % 18446744073709551616 = (m : Int) ∧ (16 * (n : Int) + (m : Int)) % 18446744073709551616 = 16 * (n : Int) + (m : Int)) := Lib.hid (by omega)
        clear hd0 hv
        by_cases h8 : dg + 1 = 8
        · obtain rfl : dg = 7 := by omega
          have HN2 : Hid (NX = (o ++ [16 * n + m], 0, 0)) := Lib.hid (by rw [HT.out, HNS.out, if_neg (by omega), if_pos h8])
          have L1 := Lib.hid (show o.length + 1 ≤ maxLen ∧ (o.length + 1) * 8 ≤ 140737488355328 from ⟨by unfold maxLen; omega, by omega⟩)
          clear h8 HNS HT h7 hn2 hlen hm
          go_wp2_with fail
          refine (VC _).mono ?_
          rintro e wa ⟨rfl, rfl⟩
          clear VC hidx hlt
          have HO := Lib.hid HR.out.1
          have HZ := Lib.hid HR.out.2.size
          have HAZ : Hid (∀ o : Obj, w.heap.size ≤ (wr.alloc o).heap.size) := Lib.hid fun o => by have := HZ.out; simp; omega
          have HST : Hid (∀ ob W5 v5, (wr.alloc ob).grownBy W5 v.ownBlock → W5.ownsRow w.heap.size 134 1 v5 (o.length + 1) (u64C o ++ [.int .u64 (16 * (n : Int) + (m : Int))]) → NmO w (o ++ [16 * n + m]) v5 W5) := Lib.hid fun ob W5 v5 hg h5 => HR.out.snoc ob hg (by push_cast; exact h5)
          obtain ⟨w16, wm, ws⟩ := hW.out
          clear HR hW
          go_wp2_with (first
            | (refine chkA 277 277 ⟨_, _, by with_reducible rfl⟩ ?_
               refine wpList_append_y (by rfl) _ _ _ rfl w.heap.size 134 jU _ 1 8 Tryz.underlying277 hjU hU0 hU1 hU2 rfl (by decide) _ _ _ (by rfl) (HO.out.alloc _) _ 1 _ (by rfl) (yields_boxL _ #[.int .u64 (16 * (n : Int) + (m : Int))] _ 1 1) rfl (one1 _ rfl) L1.out.1 L1.out.2 (HAZ.out _) ?_
               intro v5 W5 ho5 hg5 ha5
               have HN5 := Lib.hid (HST.out _ W5 v5 hg5 ho5)
               clear ho5 hg5 ha5))
          go_roundg (s.size - (k + 1))
          case measure => have := HLT.out; omega
          case rel => exact ⟨k + 1, _, rfl, HLT.out, by congr 1, rfl, by rw [HNX.out, HN2.out]; rfl, by rw [HNX.out, HN2.out]; rfl, by rw [HNX.out, HN2.out]; exact HN5⟩
        · have HN2 : Hid (NX = (o, 16 * n + m, dg + 1)) := Lib.hid (by rw [HT.out, HNS.out, if_neg (by omega), if_neg h8])
          have d8 : ((dg : Int) + 1 == 8) = false := by simp only [beq_eq_false_iff_ne, ne_eq]; omega
          have hdg : dg ≤ 6 := by omega
          clear h8 HNS HT h7 hn2 hlen hm
          go_wp2_with fail
          refine (VC _).mono ?_
          rintro e wa ⟨rfl, rfl⟩
          clear VC hidx hlt
          obtain ⟨w16, wm, ws⟩ := hW.out
          clear hW
          go_wp2_with fail
          go_roundg (s.size - (k + 1))
          case measure => have := HLT.out; omega
          case rel => exact ⟨k + 1, _, rfl, HLT.out, by congr 1, rfl, by rw [HNX.out, HN2.out]; push_cast; rfl, by rw [HNX.out, HN2.out]; push_cast; rfl, by rw [HNX.out, HN2.out]; exact HR⟩
    · obtain rfl : k = s.size := by omega
      have HG : Hid (NmO w (numL s.data.toList) v wr) := by
        rw [List.take_of_length_le (by omega)] at HR
        exact HR
      generalize numK (s.data.toList.take s.size) = ST at *
      clear HR hok hlt hk hl
      go_wp2_with fail
      go_ret
      exact ⟨_, rfl, HG⟩
theorem squares_c (w : World) : Calls Tryz.prog 194 #[] w fun e w' => ∃ v, e = .returned v ∧ Hid (NmO w pn0.h v w') := by
  go_enter Tryz.func194, Tryz.ntmps194
  go_wp2_with fail
  refine (numbers_c _ _ (by decide +kernel)).mono ?_
  rintro e w1 ⟨v, rfl, HE⟩
  have HG : Hid (NmO w pn0.h v w1) := HE
  clear HE
  go_wp2_with fail
  go_ret
  exact ⟨_, rfl, HG⟩
def kL : List Nat := (List.range 64).map kN
theorem cubes1_c (w : World) : Calls Tryz.prog 195 #[] w fun e w' => ∃ v, e = .returned v ∧ Hid (NmO w kL v w') := by
  go_enter Tryz.func195, Tryz.ntmps195
  go_wp2_with fail
  refine (numbers_c _ _ (by decide +kernel)).mono ?_
  rintro e w1 ⟨v, rfl, HE⟩
  have HG : Hid (NmO w kL v w1) := HE
  clear HE
  go_wp2_with fail
  go_ret
  exact ⟨_, rfl, HG⟩
def padR (s : ByteArray) (j : Nat) : List UInt8 := s.data.toList ++ 128 :: List.replicate j 0
theorem padR_len (s : ByteArray) (j : Nat) : (padR s j).length = s.size + 1 + j := by
  unfold padR
  rw [List.length_append, List.length_cons, List.length_replicate, ← Lib.size_eq]; omega
theorem padR_map (s : ByteArray) : (padR s (zerosN ((s.size + 1) % 64))).map (fun c => c.toNat) = padL s := by
  unfold padR padL byteL
  rw [List.map_append, List.map_cons, List.map_replicate]; rfl
theorem padR_succ (s : ByteArray) (j : Nat) : padR s (j + 1) = padR s j ++ [0] := by
  unfold padR
  rw [List.replicate_succ']; simp
theorem wordsL_step {l : List Nat} {m : Nat} (h : 4 * m + 3 < l.length) : wordsL (l.take (4 * (m + 1))) = wordsL (l.take (4 * m)) ++ [w4 (l.getD (4 * m) 0) (l.getD (4 * m + 1) 0) (l.getD (4 * m + 2) 0) (l.getD (4 * m + 3) 0)] := by
  have e : l.take (4 * (m + 1)) = l.take (4 * m) ++ [l.getD (4 * m) 0, l.getD (4 * m + 1) 0, l.getD (4 * m + 2) 0, l.getD (4 * m + 3) 0] := by
    have g : ∀ i, i < l.length → l.take (i + 1) = l.take i ++ [l.getD i 0] := fun i hi => by
      rw [List.take_succ_eq_append_getElem hi]; unfold List.getD; rw [List.getElem?_eq_getElem hi]; rfl
    rw [show 4 * (m + 1) = 4 * m + 3 + 1 by omega, g _ h, g (4 * m + 2) (by omega), g (4 * m + 1) (by omega), g (4 * m) (by omega)]
    simp
  rw [e, wordsL_app m _ _ (by rw [List.length_take]; omega)]
  rfl
theorem byte_at {t : ByteArray} {i : Nat} (h : i < t.size) : ∃ c : UInt8, t[i]? = some c ∧ (t.data.toList.map fun c => c.toNat).getD i 0 = c.toNat := by
  have hl : i < t.data.toList.length := by rw [← Lib.size_eq]; exact h
  refine ⟨t.data.toList[i], by rw [getElem?_pos _ i h]; rfl, ?_⟩
  unfold List.getD
  rw [List.getElem?_map, List.getElem?_eq_getElem hl]; rfl
theorem words_c (s : ByteArray) (w : World) (hs : s.size ≤ 100000) : Calls Tryz.prog 230 #[.string s] w fun e w' => ∃ v, e = .returned v ∧ Hid (NmO w (refWords s) v w') := by
  obtain ⟨jU, hjU, hU0, hU1, hU2⟩ := info_parts infoU64
  have HSL := Lib.hid hs
  obtain ⟨z, hz⟩ : ∃ z, zerosN ((s.size + 1) % 64) = z := ⟨_, rfl⟩
  have hz2 : z < 64 ∧ ∀ j, j ≤ z → ((s.size + 1 + j) % 64 = 56 ↔ j = z) := by
    rw [← hz]; unfold zerosN
    refine ⟨by omega, fun j hj => ?_⟩
    omega
  have HZ := Lib.hid hz
  have HZ2 := Lib.hid hz2
  have hp : (s ++ (⟨#[128]⟩ : ByteArray)).data.toList = padR s 0 := by unfold padR; simp
  have R0 : Hid ((s ++ (⟨#[128]⟩ : ByteArray)).data.toList = padR s 0) := Lib.hid hp
  have hps : (s ++ (⟨#[128]⟩ : ByteArray)).size = s.size + 1 := by rw [ByteArray.size_append]; rfl
  have hb1 : (s.size + 1 > 9223372036854775807) = False := by simp; omega
  have hb2 : ¬ (9223372036854775807 < s.size + 1) := by omega
  clear hz hz2 hp
  go_enter Tryz.func230, Tryz.ntmps230
  go_wp2_with fail
  go_loopg [0] z (fun g s0 wr => ∃ (j : Nat) (cur : ByteArray), g = z - j ∧ j ≤ z ∧ s0 = .string cur ∧ Hid (cur.data.toList = padR s j) ∧ w = wr)
  case atStart => exact ⟨0, _, rfl, Nat.zero_le _, rfl, R0, rfl⟩
  case round =>
    obtain ⟨j, cur, rfl, hj, rfl, HC, rfl⟩ := hrel
    have hcs : cur.size = s.size + 1 + j := by
      have := congrArg List.length HC.out
      rw [← Lib.size_eq, padR_len] at this; exact this
    have h56 := HZ2.out.2 j hj
    by_cases hlt : j < z
    · have d56 : ((cur.size : Int) % 64 != 56) = true := by
        simp only [bne_iff_ne, ne_eq]; omega
      have hq1 : (cur.size + 1 > 9223372036854775807) = False := by have := HSL.out; have := HZ2.out.1; simp; omega
      have hq2 : ¬ (9223372036854775807 < cur.size + 1) := by have := HSL.out; have := HZ2.out.1; omega
      have HN : Hid ((cur ++ (⟨#[0]⟩ : ByteArray)).data.toList = padR s (j + 1)) := Lib.hid (by rw [padR_succ, ← HC.out]; simp)
      have HLT := Lib.hid hlt
      clear hcs h56 hlt hj HC R0
      go_wp2_with fail
      go_roundg (z - (j + 1))
      case measure => have := HLT.out; omega
      case rel => exact ⟨j + 1, _, rfl, HLT.out, rfl, HN, rfl⟩
    · obtain rfl : j = z := by omega
      have d56 : ((cur.size : Int) % 64 != 56) = false := by
        have := h56.2 rfl
        simp only [bne_eq_false_iff_eq]; omega
      clear h56 hlt hj R0
      go_wp2_with fail
      have hpl : cur.data.toList.map (fun c => c.toNat) = padL s := by rw [HC.out, ← HZ.out]; exact padR_map s
      have hM : ∃ M, cur.size = 4 * M := ⟨cur.size / 4, by have := HZ2.out.2 j (Nat.le_refl _); have := this.2 rfl; omega⟩
      obtain ⟨M, hM⟩ := hM
      have hcl : cur.size ≤ 100100 := by have := HSL.out; have := HZ2.out.1; omega
      have HFIN : Hid (refWords s = wordsL ((padL s).take (4 * M)) ++ [s.size * 8 / 4294967296, s.size * 8 % 4294967296]) := Lib.hid (by
        unfold refWords
        rw [List.take_of_length_le]
        rw [← hpl, List.length_map, ← Lib.size_eq, hM]; exact Nat.le_refl _)
      have HPL := Lib.hid hpl
      have HM := Lib.hid hM
      have HCL := Lib.hid hcl
      obtain ⟨P, hP⟩ : ∃ P, padL s = P := ⟨_, rfl⟩
      rw [hP] at HFIN HPL
      have R2 : Hid (NmO w (wordsL (P.take (4 * 0))) (.slice none 0 0) w) := Lib.hid (NmO.nil _ _ (Below.refl _ _))
      clear hpl hM hcl hcs HC hps hb1 hb2 d56 HZ HZ2 hP
      generalize (((s.size : Int) + 1 + (j : Int)) % 64 != 56) = bq
      go_loopg [4, 5] M (fun g s4 s5 wr => ∃ (m i : Nat) (v : Value), g = M - m ∧ m ≤ M ∧ i = 4 * m ∧ s5 = .int .i64 (i : Int) ∧ v = s4 ∧ Hid (NmO w (wordsL (P.take (4 * m))) v wr))
      case atStart => exact ⟨0, 0, _, rfl, Nat.zero_le _, rfl, rfl, rfl, R2⟩
      case round =>
        obtain ⟨m, i, v, rfl, hm, hi, rfl, rfl, HR⟩ := hrel
        clear R2
        have hsz := HM.out
        have hszl := HCL.out
        by_cases hlt : m < M
        · obtain ⟨c0, e0, f0⟩ := byte_at (t := cur) (i := i) (by omega)
          obtain ⟨c1, e1, f1⟩ := byte_at (t := cur) (i := i + 1) (by omega)
          obtain ⟨c2, e2, f2⟩ := byte_at (t := cur) (i := i + 2) (by omega)
          obtain ⟨c3, e3, f3⟩ := byte_at (t := cur) (i := i + 3) (by omega)
          rw [HPL.out] at f0 f1 f2 f3
          have hx0 : ∀ W, (Instr.index 9 (.string cur) (.int .i64 (i : Int))).run Tryz.prog W = .ok (.int .u8 (c0.toNat : Int)) W := fun W => strIdx (P := Tryz.prog) 9 cur i c0 Tryz.underlying9 e0 W
          have hx1 : ∀ W, (Instr.index 9 (.string cur) (.int .i64 ((i : Int) + 1))).run Tryz.prog W = .ok (.int .u8 (c1.toNat : Int)) W := fun W => strIdx (P := Tryz.prog) 9 cur (i + 1) c1 Tryz.underlying9 e1 W
          have hx2 : ∀ W, (Instr.index 9 (.string cur) (.int .i64 ((i : Int) + 2))).run Tryz.prog W = .ok (.int .u8 (c2.toNat : Int)) W := fun W => strIdx (P := Tryz.prog) 9 cur (i + 2) c2 Tryz.underlying9 e2 W
          have hx3 : ∀ W, (Instr.index 9 (.string cur) (.int .i64 ((i : Int) + 3))).run Tryz.prog W = .ok (.int .u8 (c3.toNat : Int)) W := fun W => strIdx (P := Tryz.prog) 9 cur (i + 3) c3 Tryz.underlying9 e3 W
          have hstep : wordsL (P.take (4 * (m + 1))) = wordsL (P.take (4 * m)) ++ [w4 c0.toNat c1.toNat c2.toNat c3.toNat] := by
            rw [wordsL_step (by have := congrArg List.length HPL.out; rw [List.length_map, ← Lib.size_eq] at this; omega), ← hi, f0, f1, f2, f3]
          have HSTEP := Lib.hid hstep
          have HI := Lib.hid hi
          have HLT := Lib.hid hlt
          have hil : i + 3 < cur.size := by omega
          have hsm : i ≤ 100100 := by omega
          have hl0 : i < cur.size := by omega
          have hl1 : i + 1 < cur.size := by omega
          have hl2 : i + 2 < cur.size := by omega
          have z1 : (0 ≤ (i : Int) + 1) = True := eq_true (by omega)
          have z2 : (0 ≤ (i : Int) + 2) = True := eq_true (by omega)
          have z3 : (0 ≤ (i : Int) + 3) = True := eq_true (by omega)
          have b0 := c0.toNat_lt
          have b1 := c1.toNat_lt
          have b2 := c2.toNat_lt
          have b3 := c3.toNat_lt
          have hwl : (wordsL (P.take (4 * m))).length ≤ 100100 := by
            have h1 : ((P.take (4 * m))).length ≤ 100100 := by rw [List.length_take, ← HPL.out, List.length_map, ← Lib.size_eq]; omega
            have h2 : ∀ (l : List Nat), (wordsL l).length ≤ l.length := by
              intro l
              fun_induction wordsL l with
              | case1 => simp only [List.length_cons]; omega
              | case2 => simp
            exact Nat.le_trans (h2 _) h1
          clear hstep hi hlt e0 e1 e2 e3 f0 f1 f2 f3 hm hsz
          generalize c0.toNat = n0 at *
          generalize c1.toNat = n1 at *
          generalize c2.toNat = n2 at *
          generalize c3.toNat = n3 at *
          have HW4 : Hid (((w4 n0 n1 n2 n3 : Nat) : Int) = (n0 : Int) * 16777216 + (n1 : Int) * 65536 + (n2 : Int) * 256 + (n3 : Int)) := Lib.hid (by unfold w4; omega)
          generalize w4 n0 n1 n2 n3 = w44 at *
          obtain ⟨o, ho⟩ : ∃ o, wordsL (P.take (4 * m)) = o := ⟨_, rfl⟩
          rw [ho] at HSTEP HR hwl
          clear ho
          have L1 := Lib.hid (show o.length + 1 ≤ maxLen ∧ (o.length + 1) * 8 ≤ 140737488355328 from ⟨by unfold maxLen; omega, by omega⟩)
          have HO := Lib.hid HR.out.1
          have HZ := Lib.hid HR.out.2.size
          have HP : Hid (IntKind.i64.wrap ((i : Int) + 1) = (i : Int) + 1 ∧ IntKind.i64.wrap ((i : Int) + 2) = (i : Int) + 2 ∧ IntKind.i64.wrap ((i : Int) + 3) = (i : Int) + 3) := Lib.hid ⟨wrap_small (x := (i : Int) + 1) (by omega) (by omega), wrap_small (x := (i : Int) + 2) (by omega) (by omega), wrap_small (x := (i : Int) + 3) (by omega) (by omega)⟩
          have HQ : Hid ((IntKind.u64.wrap (n0 : Int) = n0 ∧ IntKind.u64.wrap (n1 : Int) = n1 ∧ IntKind.u64.wrap (n2 : Int) = n2 ∧ IntKind.u64.wrap (n3 : Int) = n3) ∧ (IntKind.u64.wrap ((n0 : Int) * 16777216) = (n0 : Int) * 16777216 ∧ IntKind.u64.wrap ((n1 : Int) * 65536) = (n1 : Int) * 65536 ∧ IntKind.u64.wrap ((n2 : Int) * 256) = (n2 : Int) * 256) ∧ (IntKind.u64.wrap ((n0 : Int) * 16777216 + (n1 : Int) * 65536) = (n0 : Int) * 16777216 + (n1 : Int) * 65536 ∧ IntKind.u64.wrap ((n0 : Int) * 16777216 + (n1 : Int) * 65536 + (n2 : Int) * 256) = (n0 : Int) * 16777216 + (n1 : Int) * 65536 + (n2 : Int) * 256 ∧ IntKind.u64.wrap ((n0 : Int) * 16777216 + (n1 : Int) * 65536 + (n2 : Int) * 256 + (n3 : Int)) = (n0 : Int) * 16777216 + (n1 : Int) * 65536 + (n2 : Int) * 256 + (n3 : Int))) := Lib.hid ⟨⟨wrapU64 _ (by omega) (by omega), wrapU64 _ (by omega) (by omega), wrapU64 _ (by omega) (by omega), wrapU64 _ (by omega) (by omega)⟩, ⟨wrapU64 _ (by omega) (by omega), wrapU64 _ (by omega) (by omega), wrapU64 _ (by omega) (by omega)⟩, wrapU64 _ (by omega) (by omega), wrapU64 _ (by omega) (by omega), wrapU64 _ (by omega) (by omega)⟩
          have HOD : Hid (∀ o1, (wr.drew.alloc o1).ownsRow w.heap.size 134 1 v o.length (u64C o)) := Lib.hid fun o1 => (show wr.drew.ownsRow w.heap.size 134 1 v o.length (u64C o) from HO.out).alloc o1
          have HBX : Hid (∀ o1, w.heap.size ≤ (wr.drew.alloc o1).heap.size) := Lib.hid fun o1 => by have := HZ.out; simp; omega
          have HST : Hid (∀ ob W5 v5, (wr.drew.alloc ob).grownBy W5 v.ownBlock → W5.ownsRow w.heap.size 134 1 v5 (o.length + 1) (u64C o ++ [.int .u64 ((n0 : Int) * 16777216 + (n1 : Int) * 65536 + (n2 : Int) * 256 + (n3 : Int))]) → NmO w (wordsL (P.take (4 * (m + 1)))) v5 W5) := Lib.hid fun ob W5 v5 hg h5 => by
            rw [HSTEP.out]
            refine NmO.snoc (W := wr.drew) ⟨HO.out, HR.out.2.drew⟩ ob hg ?_
            rw [HW4.out]; exact h5
          clear HR HSTEP
          obtain ⟨p1, p2, p3⟩ := HP.out
          obtain ⟨⟨q0, q1, q2, q3⟩, ⟨r0, r1, r2⟩, r3, r4, r5⟩ := HQ.out
          clear HP HQ b0 b1 b2 b3
          go_wp2_with fail
          refine wp_region_noPanic ?_
          refine wp_region_held_drew (S := fun _ => True) (by kernel_rfl) ?_ (fun hHeld => ?_)
          · exact trivial
          refine' tkH 0 rfl ?_
          try simp only [Act.put, List.setIfInBounds_toArray, List.set_cons_zero, List.set_cons_succ, List.getElem_toArray, List.getElem_cons_zero]
          refine' tkH 1 rfl ?_; try simp only [Act.put, awL]
          refine' tkH 2 rfl ?_; try simp only [Act.put, awL]
          refine' tkH 3 rfl ?_; try simp only [Act.put, awL]
          refine' tkH 4 rfl ?_; try simp only [Act.put, awL]
          refine' tkH 5 rfl ?_; try simp only [Act.put, awL]
          refine' tkH 6 rfl ?_; try simp only [Act.put, awL]
          refine' tkH 7 rfl ?_; try simp only [Act.put, awL]
          refine' tkH 8 rfl ?_; try simp only [Act.put, awL]
          refine' tkH 9 rfl ?_; try simp only [Act.put, awL]
          refine' tkH 10 rfl ?_; try simp only [Act.put, awL]
          refine' tkH 11 rfl ?_; try simp only [Act.put, awL]
          refine' tkH 12 rfl ?_; try simp only [Act.put, awL]
          refine' tkH 13 rfl ?_; try simp only [Act.put, awL]
          refine' tkH 14 rfl ?_; try simp only [Act.put, awL]
          refine' tkH 15 rfl ?_; try simp only [Act.put, awL]
          refine' tkH 16 rfl ?_; try simp only [Act.put, awL]
          refine' tkH 17 rfl ?_; try simp only [Act.put, awL]
          refine' tkH 18 rfl ?_; try simp only [Act.put, awL]
          refine' tkH 19 rfl ?_; try simp only [Act.put, awL]
          refine' tkH 20 rfl ?_; try simp only [Act.put, awL]
          refine' tkH 21 rfl ?_; try simp only [Act.put, awL]
          refine' tkH 22 rfl ?_; try simp only [Act.put, awL]
          refine' tkH 23 rfl ?_; try simp only [Act.put, awL]
          refine' tkH 24 rfl ?_; try simp only [Act.put, awL]
          refine' tkH 25 rfl ?_; try simp only [Act.put, awL]
          refine wpAnyH_ready (rs := [26]) (by kernel_rfl) (by simp) ?_
          refine AllReadyH.cons rfl (fun K hK => ?_) AllReadyH.nil
          go_simp
          refine hK.out _ _ ?_ (fun hHeld => ?_)
          · exact trivial
          clear hK K
          try simp only [Act.put, awL]
          refine wpAnyH_ready (rs := [27]) (by kernel_rfl) (by simp) ?_
          refine AllReadyH.cons rfl (fun K hK => ?_) AllReadyH.nil
          refine step_append_y (by rfl) _ _ _ (by rfl) w.heap.size 134 jU _ 1 8 Tryz.underlying277 hjU hU0 hU1 hU2 rfl (by decide) _ _ _ (by rfl) (HOD.out _) _ 1 _ (by rfl) (yields_boxL _ #[.int .u64 ((n0 : Int) * 16777216 + (n1 : Int) * 65536 + (n2 : Int) * 256 + (n3 : Int))] _ 1 1) rfl (one1 _ rfl) L1.out.1 L1.out.2 (HBX.out _) ?_
          intro v5 W5 ho5 hg5 ha5
          have HN5 := Lib.hid (HST.out _ W5 v5 hg5 ho5)
          clear ho5 hg5 ha5
          refine hK.out _ _ ?_ (fun hHeld => ?_)
          · exact trivial
          clear hK K
          try simp only [Act.put, awL]
          refine' tkH 28 rfl ?_; try simp only [Act.put, awL]
          refine wpAnyH_done (by kernel_rfl) ?_ _
          refine NoPanic.normal ?_
          go_wp2_with fail
          go_roundg (M - (m + 1))
          case measure => have := HLT.out; omega
          case rel => exact ⟨m + 1, i + 4, _, rfl, HLT.out, by have := HI.out; omega, rfl, rfl, HN5⟩
        · obtain rfl : m = M := by omega
          obtain ⟨o, ho⟩ : ∃ o, wordsL (P.take (4 * m)) = o := ⟨_, rfl⟩
          rw [ho] at HR HFIN
          have hol : o.length ≤ 100100 := by
            have h1 : ((P.take (4 * m))).length ≤ 100100 := by rw [List.length_take, ← HPL.out, List.length_map, ← Lib.size_eq]; omega
            have h2 : ∀ (l : List Nat), (wordsL l).length ≤ l.length := by
              intro l
              fun_induction wordsL l with
              | case1 => simp only [List.length_cons]; omega
              | case2 => simp
            rw [← ho]
            exact Nat.le_trans (h2 _) h1
          have LW : ∀ W, Calls Tryz.prog 231 #[.int .u64 (8 * (s.size : Int))] W fun e w' => e = .returned (.int .u64 ((8 * s.size % 4294967296 : Nat) : Int)) ∧ W = w' := fun W => low_c (8 * s.size) W
          have L1 := Lib.hid (show o.length + 2 ≤ maxLen ∧ (o.length + 2) * 8 ≤ 140737488355328 from ⟨by unfold maxLen; omega, by omega⟩)
          have HO := Lib.hid HR.out.1
          have HZ := Lib.hid HR.out.2.size
          have HAZ : Hid (∀ o1 : Obj, w.heap.size ≤ (wr.alloc o1).heap.size) := Lib.hid fun o1 => by have := HZ.out; simp; omega
          have HST : Hid (∀ ob W5 v5, (wr.alloc ob).grownBy W5 v.ownBlock → W5.ownsRow w.heap.size 134 1 v5 (o.length + 2) (u64C o ++ [.int .u64 (8 * (s.size : Int) / 4294967296), .int .u64 ((8 * s.size % 4294967296 : Nat) : Int)]) → NmO w (refWords s) v5 W5) := Lib.hid fun ob W5 v5 hg h5 => by
            rw [HFIN.out]
            have e1 : u64C (o ++ [s.size * 8 / 4294967296, s.size * 8 % 4294967296]) = u64C o ++ [.int .u64 (8 * (s.size : Int) / 4294967296), .int .u64 ((8 * s.size % 4294967296 : Nat) : Int)] := by
              unfold u64C
              rw [List.map_append, List.map_cons, List.map_cons, List.map_nil, Nat.mul_comm s.size 8]
              rfl
            exact ⟨by rw [e1, List.length_append]; exact h5, (HR.out.2.alloc HZ.out ob).grown hg (by have := HZ.out; simp; omega) fun j e => (HR.out.1.lt j e).1⟩
          have hge : ¬ i < cur.size := by omega
          clear HR HFIN hlt hm hi ho HPL hsz
          generalize (8 * s.size % 4294967296) = lo at *
          go_wp2_with fail
          refine (LW _).mono ?_
          rintro e wa ⟨rfl, rfl⟩
          clear LW
          go_wp2_with (first
            | (refine chkA 277 277 ⟨_, _, by with_reducible rfl⟩ ?_
               refine wpList_append_y (by rfl) _ _ _ rfl w.heap.size 134 jU _ 1 8 Tryz.underlying277 hjU hU0 hU1 hU2 rfl (by decide) _ _ _ (by rfl) (HO.out.alloc _) _ 2 _ (by rfl) (yields_boxL _ #[.int .u64 (8 * (s.size : Int) / 4294967296), .int .u64 (lo : Int)] _ 2 2) rfl (one2 _ _ rfl rfl) L1.out.1 L1.out.2 (HAZ.out _) ?_
               intro v5 W5 ho5 hg5 ha5
               have HN5 := Lib.hid (HST.out _ W5 v5 hg5 ho5)
               clear ho5 hg5 ha5))
          go_ret
          exact ⟨_, rfl, HN5⟩
set_option maxHeartbeats 1000000
section
variable {P : Program} {w : World}
theorem run_append_k (t ty : TypeId) (base : Nat) (e : TypeId) (i : TypeInfo) (z : Value) (size bytes : Nat) (ht : P.underlying t = some (.slice e)) (hi : P.info? e = some i) (hz : i.zero = some z)
    (hsize : i.size = size) (hby : i.bytes = bytes) (hzs : z.cells.size = size) (hsz : 0 < size)
    (v : Value) (n : Nat) (xs : List Value) (hown : w.ownsRow base e size v n xs)
    (x : Value) (m : Nat) (news : List Value) (hx : Yields w x m news) (hl : news.length = m * size) (h1 : ∀ u ∈ news, u.oneCell' = true)
    (h63 : n + m ≤ maxLen) (hbytes : (n + m) * bytes ≤ 140737488355328) (hbase : base ≤ w.heap.size) :
    ∃ v' w', (Builtin.append_ #[t, t] ty #[v, x]).run P w = .ok v' w' ∧ w'.ownsRow base e size v' (n + m) (xs ++ news) ∧ w.grownBy w' v.ownBlock ∧ (v'.ownBlock = v.ownBlock ∨ v'.ownBlock = some w.heap.size) ∧
      ∀ g, v.ownBlock = some g → ∀ j u, xs[j]? = some u → w'.cell? ⟨g, j, none⟩ = some u := by
  obtain ⟨v', w', hr, h2, h3, h4⟩ := run_append_y (P := P) (w := w) t ty base e i z size bytes ht hi hz hsize hby hzs hsz v n xs hown x m news hx hl h1 h63 hbytes hbase
  refine ⟨v', w', hr, h2, h3, h4, fun g hg j u hu => ?_⟩
  have same : v'.ownBlock = some g → w'.cell? ⟨g, j, none⟩ = some u := fun hv => by
    have := h2.cells hv j u (by rw [List.getElem?_append_left (List.getElem?_eq_some_iff.1 hu).1]; exact hu)
    rwa [addr_addO, Nat.zero_add] at this
  rcases hown.2 with ⟨rfl, _⟩ | ⟨g', cap, cur, rfl, a1, a2, a3, a4, a5, a6⟩
  · cases hg
  · obtain rfl : g' = g := Option.some.inj hg
    by_cases hroom : n + m ≤ cap
    · rcases h4 with h4 | h4
      · exact same h4
      · exfalso
        obtain ⟨o, c, rfl, ho, hc⟩ := hx
        cases o with
        | none =>
          obtain rfl : m = 0 := ho rfl
          rw [run_append_nil base t ty e i size ht hi _ n c xs hown] at hr
          injection hr with e1 e2
          subst e1; subst e2
          have := (hown.lt g' rfl).2
          rw [show (Value.slice (some ⟨g', 0, none⟩) n cap).ownBlock = some g' from rfl] at h4
          injection h4 with h4
          omega
        | some ad =>
          have hsrc : Src P i.size t (.slice (some ad) m c) m news w := Src.ofSlice w ht _ m c _ (by rw [hsize]; exact hl) (hc ad rfl) h1
          have hlen : ∀ j, j < news.length → 0 + n * i.size + j < cur.size := fun j hj => by
            rw [a5, hsize, Nat.zero_add, ← Nat.sub_add_cancel hroom]
            have : n * size + j < (n + m) * size := by rw [Nat.add_mul]; omega
            rw [Nat.sub_add_cancel hroom]
            exact Nat.lt_of_lt_of_le this (Nat.mul_le_mul_right _ hroom)
          have hrun := run_append_room_src (P := P) w t t ty e i ht hi g' 0 n cap _ m _ hsrc hroom
            (fun j hj => by
              have h := hlen j hj
              rw [cell_of_row w g' (0 + n * i.size + j) cur e (0, 0) a2, Array.getElem?_eq_getElem h]; rfl)
            (fun j hj => by simp [World.frozen?, a2])
          rw [hr] at hrun
          injection hrun with e1 e2
          rw [e1] at h4
          have := (hown.lt g' rfl).2
          rw [show (Value.slice (some ⟨g', 0, none⟩) (n + m) cap).ownBlock = some g' from rfl] at h4
          injection h4 with h4
          omega
    · obtain ⟨o, c, rfl, ho, hc⟩ := hx
      cases o with
      | none =>
        obtain rfl : m = 0 := ho rfl
        omega
      | some ad =>
        have hsrc : Src P i.size t (.slice (some ad) m c) m news w := Src.ofSlice w ht _ m c _ (by rw [hsize]; exact hl) (hc ad rfl) h1
        have hfirst : (Builtin.firstCells i.size n (.slice (some ⟨g', 0, none⟩) n cap)).run P w.drew = .ok xs.toArray w.drew := by
          rw [hsize]
          refine run_firstCells_some w.drew size n _ n cap _ hown.1 ?_
          intro j u hu
          rw [World.cell?_drew]
          exact hown.cells rfl j u hu
        have hrun := run_append_grow_src (P := P) w t t ty e i z ht hi hz (some ⟨g', 0, none⟩) n cap _ hfirst _ m _ hsrc (by omega) (by unfold maxLen at h63; omega)
          (growslice_fits (by omega) (by rw [hby]; exact hbytes))
        rw [hr] at hrun
        injection hrun with e1 e2
        subst e2
        have hlt := (hown.lt g' rfl).2
        have hb : (w.drew.alloc (.cells ((xs ++ news).toArray ++ Builtin.zeroCells z.cells (grownCap w (n + m) cap e - (n + m))) e)).heap[g']? = w.heap[g']? := heap_alloc_lt (w := w.drew) _ hlt
        have hcell := hown.cells rfl j u hu
        rw [addr_addO, Nat.zero_add] at hcell
        rw [← hcell]
        simp only [World.cell?, hb]
theorem step_append_k {ops : Array Oper} {o : Oper} {a : Act} {K : Act → World → Prop} {Q : Exit → Act → World → Prop} {E : Prop} (hgd : o.guard = none) (s x : Operand) (t : TypeId)
    (ho : o.op = .call { callee := .builtin .append, args := #[s, x], argTypes := #[t, t] })
    (base : Nat) (e : TypeId) (i : TypeInfo) (z : Value) (size bytes : Nat) (ht : P.underlying t = some (.slice e)) (hi : P.info? e = some i) (hz : i.zero = some z)
    (hsize : i.size = size) (hby : i.bytes = bytes) (hzs : z.cells.size = size) (hsz : 0 < size)
    (v : Value) (n : Nat) (xs : List Value) (hs : a.eval s = v) (hown : w.ownsRow base e size v n xs)
    (y : Value) (m : Nat) (news : List Value) (hx : a.eval x = y) (hy : Yields w y m news) (hl : news.length = m * size) (h1 : ∀ u ∈ news, u.oneCell' = true)
    (h63 : n + m ≤ maxLen) (hbytes : (n + m) * bytes ≤ 140737488355328) (hbase : base ≤ w.heap.size)
    (h : ∀ v' w', w'.ownsRow base e size v' (n + m) (xs ++ news) → w.grownBy w' v.ownBlock → (∀ g, v.ownBlock = some g → ∀ j u, xs[j]? = some u → w'.cell? ⟨g, j, none⟩ = some u) → K (a.put o.dst v') w') :
    if Region.wanted o (yielded ops a.tmps) = true then Oper.wp P o a w K Q else E := by
  have hw : Region.wanted o (yielded ops a.tmps) = true := by simp [Region.wanted, hgd]
  rw [if_pos hw]
  obtain ⟨v', w', hr, h2, h3, -, h4⟩ := run_append_k (P := P) (w := w) t o.type base e i z size bytes ht hi hz hsize hby hzs hsz v n xs hown y m news hy hl h1 h63 hbytes hbase
  unfold Oper.wp execOp
  simp only [ho, resolve, invoke, builtin, Sem.run_bind, Sem.run_pure, Result.andThen_ok, List.map_toArray, List.map_cons, List.map_nil, hs, hx, hr]
  exact h v' w' h2 h3 h4
end
end Go.Proofs.YtdcjhpafipbpkaaGreatDoor
