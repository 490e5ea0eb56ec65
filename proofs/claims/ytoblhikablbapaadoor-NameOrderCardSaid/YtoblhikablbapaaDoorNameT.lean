/- name: what the reference reads of a key; PartKey, Behind: walks. (Printed by wip/gennamet.py.) -/
import Derived.Test.YtoblhikablbapaaDoorNameS
namespace Go.Proofs.YtoblhikablbapaaDoor
set_option linter.unusedVariables false
set_option maxRecDepth 100000
set_option maxHeartbeats 2000000
open Go.RowKit
theorem readK_cons (k c : UInt8) (r : List UInt8) : readK k (c :: r) = if c = k then (match cutL r with
    | none => none
    | some (b, r2) => match cutL r2 with
      | none => none
      | some (i, r3) => if bktB b = true ∧ itemB i = true ∧ r3.length = 8 then some (b, i, r3) else none) else none := rfl
theorem cons_mk (c : UInt8) (r : List UInt8) : (⟨(c :: r).toArray⟩ : ByteArray).size = r.length + 1 ∧ (⟨(c :: r).toArray⟩ : ByteArray)[0]? = some c ∧ (⟨(c :: r).toArray⟩ : ByteArray).extract 1 (⟨(c :: r).toArray⟩ : ByteArray).size = ⟨r.toArray⟩ := by
  refine ⟨by rw [size_mk]; simp, head_one c r, ?_⟩
  rw [extract_drop]; simp
theorem Rread_c (k : UInt8) (s : ByteArray) (w : World) (hs : s.size ≤ 1000000) :
    Calls Tryd.prog 68 #[.int .u8 k.toNat, .string s] w fun e w' => e = .returned (readV (readK k s.data.toList)) ∧ Below w.heap.size w w' := by
  have hl := Lib.size_eq s
  have hk := mk_data s
  cases hL : s.data.toList with
  | nil =>
    rw [hL] at hl
    have h0 : s.size < 1 := by rw [hl]; decide
    clear hl hk hL
    go_enter Tryd.func68, Tryd.ntmps68
    go_wp2_with fail
    (try simp only [Exit.inBlock, Exit.then])
    refine bodyPost_ret (results_tmp4 rfl _ _ _) rfl ?_
    exact ⟨rfl, Below.refl _ _⟩
  | cons c r =>
    rw [hL] at hl hk
    obtain ⟨e1, e2, e3⟩ := cons_mk c r
    rw [hk] at e1 e2 e3
    rw [readK_cons]
    have p0 : 0 < s.size := by omega
    have p1 : 1 ≤ s.size := by omega
    have g0 : s[0] = c := by have := e2; rw [getElem?_pos s 0 p0] at this; exact Option.some.inj this
    have hr : r.length ≤ 1000000 := by omega
    clear hl hk hL e1 e2
    by_cases hc : c = k
    · have q1 : ((c.toNat : Int) == (k.toNat : Int)) = true := by rw [hc]; simp
      have q2 : ((c.toNat : Int) != (k.toNat : Int)) = false := by rw [hc]; simp
      rw [if_pos hc]
      have C1 := fun w => RCut_c ⟨r.toArray⟩ w (by rw [size_mk]; omega)
      simp only at C1
      clear hc
      cases g1 : cutL r with
      | none =>
        have C1 : ∀ w, Calls Tryd.prog 25 #[.string ⟨r.toArray⟩] w (fun e w' => e = .returned (.tuple #[.string ⟨#[]⟩, .string ⟨#[]⟩, .bool false]) ∧ Below w.heap.size w w') := fun w => by have := C1 w; rwa [cutVal_none g1] at this
        have C0 : ∀ w, Calls Tryd.prog 25 #[.string ⟨#[]⟩] w (fun e w' => e = .returned (.tuple #[.string ⟨#[]⟩, .string ⟨#[]⟩, .bool false]) ∧ Below w.heap.size w w') := fun w => RCut_c ⟨#[]⟩ w (by decide)
        generalize (⟨r.toArray⟩ : ByteArray) = x at *
        have HC1 := Lib.hid C1
        have HC0 := Lib.hid C0
        clear C1 g1 C0
        go_enter Tryd.func68, Tryd.ntmps68
        go_wp2_with fail
        refine (HC1.out _).mono ?_
        rintro e w1 ⟨rfl, hb⟩
        have Hb1 := Lib.hid hb
        clear hb
        go_wp2_with fail
        refine (HC0.out _).mono ?_
        rintro e w2 ⟨rfl, hb⟩
        have Hb2 := Lib.hid ((Hb1.out).trans (hb.mono (Hb1.out).size))
        clear hb
        go_wp2_with fail
        (try simp only [Exit.inBlock, Exit.then])
        refine bodyPost_ret (results_tmp4 rfl _ _ _) rfl ?_
        exact ⟨rfl, Hb2.out⟩
      | some p =>
        obtain ⟨b, r2⟩ := p
        simp only
        have C1 : ∀ w, Calls Tryd.prog 25 #[.string ⟨r.toArray⟩] w (fun e w' => e = .returned (.tuple #[.string ⟨b.toArray⟩, .string ⟨r2.toArray⟩, .bool true]) ∧ Below w.heap.size w w') := fun w => by have := C1 w; rwa [cutVal_some g1] at this
        have hle := cutL_le g1
        have C2 := fun w => RCut_c ⟨r2.toArray⟩ w (by rw [size_mk]; omega)
        simp only at C2
        have BK := fun w => RBucket_c ⟨b.toArray⟩ w (by rw [size_mk]; omega)
        simp only at BK
        cases g2 : cutL r2 with
        | none =>
          have C2 : ∀ w, Calls Tryd.prog 25 #[.string ⟨r2.toArray⟩] w (fun e w' => e = .returned (.tuple #[.string ⟨#[]⟩, .string ⟨#[]⟩, .bool false]) ∧ Below w.heap.size w w') := fun w => by have := C2 w; rwa [cutVal_none g2] at this
          generalize (⟨r.toArray⟩ : ByteArray) = x at *
          generalize (⟨r2.toArray⟩ : ByteArray) = x2 at *
          generalize (⟨b.toArray⟩ : ByteArray) = xb at *
          have HC1 := Lib.hid C1
          have HC2 := Lib.hid C2
          clear C1 C2 g1 g2 BK hle
          go_enter Tryd.func68, Tryd.ntmps68
          go_wp2_with fail
          refine (HC1.out _).mono ?_
          rintro e w1 ⟨rfl, hb⟩
          have Hb1 := Lib.hid hb
          clear hb
          go_wp2_with fail
          refine (HC2.out _).mono ?_
          rintro e w2 ⟨rfl, hb⟩
          have Hb2 := Lib.hid ((Hb1.out).trans (hb.mono (Hb1.out).size))
          clear hb
          go_wp2_with fail
          (try simp only [Exit.inBlock, Exit.then])
          refine bodyPost_ret (results_tmp4 rfl _ _ _) rfl ?_
          exact ⟨rfl, Hb2.out⟩
        | some p =>
          obtain ⟨i, r3⟩ := p
          simp only
          have C2 : ∀ w, Calls Tryd.prog 25 #[.string ⟨r2.toArray⟩] w (fun e w' => e = .returned (.tuple #[.string ⟨i.toArray⟩, .string ⟨r3.toArray⟩, .bool true]) ∧ Below w.heap.size w w') := fun w => by have := C2 w; rwa [cutVal_some g2] at this
          have hle2 := cutL_le g2
          have IT := fun w => RItem_c ⟨i.toArray⟩ w (by rw [size_mk]; omega)
          simp only at IT
          have hz := size_mk r3
          have HV : Hid (bktB b = true ∧ itemB i = true ∧ r3.length = 8 → readV (if bktB b = true ∧ itemB i = true ∧ r3.length = 8 then some (b, i, r3) else none) = .tuple #[.string ⟨b.toArray⟩, .string ⟨i.toArray⟩, .string ⟨r3.toArray⟩, .bool true]) := Lib.hid (fun h => by rw [if_pos h]; rfl)
          have HN : Hid (¬ (bktB b = true ∧ itemB i = true ∧ r3.length = 8) → readV (if bktB b = true ∧ itemB i = true ∧ r3.length = 8 then some (b, i, r3) else none) = .tuple #[.string ⟨#[]⟩, .string ⟨#[]⟩, .string ⟨#[]⟩, .bool false]) := Lib.hid (fun h => by rw [if_neg h]; rfl)
          generalize readV (if bktB b = true ∧ itemB i = true ∧ r3.length = 8 then some (b, i, r3) else none) = q at *
          generalize (⟨r.toArray⟩ : ByteArray) = x at *
          generalize (⟨r2.toArray⟩ : ByteArray) = x2 at *
          generalize (⟨r3.toArray⟩ : ByteArray) = x3 at *
          generalize (⟨b.toArray⟩ : ByteArray) = xb at *
          generalize (⟨i.toArray⟩ : ByteArray) = xi at *
          have HC1 := Lib.hid C1
          have HC2 := Lib.hid C2
          have HBK := Lib.hid BK
          have HIT := Lib.hid IT
          clear C1 C2 g1 g2 BK hle hle2 IT
          have hcase : ∃ q1 q2 : Bool, bktB b = q1 ∧ itemB i = q2 := ⟨_, _, rfl, rfl⟩
          obtain ⟨q1', q2', e1, e2⟩ := hcase
          rw [e1] at HV HN HBK
          rw [e2] at HV HN HIT
          clear e1 e2
          cases q1'
          · have HE := Lib.hid (HN.out (by simp))
            clear HV HN
            go_enter Tryd.func68, Tryd.ntmps68
            go_wp2_with fail
            refine (HC1.out _).mono ?_
            rintro e w1 ⟨rfl, hb⟩
            have Hb1 := Lib.hid hb
            clear hb
            go_wp2_with fail
            refine (HC2.out _).mono ?_
            rintro e w2 ⟨rfl, hb⟩
            have Hb2 := Lib.hid ((Hb1.out).trans (hb.mono (Hb1.out).size))
            clear hb
            go_wp2_with fail
            refine (HBK.out _).mono ?_
            rintro e w3 ⟨rfl, rfl⟩
            go_wp2_with fail
            (try simp only [Exit.inBlock, Exit.then])
            refine bodyPost_ret (results_tmp4 rfl _ _ _) rfl ?_
            exact ⟨by rw [HE.out]; rfl, Hb2.out⟩
          · cases q2'
            · have HE := Lib.hid (HN.out (by simp))
              clear HV HN
              go_enter Tryd.func68, Tryd.ntmps68
              go_wp2_with fail
              refine (HC1.out _).mono ?_
              rintro e w1 ⟨rfl, hb⟩
              have Hb1 := Lib.hid hb
              clear hb
              go_wp2_with fail
              refine (HC2.out _).mono ?_
              rintro e w2 ⟨rfl, hb⟩
              have Hb2 := Lib.hid ((Hb1.out).trans (hb.mono (Hb1.out).size))
              clear hb
              go_wp2_with fail
              refine (HBK.out _).mono ?_
              rintro e w3 ⟨rfl, rfl⟩
              go_wp2_with fail
              refine (HIT.out _).mono ?_
              rintro e w4 ⟨rfl, hb⟩
              have Hb4 := Lib.hid ((Hb2.out).trans (hb.mono (Hb2.out).size))
              clear hb
              go_wp2_with fail
              (try simp only [Exit.inBlock, Exit.then])
              refine bodyPost_ret (results_tmp4 rfl _ _ _) rfl ?_
              exact ⟨by rw [HE.out]; rfl, Hb4.out⟩
            · by_cases h8 : x3.size = 8
              · have HE := Lib.hid (HV.out ⟨rfl, rfl, hz.symm.trans h8⟩)
                have z1 : ((x3.size : Int) == 8) = true := by simp; omega
                have z2 : ((x3.size : Int) != 8) = false := by simp; omega
                clear HV HN hz h8
                go_enter Tryd.func68, Tryd.ntmps68
                go_wp2_with fail
                refine (HC1.out _).mono ?_
                rintro e w1 ⟨rfl, hb⟩
                have Hb1 := Lib.hid hb
                clear hb
                go_wp2_with fail
                refine (HC2.out _).mono ?_
                rintro e w2 ⟨rfl, hb⟩
                have Hb2 := Lib.hid ((Hb1.out).trans (hb.mono (Hb1.out).size))
                clear hb
                go_wp2_with fail
                refine (HBK.out _).mono ?_
                rintro e w3 ⟨rfl, rfl⟩
                go_wp2_with fail
                refine (HIT.out _).mono ?_
                rintro e w4 ⟨rfl, hb⟩
                have Hb4 := Lib.hid ((Hb2.out).trans (hb.mono (Hb2.out).size))
                clear hb
                go_wp2_with fail
                (try simp only [Exit.inBlock, Exit.then])
                refine bodyPost_ret (results_tmp4 rfl _ _ _) rfl ?_
                exact ⟨by rw [HE.out]; rfl, Hb4.out⟩
              · have HE := Lib.hid (HN.out (by rintro ⟨_, _, h⟩; exact h8 (hz.trans h)))
                have z1 : ((x3.size : Int) == 8) = false := by simp; omega
                have z2 : ((x3.size : Int) != 8) = true := by simp; omega
                clear HV HN hz h8
                go_enter Tryd.func68, Tryd.ntmps68
                go_wp2_with fail
                refine (HC1.out _).mono ?_
                rintro e w1 ⟨rfl, hb⟩
                have Hb1 := Lib.hid hb
                clear hb
                go_wp2_with fail
                refine (HC2.out _).mono ?_
                rintro e w2 ⟨rfl, hb⟩
                have Hb2 := Lib.hid ((Hb1.out).trans (hb.mono (Hb1.out).size))
                clear hb
                go_wp2_with fail
                refine (HBK.out _).mono ?_
                rintro e w3 ⟨rfl, rfl⟩
                go_wp2_with fail
                refine (HIT.out _).mono ?_
                rintro e w4 ⟨rfl, hb⟩
                have Hb4 := Lib.hid ((Hb2.out).trans (hb.mono (Hb2.out).size))
                clear hb
                go_wp2_with fail
                (try simp only [Exit.inBlock, Exit.then])
                refine bodyPost_ret (results_tmp4 rfl _ _ _) rfl ?_
                exact ⟨by rw [HE.out]; rfl, Hb4.out⟩
    · have hcn : ¬ ((c.toNat : Int) = (k.toNat : Int)) := fun h => hc (UInt8.toNat_inj.1 (Int.ofNat_inj.1 h))
      have q1 : ((c.toNat : Int) == (k.toNat : Int)) = false := by simpa using hcn
      have q2 : ((c.toNat : Int) != (k.toNat : Int)) = true := by simp [bne, q1]
      rw [if_neg hc]
      clear hc hcn
      go_enter Tryd.func68, Tryd.ntmps68
      go_wp2_with fail
      (try simp only [Exit.inBlock, Exit.then])
      refine bodyPost_ret (results_tmp4 rfl _ _ _) rfl ?_
      exact ⟨rfl, Below.refl _ _⟩
theorem RReadVersion_c (s : ByteArray) (w : World) (hs : s.size ≤ 1000000) :
    Calls Tryd.prog 47 #[.string s] w fun e w' => e = .returned (readNV (readK 118 s.data.toList) fellL) ∧ Below w.heap.size w w' := by
  have R : Calls Tryd.prog 68 #[.int .u8 118, .string s] w (fun e w' => e = .returned (readV (readK 118 s.data.toList)) ∧ Below w.heap.size w w') := Rread_c 118 s w hs
  cases hq : readK 118 s.data.toList with
  | none =>
    rw [hq] at R
    simp only [readV, readNV] at R ⊢
    clear hq
    go_enter Tryd.func47, Tryd.ntmps47
    go_wp2_with fail
    refine R.mono ?_
    rintro e w1 ⟨rfl, hb⟩
    have Hb := Lib.hid hb
    clear hb R
    go_wp2_with fail
    (try simp only [Exit.inBlock, Exit.then])
    refine bodyPost_ret (results_tmp4 rfl _ _ _) rfl ?_
    exact ⟨rfl, Hb.out⟩
  | some p =>
    obtain ⟨b, i, r⟩ := p
    have h8 := readK_len hq
    rw [hq] at R
    simp only [readV, readNV] at R ⊢
    have hlt : toldN 0 r < 18446744073709551616 := toldN_lt 0 (by decide) r
    have F : ∀ w, Calls Tryd.prog 62 #[.string ⟨r.toArray⟩] w (fun e w' => e = .returned (.int .u64 (toldN 0 r)) ∧ w = w') := fun w => RTold_c ⟨r.toArray⟩ w (by rw [size_mk]; omega)
    unfold fellL
    have hw : IntKind.u64.wrap (18446744073709551615 - (toldN 0 r : Int)) = ((18446744073709551615 - toldN 0 r : Nat) : Int) := by simp only [IntKind.wrap, IntKind.bits, IntKind.signed]; simp; omega
    have hw2 : (18446744073709551615 - (toldN 0 r : Int)) % 18446744073709551616 = ((18446744073709551615 - toldN 0 r : Nat) : Int) := by omega
    have hw3 : (18446744073709551615 - (toldN 0 r : Int)) = ((18446744073709551615 - toldN 0 r : Nat) : Int) := by omega
    generalize toldN 0 r = n at *
    generalize (⟨r.toArray⟩ : ByteArray) = x at *
    have HF := Lib.hid F
    clear hq h8 F
    go_enter Tryd.func47, Tryd.ntmps47
    go_wp2_with fail
    refine R.mono ?_
    rintro e w1 ⟨rfl, hb⟩
    have Hb := Lib.hid hb
    clear hb R
    go_wp2_with fail
    refine (HF.out _).mono ?_
    rintro e w2 ⟨rfl, rfl⟩
    go_wp2_with fail
    (try simp only [Exit.inBlock, Exit.then])
    refine bodyPost_ret (results_tmp4 rfl _ _ _) rfl ?_
    exact ⟨rfl, Hb.out⟩
theorem RReadUpload_c (s : ByteArray) (w : World) (hs : s.size ≤ 1000000) :
    Calls Tryd.prog 48 #[.string s] w fun e w' => e = .returned (readNV (readK 117 s.data.toList) (toldN 0)) ∧ Below w.heap.size w w' := by
  have R : Calls Tryd.prog 68 #[.int .u8 117, .string s] w (fun e w' => e = .returned (readV (readK 117 s.data.toList)) ∧ Below w.heap.size w w') := Rread_c 117 s w hs
  cases hq : readK 117 s.data.toList with
  | none =>
    rw [hq] at R
    simp only [readV, readNV] at R ⊢
    clear hq
    go_enter Tryd.func48, Tryd.ntmps48
    go_wp2_with fail
    refine R.mono ?_
    rintro e w1 ⟨rfl, hb⟩
    have Hb := Lib.hid hb
    clear hb R
    go_wp2_with fail
    (try simp only [Exit.inBlock, Exit.then])
    refine bodyPost_ret (results_tmp4 rfl _ _ _) rfl ?_
    exact ⟨rfl, Hb.out⟩
  | some p =>
    obtain ⟨b, i, r⟩ := p
    have h8 := readK_len hq
    rw [hq] at R
    simp only [readV, readNV] at R ⊢
    have hlt : toldN 0 r < 18446744073709551616 := toldN_lt 0 (by decide) r
    have F : ∀ w, Calls Tryd.prog 62 #[.string ⟨r.toArray⟩] w (fun e w' => e = .returned (.int .u64 (toldN 0 r)) ∧ w = w') := fun w => RTold_c ⟨r.toArray⟩ w (by rw [size_mk]; omega)
    generalize toldN 0 r = n at *
    generalize (⟨r.toArray⟩ : ByteArray) = x at *
    have HF := Lib.hid F
    clear hq h8 F
    go_enter Tryd.func48, Tryd.ntmps48
    go_wp2_with fail
    refine R.mono ?_
    rintro e w1 ⟨rfl, hb⟩
    have Hb := Lib.hid hb
    clear hb R
    go_wp2_with fail
    refine (HF.out _).mono ?_
    rintro e w2 ⟨rfl, rfl⟩
    go_wp2_with fail
    (try simp only [Exit.inBlock, Exit.then])
    refine bodyPost_ret (results_tmp4 rfl _ _ _) rfl ?_
    exact ⟨rfl, Hb.out⟩
theorem RPartKey_no (n : Nat) (p : Int) (w : World) (hp : p < 0 ∨ 255 < p) :
    Calls Tryd.prog 34 #[.int .u64 n, .int .i64 p] w fun e w' => e = .returned (.string ⟨(partKeyL n p).toArray⟩) ∧ Below w.heap.size w w' := by
  have HE := Lib.hid (show partKeyL n p = [] by unfold partKeyL; rw [if_pos hp])
  by_cases h1 : p < 0
  · clear hp
    go_enter Tryd.func34, Tryd.ntmps34
    go_wp2_with fail
    go_ret
    exact ⟨by rw [HE.out]; rfl, Below.refl _ _⟩
  · have h2 : 255 < p := by omega
    clear hp
    go_enter Tryd.func34, Tryd.ntmps34
    go_wp2_with fail
    go_ret
    exact ⟨by rw [HE.out]; rfl, Below.refl _ _⟩
theorem numRA (n : Nat) (c : UInt8) (x : ByteArray) (w : World) (h : ∀ w, Calls Tryd.prog 58 #[.int .u64 n, .int .i64 8] w (fun e w' => e = .returned (.string x) ∧ Below w.heap.size w w')) :
    Calls Tryd.prog 58 #[.int .u64 n, .int .i64 8] ((w.alloc (.cells #[.int .u8 (c.toNat : Int)] 5)).drew) fun e w' => e = .returned (.string x) ∧ Hid (Below w.heap.size w w') ∧ w'.cell? ⟨w.heap.size, 0, none⟩ = some (.int .u8 (c.toNat : Int)) := by
  refine (h _).mono ?_
  rintro e w' ⟨rfl, hb⟩
  refine ⟨rfl, Lib.hid ((((Below.refl w.heap.size w).alloc (Nat.le_refl _) (.cells #[.int .u8 (c.toNat : Int)] 5)).drew).trans (hb.mono (by simp))), ?_⟩
  rw [hb.cell (p := ⟨w.heap.size, 0, none⟩) (by simp), World.cell?_drew]
  exact cell_lit (heap_alloc_new _ _) rfl
theorem numRB (n : Nat) (x : ByteArray) (w : World) (h : ∀ w, Calls Tryd.prog 58 #[.int .u64 n, .int .i64 8] w (fun e w' => e = .returned (.string x) ∧ Below w.heap.size w w')) :
    Calls Tryd.prog 58 #[.int .u64 n, .int .i64 8] w.drew fun e w' => e = .returned (.string x) ∧ Hid (Below w.heap.size w w') := by
  refine (h _).mono ?_
  rintro e w' ⟨rfl, hb⟩
  exact ⟨rfl, Lib.hid (((Below.refl w.heap.size w).drew).trans hb)⟩
theorem RPartKey_yes (n : Nat) (c : UInt8) (w : World) (hn : n < 18446744073709551616) :
    Calls Tryd.prog 34 #[.int .u64 n, .int .i64 c.toNat] w fun e w' => e = .returned (.string ⟨(partKeyL n c.toNat).toArray⟩) ∧ Below w.heap.size w w' := by
  have hc := c.toNat_lt
  have HE := Lib.hid (show partKeyL n c.toNat = 112 :: (be n 8 ++ [c]) by unfold partKeyL; rw [if_neg (by omega)]; simp)
  have HJ := Lib.hid (show (⟨#[112]⟩ : ByteArray) ++ ⟨(be n 8).toArray⟩ ++ one c = ⟨(112 :: (be n 8 ++ [c])).toArray⟩ by
    rw [show (⟨#[112]⟩ : ByteArray) = ⟨[112].toArray⟩ from rfl, cat_mk, show one c = ⟨[c].toArray⟩ from rfl, cat_mk]; simp)
  have NC : ∀ w, Calls Tryd.prog 58 #[.int .u64 n, .int .i64 8] w (fun e w' => e = .returned (.string ⟨(be n 8).toArray⟩) ∧ Below w.heap.size w w') := fun w => RNumber_c n 8 w hn (by decide)
  have hx : (⟨(be n 8).toArray⟩ : ByteArray).size = 8 := by rw [size_mk, be_length]
  generalize (⟨(be n 8).toArray⟩ : ByteArray) = x at *
  have HN := Lib.hid NC
  have hcv := fun g W h => conv_one c g W h
  have k3 : (c.toNat : Int) % 256 = c.toNat := by omega
  have k1 : IntKind.u8.wrap (c.toNat : Int) = c.toNat := by simp only [IntKind.wrap, IntKind.bits, IntKind.signed]; simp; omega
  have hz : (one c).size = 1 := rfl
  generalize one c = y at *
  clear hn NC
  go_enter Tryd.func34, Tryd.ntmps34
  go_wp2_with fail
  go_region_with ((first
    | (go_at_call 58; (with_reducible refine (numRA n c x w HN.out).mono ?_); rintro e w1 ⟨rfl, hb, hcc⟩)
    | (go_at_call 58; (with_reducible refine (numRB n x w HN.out).mono ?_); rintro e w1 ⟨rfl, hb⟩)))
  all_goals
    go_wp2_with fail
    go_ret
    first
      | exact ⟨ret_str (by rw [HE.out]; exact HJ.out), hb.out⟩
      | exact ⟨ret_str (by rw [HE.out]; exact HJ.out), (hb.out).alloc (hb.out).size _⟩
theorem RPartKey_c (n : Nat) (p : Int) (w : World) (hn : n < 18446744073709551616) :
    Calls Tryd.prog 34 #[.int .u64 n, .int .i64 p] w fun e w' => e = .returned (.string ⟨(partKeyL n p).toArray⟩) ∧ Below w.heap.size w w' := by
  by_cases h : p < 0 ∨ 255 < p
  · exact RPartKey_no n p w h
  · have := RPartKey_yes n (UInt8.ofNat p.toNat) w hn
    have e : ((UInt8.ofNat p.toNat).toNat : Int) = p := by rw [UInt8.toNat_ofNat']; omega
    rwa [e] at this
theorem RBehind_c (s : ByteArray) (w : World) (hs : s.size ≤ 1000000) :
    Calls Tryd.prog 35 #[.string s] w fun e w' => e = .returned (.string ⟨(behindL s.data.toList).toArray⟩) ∧ Below w.heap.size w w' := by
  have hl := Lib.size_eq s
  have R0 : Hid (BhRel w s.data.toList s.data.toList.length (.string s) w) := Lib.hid ⟨s.data.toList.reverse, by simp, by rw [List.reverse_reverse, mk_data], rfl, by simp, rfl⟩
  generalize s.data.toList = l at *
  rw [hl] at hs
  clear hl
  go_enter Tryd.func35, Tryd.ntmps35
  go_wp2_with fail
  go_loopg [0] l.length (fun g s0 wr => BhRel w l g s0 wr)
  case atStart => exact R0.out
  case round =>
    obtain ⟨r, rfl, rfl, hb, hle, rfl⟩ := hrel
    clear R0
    cases r with
    | nil =>
      have HE := Lib.hid (show behindL l = [] from hb)
      clear hb
      go_wp2_with fail
      go_ret
      exact ⟨by rw [HE.out]; rfl, Below.refl _ _⟩
    | cons c r =>
      obtain ⟨e1, e2, e3⟩ := behind_mk r c
      have hidx := fun w => run_index_str (P := Tryd.prog) _ _ r.length c Tryd.underlying9 e2 w
      simp only [List.length_cons] at hle ⊢
      have HB := Lib.hid hb
      have hr : r.length ≤ 1000000 := by omega
      generalize (⟨(c :: r).reverse.toArray⟩ : ByteArray) = S at *
      have hc := c.toNat_lt
      obtain ⟨z, hsl⟩ : ∃ z, S.extract 0 r.length = z := ⟨_, rfl⟩
      rw [hsl] at e3
      have hz2 : z.size = r.length := by rw [e3, size_mk]; simp
      have hcn : c = 255 ∨ c.toNat < 255 := by
        by_cases h : c.toNat < 255
        · exact .inr h
        · exact .inl (UInt8.toNat_inj.1 (by show c.toNat = 255; omega))
      rcases hcn with h255 | h255
      · have q1 : ¬ (c.toNat < 255) := by rw [h255]; decide
        have HE := Lib.hid (show behindL l = behindR r by rw [hb, h255]; rfl)
        have HX := Lib.hid e3
        clear hb e2 h255 e3
        go_wp2_with fail
        go_roundg r.length
        case measure => simp
        case rel => exact ⟨r, rfl, by rw [HX.out], HE.out, by omega, rfl⟩
      · have hne : ¬ c = 255 := by intro e; subst e; revert h255; decide
        obtain ⟨d, hd⟩ : ∃ d : UInt8, d = c + 1 := ⟨_, rfl⟩
        have hdn : d.toNat = c.toNat + 1 := by rw [hd, UInt8.toNat_add]; show (c.toNat + 1) % 256 = _; omega
        have HE := Lib.hid (show behindL l = r.reverse ++ [d] by rw [hb, hd]; show (if c = 255 then _ else _) = _; rw [if_neg hne])
        have HX := Lib.hid (show z ++ one d = ⟨(r.reverse ++ [d]).toArray⟩ by rw [e3, show one d = ⟨[d].toArray⟩ from rfl, cat_mk])
        have k1 : IntKind.u8.wrap ((c.toNat : Int) + 1) = d.toNat := by rw [hdn]; simp only [IntKind.wrap, IntKind.bits, IntKind.signed]; simp; omega
        have k2 : ((c.toNat : Int) + 1) % 256 = d.toNat := by rw [hdn]; omega
        have k4 : ((c.toNat : Int) + 1) = d.toNat := by rw [hdn]; omega
        have hcv := fun g W h => conv_one d g W h
        have hz : (one d).size = 1 := rfl
        have ha1 : (z.size + (one d).size > 9223372036854775807) = False := eq_false (by rw [hz, hz2]; omega)
        have ha2 : (9223372036854775807 < z.size + (one d).size) = False := eq_false (by rw [hz, hz2]; omega)
        generalize one d = y at *
        clear hb e2 e3 hne hd hdn hz hz2
        go_wp2_with fail
        go_ret
        exact ⟨ret_str (by rw [HE.out]; exact HX.out), (Below.refl w.heap.size w).alloc (Nat.le_refl _) _⟩
end Go.Proofs.YtoblhikablbapaaDoor
