/- name: what is read of a key; PartKey, Behind: walks. -/
import Derived.Test.YtoblhikablbapaaDoorNameB
namespace Go.Proofs.YtoblhikablbapaaDoor
set_option linter.unusedVariables false
set_option maxRecDepth 100000
set_option maxHeartbeats 2000000
open Go.RowKit
def readV (o : Option (List UInt8 × List UInt8 × List UInt8)) : Value := match o with
  | none => .tuple #[.string ⟨#[]⟩, .string ⟨#[]⟩, .string ⟨#[]⟩, .bool false]
  | some (b, i, r) => .tuple #[.string ⟨b.toArray⟩, .string ⟨i.toArray⟩, .string ⟨r.toArray⟩, .bool true]
theorem readK_no {k : UInt8} {l : List UInt8} (h : Lib.hasPrefix l [k] = false) : readK k l = none := by
  cases l with
  | nil => rfl
  | cons c r =>
    have : ¬ c = k := by intro e; subst e; simp [Lib.hasPrefix] at h
    show (if c = k then _ else none) = none
    rw [if_neg this]
theorem readK_yes {k : UInt8} {l : List UInt8} (h : Lib.hasPrefix l [k] = true) : ∃ r, l = k :: r ∧ Lib.trimPrefix l [k] = r ∧ readK k l = (match cutL r with
    | none => none
    | some (b, r2) => match cutL r2 with
      | none => none
      | some (i, r3) => if bktB b = true ∧ itemB i = true ∧ r3.length = 8 then some (b, i, r3) else none) := by
  cases l with
  | nil => simp [Lib.hasPrefix] at h
  | cons c r =>
    have e : c = k := by
      have h2 := h
      simp [Lib.hasPrefix] at h2
      exact h2.symm
    subst e
    refine ⟨r, rfl, by unfold Lib.trimPrefix; rw [if_pos h]; rfl, ?_⟩
    show (if c = c then _ else none) = _
    rw [if_pos rfl]
    rfl
theorem cutL_le {l a r : List UInt8} (h : cutL l = some (a, r)) : a.length + r.length < l.length := by
  rw [(cutL_some h).1]; simp
theorem readV_none {o : Option (List UInt8 × List UInt8 × List UInt8)} (h : o = none) : readV o = .tuple #[.string ⟨#[]⟩, .string ⟨#[]⟩, .string ⟨#[]⟩, .bool false] := by rw [h]; rfl
theorem read_c (k : UInt8) (s : ByteArray) (w : World) (hs : s.size ≤ 1000000) :
    Calls Tryd.prog 67 #[.string ⟨#[k]⟩, .string s] w fun e w' => e = .returned (readV (readK k s.data.toList)) ∧ Below w.heap.size w w' := by
  have CP := Tryd.strings_CutPrefix s ⟨#[k]⟩ w
  have hl := Lib.size_eq s
  rw [show (⟨#[k]⟩ : ByteArray).data.toList = [k] from rfl] at CP
  cases hp : Lib.hasPrefix s.data.toList [k]
  · have HE := Lib.hid (readV_none (readK_no hp))
    rw [hp] at CP
    clear hp hl
    go_enter Tryd.func67, Tryd.ntmps67
    go_wp2_with fail
    refine CP.mono ?_
    rintro e w1 ⟨rfl, hw⟩
    subst hw
    clear CP
    go_wp2_with fail
    (try simp only [Exit.inBlock, Exit.then])
    refine bodyPost_ret (results_tmp4 rfl _ _ _) rfl ?_
    exact ⟨by rw [HE.out]; rfl, Below.refl _ _⟩
  · obtain ⟨r, h1, h2, h3⟩ := readK_yes hp
    rw [hp, h2] at CP
    have hr : r.length ≤ 1000000 := by rw [h1] at hl; simp at hl; omega
    have C1 := fun w => Cut_c ⟨r.toArray⟩ w (by rw [size_mk]; omega)
    simp only at C1
    generalize hq : readK k s.data.toList = q at *
    clear hq hp h1 h2 hl
    cases g1 : cutL r with
    | none =>
      rw [g1] at h3
      have HE := Lib.hid (readV_none h3)
      have C1 : ∀ w, Calls Tryd.prog 26 #[.string ⟨r.toArray⟩] w (fun e w' => e = .returned (.tuple #[.string ⟨#[]⟩, .string ⟨#[]⟩, .bool false]) ∧ Below w.heap.size w w') := fun w => by have := C1 w; rwa [cutVal_none g1] at this
      generalize (⟨r.toArray⟩ : ByteArray) = x at *
      have HC1 := Lib.hid C1
      clear C1 g1 h3
      go_enter Tryd.func67, Tryd.ntmps67
      go_wp2_with fail
      refine CP.mono ?_
      rintro e w1 ⟨rfl, hw⟩
      subst hw
      clear CP
      go_wp2_with fail
      refine (HC1.out _).mono ?_
      rintro e w2 ⟨rfl, hb⟩
      have Hb := Lib.hid hb
      clear hb
      go_wp2_with fail
      (try simp only [Exit.inBlock, Exit.then])
      refine bodyPost_ret (results_tmp4 rfl _ _ _) rfl ?_
      exact ⟨by rw [HE.out]; rfl, Hb.out⟩
    | some p =>
      obtain ⟨b, r2⟩ := p
      rw [g1] at h3
      simp only at h3
      have C1 : ∀ w, Calls Tryd.prog 26 #[.string ⟨r.toArray⟩] w (fun e w' => e = .returned (.tuple #[.string ⟨b.toArray⟩, .string ⟨r2.toArray⟩, .bool true]) ∧ Below w.heap.size w w') := fun w => by have := C1 w; rwa [cutVal_some g1] at this
      have hle := cutL_le g1
      have C2 := fun w => Cut_c ⟨r2.toArray⟩ w (by rw [size_mk]; omega)
      simp only at C2
      have BK := fun w => Bucket_c ⟨b.toArray⟩ w (by rw [size_mk]; omega)
      simp only at BK
      cases g2 : cutL r2 with
      | none =>
        rw [g2] at h3
        have HE := Lib.hid (readV_none h3)
        have C2 : ∀ w, Calls Tryd.prog 26 #[.string ⟨r2.toArray⟩] w (fun e w' => e = .returned (.tuple #[.string ⟨#[]⟩, .string ⟨#[]⟩, .bool false]) ∧ Below w.heap.size w w') := fun w => by have := C2 w; rwa [cutVal_none g2] at this
        generalize (⟨r.toArray⟩ : ByteArray) = x at *
        generalize (⟨r2.toArray⟩ : ByteArray) = x2 at *
        generalize (⟨b.toArray⟩ : ByteArray) = xb at *
        have HC1 := Lib.hid C1
        have HC2 := Lib.hid C2
        clear C1 C2 g1 g2 h3 BK hle
        go_enter Tryd.func67, Tryd.ntmps67
        go_wp2_with fail
        refine CP.mono ?_
        rintro e w1 ⟨rfl, hw⟩
        subst hw
        clear CP
        go_wp2_with fail
        refine (HC1.out _).mono ?_
        rintro e w2 ⟨rfl, hb⟩
        have Hb := Lib.hid hb
        clear hb
        go_wp2_with fail
        refine (HC2.out _).mono ?_
        rintro e w3 ⟨rfl, hb⟩
        have Hb2 := Lib.hid ((Hb.out).trans (hb.mono (Hb.out).size))
        clear hb
        go_wp2_with fail
        (try simp only [Exit.inBlock, Exit.then])
        refine bodyPost_ret (results_tmp4 rfl _ _ _) rfl ?_
        exact ⟨by rw [HE.out]; rfl, Hb2.out⟩
      | some p =>
        obtain ⟨i, r3⟩ := p
        rw [g2] at h3
        simp only at h3
        have C2 : ∀ w, Calls Tryd.prog 26 #[.string ⟨r2.toArray⟩] w (fun e w' => e = .returned (.tuple #[.string ⟨i.toArray⟩, .string ⟨r3.toArray⟩, .bool true]) ∧ Below w.heap.size w w') := fun w => by have := C2 w; rwa [cutVal_some g2] at this
        have IT := fun w => Item_c ⟨i.toArray⟩ w
        simp only at IT
        have hz := size_mk r3
        have HV : Hid (bktB b = true ∧ itemB i = true ∧ r3.length = 8 → readV q = .tuple #[.string ⟨b.toArray⟩, .string ⟨i.toArray⟩, .string ⟨r3.toArray⟩, .bool true]) := Lib.hid (fun h => by rw [h3, if_pos h]; rfl)
        have HN : Hid (¬ (bktB b = true ∧ itemB i = true ∧ r3.length = 8) → readV q = .tuple #[.string ⟨#[]⟩, .string ⟨#[]⟩, .string ⟨#[]⟩, .bool false]) := Lib.hid (fun h => by rw [h3, if_neg h]; rfl)
        generalize (⟨r.toArray⟩ : ByteArray) = x at *
        generalize (⟨r2.toArray⟩ : ByteArray) = x2 at *
        generalize (⟨r3.toArray⟩ : ByteArray) = x3 at *
        generalize (⟨b.toArray⟩ : ByteArray) = xb at *
        generalize (⟨i.toArray⟩ : ByteArray) = xi at *
        have HC1 := Lib.hid C1
        have HC2 := Lib.hid C2
        have HBK := Lib.hid BK
        have HIT := Lib.hid IT
        clear C1 C2 g1 g2 h3 BK hle IT
        have hcase : ∃ q1 q2 : Bool, bktB b = q1 ∧ itemB i = q2 := ⟨_, _, rfl, rfl⟩
        obtain ⟨q1, q2, e1, e2⟩ := hcase
        rw [e1] at HV HN HBK
        rw [e2] at HV HN HIT
        clear e1 e2
        cases q1
        · have HE := Lib.hid (HN.out (by simp))
          clear HV HN
          go_enter Tryd.func67, Tryd.ntmps67
          go_wp2_with fail
          refine CP.mono ?_
          rintro e w1 ⟨rfl, hw⟩
          subst hw
          clear CP
          go_wp2_with fail
          refine (HC1.out _).mono ?_
          rintro e w2 ⟨rfl, hb⟩
          have Hb := Lib.hid hb
          clear hb
          go_wp2_with fail
          refine (HC2.out _).mono ?_
          rintro e w3 ⟨rfl, hb⟩
          have Hb2 := Lib.hid ((Hb.out).trans (hb.mono (Hb.out).size))
          clear hb
          go_wp2_with fail
          refine (HBK.out _).mono ?_
          rintro e w4 ⟨rfl, hb⟩
          have Hb3 := Lib.hid ((Hb2.out).trans (hb.mono (Hb2.out).size))
          clear hb
          go_wp2_with fail
          (try simp only [Exit.inBlock, Exit.then])
          refine bodyPost_ret (results_tmp4 rfl _ _ _) rfl ?_
          exact ⟨by rw [HE.out]; rfl, Hb3.out⟩
        · cases q2
          · have HE := Lib.hid (HN.out (by simp))
            clear HV HN
            go_enter Tryd.func67, Tryd.ntmps67
            go_wp2_with fail
            refine CP.mono ?_
            rintro e w1 ⟨rfl, hw⟩
            subst hw
            clear CP
            go_wp2_with fail
            refine (HC1.out _).mono ?_
            rintro e w2 ⟨rfl, hb⟩
            have Hb := Lib.hid hb
            clear hb
            go_wp2_with fail
            refine (HC2.out _).mono ?_
            rintro e w3 ⟨rfl, hb⟩
            have Hb2 := Lib.hid ((Hb.out).trans (hb.mono (Hb.out).size))
            clear hb
            go_wp2_with fail
            refine (HBK.out _).mono ?_
            rintro e w4 ⟨rfl, hb⟩
            have Hb3 := Lib.hid ((Hb2.out).trans (hb.mono (Hb2.out).size))
            clear hb
            go_wp2_with fail
            refine (HIT.out _).mono ?_
            rintro e w5 ⟨rfl, rfl⟩
            go_wp2_with fail
            (try simp only [Exit.inBlock, Exit.then])
            refine bodyPost_ret (results_tmp4 rfl _ _ _) rfl ?_
            exact ⟨by rw [HE.out]; rfl, Hb3.out⟩
          · by_cases h8 : x3.size = 8
            · have HE := Lib.hid (HV.out ⟨rfl, rfl, hz.symm.trans h8⟩)
              have z1 : ((x3.size : Int) == 8) = true := by simp; omega
              have z2 : ((x3.size : Int) != 8) = false := by simp; omega
              clear HV HN hz h8
              go_enter Tryd.func67, Tryd.ntmps67
              go_wp2_with fail
              refine CP.mono ?_
              rintro e w1 ⟨rfl, hw⟩
              subst hw
              clear CP
              go_wp2_with fail
              refine (HC1.out _).mono ?_
              rintro e w2 ⟨rfl, hb⟩
              have Hb := Lib.hid hb
              clear hb
              go_wp2_with fail
              refine (HC2.out _).mono ?_
              rintro e w3 ⟨rfl, hb⟩
              have Hb2 := Lib.hid ((Hb.out).trans (hb.mono (Hb.out).size))
              clear hb
              go_wp2_with fail
              refine (HBK.out _).mono ?_
              rintro e w4 ⟨rfl, hb⟩
              have Hb3 := Lib.hid ((Hb2.out).trans (hb.mono (Hb2.out).size))
              clear hb
              go_wp2_with fail
              refine (HIT.out _).mono ?_
              rintro e w5 ⟨rfl, rfl⟩
              go_wp2_with fail
              (try simp only [Exit.inBlock, Exit.then])
              refine bodyPost_ret (results_tmp4 rfl _ _ _) rfl ?_
              exact ⟨by rw [HE.out]; rfl, Hb3.out⟩
            · have HE := Lib.hid (HN.out (by rintro ⟨_, _, h⟩; exact h8 (hz.trans h)))
              have z1 : ((x3.size : Int) == 8) = false := by simp; omega
              have z2 : ((x3.size : Int) != 8) = true := by simp; omega
              clear HV HN hz h8
              go_enter Tryd.func67, Tryd.ntmps67
              go_wp2_with fail
              refine CP.mono ?_
              rintro e w1 ⟨rfl, hw⟩
              subst hw
              clear CP
              go_wp2_with fail
              refine (HC1.out _).mono ?_
              rintro e w2 ⟨rfl, hb⟩
              have Hb := Lib.hid hb
              clear hb
              go_wp2_with fail
              refine (HC2.out _).mono ?_
              rintro e w3 ⟨rfl, hb⟩
              have Hb2 := Lib.hid ((Hb.out).trans (hb.mono (Hb.out).size))
              clear hb
              go_wp2_with fail
              refine (HBK.out _).mono ?_
              rintro e w4 ⟨rfl, hb⟩
              have Hb3 := Lib.hid ((Hb2.out).trans (hb.mono (Hb2.out).size))
              clear hb
              go_wp2_with fail
              refine (HIT.out _).mono ?_
              rintro e w5 ⟨rfl, rfl⟩
              go_wp2_with fail
              (try simp only [Exit.inBlock, Exit.then])
              refine bodyPost_ret (results_tmp4 rfl _ _ _) rfl ?_
              exact ⟨by rw [HE.out]; rfl, Hb3.out⟩
def readNV (o : Option (List UInt8 × List UInt8 × List UInt8)) (f : List UInt8 → Nat) : Value := match o with
  | none => .tuple #[.string ⟨#[]⟩, .string ⟨#[]⟩, .int .u64 0, .bool false]
  | some (b, i, r) => .tuple #[.string ⟨b.toArray⟩, .string ⟨i.toArray⟩, .int .u64 (f r), .bool true]
def fellL (r : List UInt8) : Nat := 18446744073709551615 - toldN 0 r
theorem readK_len {k : UInt8} {l b i r : List UInt8} (h : readK k l = some (b, i, r)) : r.length = 8 := (key_read h).2.2.1
theorem ReadVersion_c (s : ByteArray) (w : World) (hs : s.size ≤ 1000000) :
    Calls Tryd.prog 45 #[.string s] w fun e w' => e = .returned (readNV (readK 118 s.data.toList) fellL) ∧ Below w.heap.size w w' := by
  have R := read_c 118 s w hs
  cases hq : readK 118 s.data.toList with
  | none =>
    rw [hq] at R
    simp only [readV, readNV] at R ⊢
    clear hq
    go_enter Tryd.func45, Tryd.ntmps45
    go_wp2_with fail
    refine R.mono ?_
    rintro e w1 ⟨rfl, hb⟩
    have Hb := Lib.hid hb
    clear hb R
    go_wp2_with fail
    (try simp only [Exit.inBlock, Exit.then])
    refine bodyPost_ret (results_tmp4 rfl _ _ _) rfl ?_
    exact ⟨rfl, Hb.out⟩
  | some p =>
    obtain ⟨b, i, r⟩ := p
    have h8 := readK_len hq
    rw [hq] at R
    simp only [readV, readNV] at R ⊢
    have F : ∀ w, Calls Tryd.prog 23 #[.string ⟨r.toArray⟩] w (fun e w' => e = .returned (.tuple #[.int .u64 (fellL r), .bool true]) ∧ Below w.heap.size w w') := fun w => Fell_yes ⟨r.toArray⟩ w (by rw [size_mk]; exact h8)
    generalize fellL r = n at *
    generalize (⟨r.toArray⟩ : ByteArray) = x at *
    have HF := Lib.hid F
    clear hq h8 F
    go_enter Tryd.func45, Tryd.ntmps45
    go_wp2_with fail
    refine R.mono ?_
    rintro e w1 ⟨rfl, hb⟩
    have Hb := Lib.hid hb
    clear hb R
    go_wp2_with fail
    refine (HF.out _).mono ?_
    rintro e w2 ⟨rfl, hb⟩
    have Hb2 := Lib.hid ((Hb.out).trans (hb.mono (Hb.out).size))
    clear hb
    go_wp2_with fail
    (try simp only [Exit.inBlock, Exit.then])
    refine bodyPost_ret (results_tmp4 rfl _ _ _) rfl ?_
    exact ⟨rfl, Hb2.out⟩
theorem read_n {r : List UInt8} (h : r.length = 8) : readF [110] ⟨r.toArray⟩ = some [(toldN 0 r, ⟨#[]⟩)] := by
  have hz : (⟨r.toArray⟩ : ByteArray).size = 8 := by rw [size_mk]; exact h
  unfold readF
  rw [if_pos (show rightL [110] = true from rfl)]
  show (match rd1 110 ⟨r.toArray⟩ with | none => none | some p => (readL [] p.2).map (p.1 :: ·)) = _
  rw [rd1_num 110 8 _ rfl rfl, if_neg (by omega)]
  have e1 : (⟨r.toArray⟩ : ByteArray).extract 0 8 = ⟨r.toArray⟩ := by rw [extract_take]; simp [← h]
  have e2 : (⟨r.toArray⟩ : ByteArray).extract 8 (⟨r.toArray⟩ : ByteArray).size = ⟨#[]⟩ := by rw [extract_drop]; simp [← h]
  rw [e1, e2]
  show Option.map _ (if (⟨#[]⟩ : ByteArray).toList = [] then some [] else none) = _
  rw [if_pos (by rw [Lib.toList_data])]
  rfl
theorem ReadUpload_c (s : ByteArray) (w : World) (hs : s.size ≤ 1000000) :
    Calls Tryd.prog 46 #[.string s] w fun e w' => e = .returned (readNV (readK 117 s.data.toList) (toldN 0)) ∧ Below w.heap.size w w' := by
  have R := read_c 117 s w hs
  cases hq : readK 117 s.data.toList with
  | none =>
    rw [hq] at R
    simp only [readV, readNV] at R ⊢
    clear hq
    go_enter Tryd.func46, Tryd.ntmps46
    go_wp2_with fail
    refine R.mono ?_
    rintro e w1 ⟨rfl, hb⟩
    have Hb := Lib.hid hb
    clear hb R
    go_wp2_with fail
    (try simp only [Exit.inBlock, Exit.then])
    refine bodyPost_ret (results_tmp4 rfl _ _ _) rfl ?_
    exact ⟨rfl, Hb.out⟩
  | some p =>
    obtain ⟨b, i, r⟩ := p
    have h8 := readK_len hq
    rw [hq] at R
    simp only [readV, readNV] at R ⊢
    have hlt : toldN 0 r < 18446744073709551616 := toldN_lt 0 (by decide) r
    have F : ∀ w, Calls Tryd.prog 19 #[.string ⟨#[110]⟩, .string ⟨r.toArray⟩] w (RdPost w (some [(toldN 0 r, ⟨#[]⟩)])) := fun w => by
      have := Read_c ⟨#[110]⟩ ⟨r.toArray⟩ w (by decide) (by rw [size_mk]; omega)
      rwa [show (⟨#[110]⟩ : ByteArray).data.toList = [110] from rfl, read_n h8] at this
    generalize toldN 0 r = n at *
    generalize (⟨r.toArray⟩ : ByteArray) = x at *
    have HF := Lib.hid F
    clear hq h8 F
    go_enter Tryd.func46, Tryd.ntmps46
    go_wp2_with fail
    refine R.mono ?_
    rintro e w1 ⟨rfl, hb⟩
    have Hb := Lib.hid hb
    clear hb R
    go_wp2_with fail
    refine (HF.out _).mono ?_
    rintro e w2 ⟨v, rfl, ho, hb⟩
    have Hb2 := Lib.hid ((Hb.out).trans (hb.mono (Hb.out).size))
    have F2 := flds_of_own ho (by intro p hp; simp at hp; rcases hp with rfl; exact hlt)
    obtain ⟨a, cap, rfl⟩ := F2.form
    obtain ⟨g, o, rfl, c1, c2, lg⟩ := F2.get 0 (by simp)
    simp only [List.getElem_cons_zero, Nat.zero_mul, Nat.add_zero] at c1
    clear hb ho F2 c2
    go_wp2_with fail
    go_region
    all_goals
      go_wp2_with fail
      (try simp only [Exit.inBlock, Exit.then])
      refine bodyPost_ret (results_tmp4 rfl _ _ _) rfl ?_
      exact ⟨rfl, (Hb2.out).drew⟩
end Go.Proofs.YtoblhikablbapaaDoor
