/- Parts of the proof of TreeMany, joined: MapEb, MapF, MapG, MapH, MapI, MapJ, MapK, ManyA, ManyB. No condition. -/
import Derived.Test.YtaibjcjphmhgmaaGreatDoorTm7
import Derived.Sort.OwnSortedInts
set_option linter.unusedSimpArgs false
set_option linter.unusedVariables false
set_option linter.unusedSectionVars false
namespace Go.Proofs.YtaibjcjphmhgmaaGreatDoor
set_option linter.unusedVariables false
set_option maxRecDepth 100000
set_option maxHeartbeats 20000000
open Go.RowKit
theorem geq_of {k tt : ByteArray} (h : kless k tt = false) : Op.bytesLess k.toList tt.toList = false ∧ (Op.bytesLess tt.toList k.toList = true ∨ (Op.bytesLess tt.toList k.toList = false ∧ (k.toList == tt.toList) = true ∧ (tt.toList == k.toList) = true ∧ (k.toList = tt.toList) = True ∧ (tt.toList = k.toList) = True)) := by
  refine ⟨h, ?_⟩
  cases g : kless tt k with
  | true => exact .inl g
  | false =>
    have e : tt = k := kless_total g h
    subst e
    exact .inr ⟨g, by simp⟩
theorem geq_no {k tt : ByteArray} (h : kless k tt = true) : Op.bytesLess k.toList tt.toList = true ∧ Op.bytesLess tt.toList k.toList = false ∧ (k.toList == tt.toList) = false ∧ (tt.toList == k.toList) = false ∧ (¬ k.toList = tt.toList ∧ ¬ tt.toList = k.toList) := by
  have h1 : kless tt k = false := kless_asymm h
  have h2 : k.toList ≠ tt.toList := fun e => by
    have : Op.bytesLess k.toList tt.toList = true := h
    rw [e] at this
    have h3 : kless tt tt = true := this
    rw [kless_irrefl] at h3; cases h3
  exact ⟨h, h1, by simpa using h2, by simpa using fun e => h2 e.symm, h2, fun e => h2 e.symm⟩
theorem scan_leaf2 (w0 W : World) (G : Nat → Prop) (tb rb place n m : Nat) (S : RS) (p : Nat) (t : PT 0) (frm tt : ByteArray) (limit lb deep base : Nat) (L : List (ByteArray × ByteArray)) (v : Value) (hB : TBase w0 W G G tb rb place n m S) (hA : Acc base W lb L v) (hl : w0.heap.size ≤ lb) (hb : w0.heap.size ≤ base) (hbW : base ≤ W.heap.size) (hG : ∀ k, G k → k < w0.heap.size) (hT : Tr S 0 p t) (hd : deep ≤ 20) (hm : m ≤ 3900000) (hcap : L.length + (ents 0 t).length ≤ 40000000) (hlim : limit ≤ 4611686018427387904) (htt : tt.size ≠ 0) :
    Calls Tryz.prog 85 #[.pointer (some ⟨tb, 0, none⟩), .int .i64 (p : Int), .string frm, .string tt, .int .i64 (limit : Int), .pointer (some ⟨lb, 0, none⟩), .int .i64 (deep : Int)] W fun e w' => ∃ ok, e = .returned (.bool ok) ∧ Hid (ScanEnd base W w' lb v frm tt limit (ents 0 t) L ok) := by
  have hnot : ∀ (x : Bool) (w : World), (Op.unary .not (.bool x)).run Tryz.prog w = .ok (.bool (!x)) w := fun _ _ => rfl
  have RD := Lib.hid (tail_read hB (by omega) hT.on hT.fit hT.ok)
  have hd1 : ¬ (20 : Int) < (deep : Int) := by omega
  obtain ⟨A, B, rfl, hA1, hB1, -⟩ := lb_split t frm hT.wf.srt
  have HF : Hid (from_ frm (ents 0 (A ++ B)) = B) := Lib.hid (by
    show from_ frm (A ++ B) = B
    rw [from_app, from_none hA1, from_all hB1, List.nil_append])
  have hpos : 0 < (A ++ B).length := by have := hT.pos; rw [nd_len0] at this; exact this
  have hl6 : (Nd.leaf (A ++ B)).len ≤ 1000000 := Nat.le_of_lt (Nat.lt_trans hT.ok.few (by decide))
  have hlab : (A ++ B).length ≤ 65536 := by have := hT.ok.few; rw [nd_len0] at this; exact Nat.le_of_lt this
  have HTH : ∃ there : Bool, there = true ↔ ∃ B', B.map Prod.fst = frm :: B' := by
    by_cases h : ∃ B', B.map Prod.fst = frm :: B'
    · exact ⟨true, ⟨fun _ => h, fun _ => rfl⟩⟩
    · exact ⟨false, ⟨(fun e => by cases e), fun e => absurd e h⟩⟩
  obtain ⟨there, hth⟩ := HTH
  have FD : Hid (∀ W' q, RdN w0 W' G q (nd 0 (A ++ B)) → Calls Tryz.prog 79 #[.pointer (some ⟨q, 0, none⟩), .string frm] W' fun e w' => e = .returned (.tuple #[.int .i64 (A.length : Nat), .bool there]) ∧ ∃ q, w' = W'.drewN q) := Lib.hid fun W' q hr => by
    obtain ⟨vk, vv, vi, hv⟩ := hr.view
    have := find_c there q (.leaf (A ++ B)) vk vv vi (A.map Prod.fst) (B.map Prod.fst) frm W' hv (by simp [Nd.keys]) hT.pos hl6 (fun a ha => by obtain ⟨e, he, rfl⟩ := List.mem_map.1 ha; exact hA1 e he) (fun b hb => by obtain ⟨e, he, rfl⟩ := List.mem_map.1 hb; exact hB1 e he) hth
    rw [List.length_map] at this; exact this
  have HB := Lib.hid hB
  have HAcc := Lib.hid hA
  have HG := Lib.hid hG
  have HLB : Hid (lb < W.heap.size) := Lib.hid (lt_of_heap hA.blk)
  have HCAP := Lib.hid hcap
  have HBW := Lib.hid hbW
  have HBB := Lib.hid hb
  clear hB hA hG hT hA1 hB1 hm hcap hth hl6 hd hbW hb
  go_enter Tryz.func85, Tryz.ntmps85
  go_wp2_with fail
  refine RD.out.mono ?_
  rintro e w3 ⟨q, rfl, HO⟩
  have N3 : Hid (RdN w0 w3 G q (nd 0 (A ++ B))) := Lib.hid (HO.out.rdN HB.out.up.size HB.out.room.lt)
  have HFN : Hid (∀ k, w3.heap.size ≤ k → W.heap.size ≤ k) := Lib.hid fun k hk => Nat.le_trans HO.out.below.size hk
  have FD3 := Lib.hid (FD.out w3 q N3.out)
  obtain ⟨vk, vv, vi, hv⟩ := N3.out.view
  have c0 : w3.cell? ⟨q, 0, none⟩ = some (.bool true) := cell_lit hv.blk rfl
  have HO2 := HO
  clear RD FD hv
  go_wp2_with fail
  refine FD3.out.mono ?_
  rintro e w4 ⟨rfl, qn, rfl⟩
  have HO4 : Hid (∃ F, IsNd (w3.drewN qn) F q (nd 0 (A ++ B)) ∧ ∀ k, F k → W.heap.size ≤ k) := Lib.hid (by
    obtain ⟨F, a, b, c⟩ := HO2.out
    exact ⟨F, a.below (drewN_below w3 qn) (Nat.le_refl _), b⟩)
  have A4 := Lib.hid ((HAcc.out.below HO2.out.below).below (drewN_below w3 qn))
  have BL4 : Hid (Below W.heap.size W (w3.drewN qn)) := Lib.hid (HO2.out.below.trans (Below.drewN (Below.refl _ _) qn))
  generalize w3.drewN qn = w4 at *
  clear FD3 N3 HO HO2 c0
  go_wp2_with fail
  go_loopg [18] B.length (fun gg s18 wr => ∃ (j : Nat), gg = B.length - j ∧ j ≤ B.length ∧ s18 = .int .i64 ((A.length + j : Nat) : Int) ∧ Hid (∃ Lj vj, sRun tt limit (B.take j) L = (Lj, true) ∧ Lj.length ≤ L.length + j ∧ Acc base wr lb Lj vj ∧ (∀ k, vj.ownBlock = some k → v.ownBlock = some k ∨ w4.heap.size ≤ k) ∧ Upd (fun k => k = lb ∨ v.ownBlock = some k) w4 wr))
  case atStart => exact ⟨0, rfl, Nat.zero_le _, rfl, Lib.hid ⟨L, v, by simp [sRun], Nat.le_refl _, A4.out, fun k e => .inl e, Upd.refl _ _⟩⟩
  case round =>
    obtain ⟨j, hgk, hj, rfl, HI⟩ := hrel
    obtain ⟨Lj, vj, hs, hll, ha, hn, hu⟩ := HI.out
    obtain ⟨F5, f1, f2⟩ := HO4.out
    have N5 : RdIn wr q (.leaf (A ++ B)) F5 := (f1.upd hu fun k hk e => by
      have := f2 k hk
      rcases e with e | e
      · have := HLB.out; omega
      · have := (HAcc.out.row.lt k e).2; omega).rdIn
    have HF5 : Hid (∀ k, F5 k → W.heap.size ≤ k ∧ k < w4.heap.size) := Lib.hid fun k hk => ⟨f2 k hk, f1.lt k hk⟩
    obtain ⟨g1, o1, c1, g2, o2, c2, k1, k2, hFF, kc⟩ := leaf_cells N5 hpos
    have HFF := Lib.hid hFF
    clear hFF f1 f2
    obtain ⟨la, lc, hvj⟩ : ∃ a c, vj = .slice a Lj.length c := by
      rcases ha.row.2 with ⟨rfl, h0⟩ | ⟨g, cap, cur, rfl, -⟩
      · exact ⟨none, 0, by rw [h0]⟩
      · exact ⟨_, _, rfl⟩
    subst hvj
    have m0 : wr.cell? ⟨lb, 0, none⟩ = some (.slice la Lj.length lc) := cell_lit ha.blk rfl
    have m1 : wr.frozen? ⟨lb, 0, none⟩ = false := frozen_lit ha.blk 0
    have hlbl := lt_of_heap ha.blk
    by_cases hjl : j < B.length
    · obtain ⟨kx, ky⟩ := kc (A.length + j) (by simp; omega)
      rw [List.getElem_append_right (by omega)] at kx ky
      simp only [Nat.add_sub_cancel_left] at kx ky
      have hlt : ((A.length + j : Nat) : Int) < (((A ++ B).length : Nat) : Int) := by simp; omega
      have hixb : A.length + j ≤ 65536 := by simp at hlab; omega
      obtain ⟨LN, hLN⟩ : ∃ LN, Lj.length = LN := ⟨_, rfl⟩
      obtain ⟨e, he⟩ : ∃ e, B[j] = e := ⟨_, rfl⟩
      have HE : Hid (B[j]? = some e) := Lib.hid (by rw [List.getElem?_eq_getElem hjl, he])
      rw [he] at kx ky
      rw [hLN] at m0
      have HLN := Lib.hid hLN
      have HJ := Lib.hid hj
      have HJL := Lib.hid hjl
      have HS := Lib.hid hs
      have HLL := Lib.hid hll
      have HA2 := Lib.hid ha
      have HN2 := Lib.hid hn
      have HU2 := Lib.hid hu
      have QC : Hid (∀ W5, Upd (fun k => k = lb ∨ (Value.slice la Lj.length lc).ownBlock = some k) wr W5 → W5.cell? ⟨q, 1, none⟩ = some (.slice (some ⟨g1, o1, none⟩) (A ++ B).length c1) ∧ W5.cell? ⟨q, 2, none⟩ = some (.slice (some ⟨g2, o2, none⟩) (A ++ B).length c2) ∧ W5.cell? ⟨g1, o1 + (A.length + j), none⟩ = some (.string e.1) ∧ W5.cell? ⟨g2, o2 + (A.length + j), none⟩ = some (.string e.2)) := Lib.hid fun W5 hU5 => by
        have nn : ∀ k, F5 k → k < wr.heap.size → W5.heap[k]? = wr.heap[k]? := fun k hk hlt => hU5.block k hlt fun e => by
          obtain ⟨h1, h2⟩ := HF5.out k hk
          rcases e with e | e
          · have := HLB.out; omega
          · rcases hn k e with e | e
            · have := (HAcc.out.row.lt k e).2; omega
            · omega
        exact ⟨(World.cell?_of_block (nn q HFF.out.1 (World.block_lt_of_cell? _ _ k1))).trans k1, (World.cell?_of_block (nn q HFF.out.1 (World.block_lt_of_cell? _ _ k2))).trans k2, (World.cell?_of_block (nn g1 HFF.out.2.1 (World.block_lt_of_cell? _ _ kx))).trans kx, (World.cell?_of_block (nn g2 HFF.out.2.2 (World.block_lt_of_cell? _ _ ky))).trans ky⟩
      have HGK := Lib.hid hgk
      clear kc
      obtain ⟨ix, hix⟩ : ∃ ix, A.length + j = ix := ⟨_, rfl⟩
      have HIX := Lib.hid hix
      rw [hix] at kx ky hlt hixb QC ⊢
      clear hix
      generalize (A ++ B).length = NN at *
      clear hj hjl hs hll ha hn hu N5 hgk he hLN HI hlab hpos
      have hb' : B = B.take j ++ e :: B.drop (j + 1) := by
        have h1 := HE.out
        obtain ⟨h2, h3⟩ := List.getElem?_eq_some_iff.1 h1
        rw [← h3]; exact (List.take_append_drop j B).symm.trans (by rw [List.drop_eq_getElem_cons h2])
      have HSTOP : Hid (LN = limit ∨ (tt.size ≠ 0 ∧ kless e.1 tt = false) → ScanEnd base W wr lb v frm tt limit (ents 0 (A ++ B)) L false) := Lib.hid fun hst => by
        refine ⟨Lj, ?_, (AccGo.below_left BL4.out ⟨⟨_, HA2.out, HN2.out⟩, HU2.out⟩)⟩
        rw [HF.out, hb', sRun_true HS.out, sRun_cons, if_pos (by rw [HLN.out]; exact hst)]
      have HGO : Hid (¬ (LN = limit ∨ (tt.size ≠ 0 ∧ kless e.1 tt = false)) → sRun tt limit (B.take (j + 1)) L = (Lj ++ [e], true)) := Lib.hid fun hst => by
        have h1 := HE.out
        obtain ⟨h2, h3⟩ := List.getElem?_eq_some_iff.1 h1
        rw [List.take_succ_eq_append_getElem h2, h3, sRun_true HS.out, sRun_cons, if_neg (by rw [HLN.out]; exact hst)]; rfl
      have hfew : LN + 1 ≤ 40000000 := by
        have h1 := HLL.out
        have h2 := HCAP.out
        have h3 : (ents 0 (A ++ B)).length = (A ++ B).length := rfl
        have h4 := HJL.out
        rw [HLN.out] at h1
        rw [h3, List.length_append] at h2; omega
      clear hb'
      have htl : tt.toList = [] ↔ tt.size = 0 := by rw [Lib.toList_data, Lib.size_eq]; exact List.length_eq_zero_iff.symm
      by_cases hst : LN = limit ∨ (tt.size ≠ 0 ∧ kless e.1 tt = false)
      · have HE2 := Lib.hid (HSTOP.out hst)
        by_cases hc1 : LN = limit
        · have q1 : ((LN : Int) == (limit : Int)) = true := by simp; omega
          clear HSTOP HGO hfew htl hst htt
          go_wp2_with fail
          all_goals (go_ret; exact ⟨false, rfl, HE2⟩)
        · have hc2 : kless e.1 tt = false := by rcases hst with h | ⟨-, h⟩; exact absurd h hc1; exact h
          have q1 : ((LN : Int) == (limit : Int)) = false := by simp; omega
          have q0 : tt.toList.isEmpty = false := by cases h : tt.toList with | nil => exact absurd (htl.1 h) htt | cons a r => rfl
          obtain ⟨r1, r2⟩ := geq_of hc2
          clear HSTOP HGO hfew htl hst htt hc1 hc2
          rcases r2 with r2 | ⟨r2, r3, r4, r5, r6⟩
          · go_wp2_with fail
            all_goals (go_ret; exact ⟨false, rfl, HE2⟩)
          · go_wp2_with fail
            all_goals (go_ret; exact ⟨false, rfl, HE2⟩)
      · have HR := Lib.hid (HGO.out hst)
        have q1 : ((LN : Int) == (limit : Int)) = false := by simp; exact fun h => hst (.inl (by omega))
        have q0 : tt.toList.isEmpty = false := by cases h : tt.toList with | nil => exact absurd (htl.1 h) htt | cons a r => rfl
        have hc2 : kless e.1 tt = true := by
          cases h : kless e.1 tt with
          | true => rfl
          | false => exact absurd (.inr ⟨htt, h⟩) hst
        obtain ⟨r1, r2, r3, r4, r5⟩ := geq_no hc2
        obtain ⟨jP, hjP, hP0, hP1, hP2⟩ := info_parts infoP
        have hdr := (Below.refl wr.heap.size wr).drew
        have AD := Lib.hid (HA2.out.below hdr)
        have UD := Lib.hid (HU2.out.trans' (hdr.upd' (Nat.le_refl _)) fun _ _ e => False.elim e)
        have HBS : Hid (base ≤ wr.drew.heap.size) := Lib.hid (by
          have h1 := HU2.out.size; have h2 := BL4.out.size; have h3 := HBW.out
          show base ≤ wr.heap.size; omega)
        have d0 : wr.drew.cell? ⟨lb, 0, none⟩ = some (.slice la Lj.length lc) := by rw [← HLN.out] at m0; exact m0
        have dl : lb < wr.drew.heap.size := hlbl
        have HN5' : Hid (wr.drew.heap.size = wr.heap.size) := Lib.hid rfl
        have HFEW : Hid (Lj.length + 1 ≤ maxLen ∧ (Lj.length + 1) * 32 ≤ 140737488355328 ∧ Lj.length + 1 ≤ 40000000) := Lib.hid (by have := HLN.out; unfold maxLen; omega)
        clear HSTOP HGO htl hst hfew htt hc2
        rw [← HLN.out] at m0 q1
        have w1 : IntKind.i64.wrap ((ix : Int) + 1) = (ix : Int) + 1 := wrap_small (by omega) (by omega)
        go_wp2_with fail
        all_goals (
          have AW := Lib.hid (HA2.out.below (((Below.refl wr.heap.size wr).alloc (Nat.le_refl _) (.cells #[.string e.1, .string e.2] 105)).drew))
          have hbW : Below wr.heap.size wr ((wr.alloc (.cells #[.string e.1, .string e.2] 105)).drew) := ((Below.refl wr.heap.size wr).alloc (Nat.le_refl _) _).drew
          go_region_law ((first
            | (refine step_append_y (by rfl) _ _ _ (by rfl) base 105 jP _ 2 32 Tryz.underlying83 hjP hP0 hP1 hP2 rfl (by decide) _ _ _ (by rfl) AW.out.row _ 1 _ (by rfl) (show Yields ((wr.alloc (.cells #[.string e.1, .string e.2] 105)).drew) (.slice (some ⟨wr.heap.size, 0, none⟩) 1 1) 1 [.string e.1, .string e.2] from yields_boxL wr #[.string e.1, .string e.2] 105 1 1) rfl (one2 _ _ rfl rfl) HFEW.out.1 HFEW.out.2.1 (by have := HBS.out; show base ≤ (wr.alloc _).heap.size; rw [World.size_alloc]; have := HN5'.out; omega) ?_
               intro v5 W5 ho5 hg5 ha5
               have PU := Lib.hid (acc_push (e := e) HA2.out (((Below.refl wr.heap.size wr).alloc (Nat.le_refl _) (.cells #[.string e.1, .string e.2] 105)).drew) ho5 hg5 ha5 HFEW.out.2.2)
               obtain ⟨xa, xm, xc, rfl⟩ : ∃ a b c, v5 = .slice a b c := by
                 rcases ho5.2 with ⟨rfl, _⟩ | ⟨g, cap, cur, rfl, _⟩
                 · exact ⟨_, _, _, rfl⟩
                 · exact ⟨_, _, _, rfl⟩
               have p0 := PU.out.1.1
               have p1 := PU.out.1.2
               clear ho5 hg5 ha5)))
          all_goals (
            go_wp2_with fail
            go_roundg (B.length - (j + 1))))
        all_goals (first
          | (case measure => have := HGK.out; have := HJL.out; omega)
          | (case rel =>
              refine ⟨j + 1, rfl, HJL.out, by have := HIX.out; congr 1; omega, Lib.hid ⟨Lj ++ [e], _, HR.out, by have := HLL.out; simp; omega, PU.out.2.1, fun k hk => ?_, HU2.out.trans' PU.out.2.2.2 fun k hk e => ?_⟩⟩
              · rcases PU.out.2.2.1 k hk with e | e
                · exact HN2.out k e
                · have := HU2.out.size; have := HN5'.out; exact .inr (by omega)
              · rcases e with e | e
                · exact .inl e
                · exact .inr ((HN2.out k e).resolve_right (by omega))))
    · obtain rfl : j = B.length := by omega
      rw [List.take_length] at hs
      have HE2 : Hid (ScanEnd base W wr lb v frm tt limit (ents 0 (A ++ B)) L true) := Lib.hid ⟨Lj, by rw [HF.out]; exact hs, AccGo.below_left BL4.out ⟨⟨_, ha, hn⟩, hu⟩⟩
      have hlt : ¬ ((A.length + B.length : Nat) : Int) < (((A ++ B).length : Nat) : Int) := by simp
      clear kc
      generalize (A ++ B).length = NN at *
      clear HI ha hn hu N5 hgk
      clear hs hll
      go_wp2_with fail
      go_ret
      first | exact ⟨true, rfl, HE2⟩ | exact .inr ⟨rfl, HE2⟩
end Go.Proofs.YtaibjcjphmhgmaaGreatDoor
namespace Go.Proofs.YtaibjcjphmhgmaaGreatDoor
set_option linter.unusedVariables false
set_option maxRecDepth 100000
set_option maxHeartbeats 1000000
open Go.RowKit
theorem kids_sl {W : World} {F : Nat → Prop} {q : Nat} {l : List (ByteArray × Nat)} (h : RdIn W q (.inner l) F) (hp : 0 < l.length) :
    ∃ g o c, W.cell? ⟨q, 3, none⟩ = some (.slice (some ⟨g, o, none⟩) l.length c) ∧ l.length ≤ c ∧ (F q ∧ F g) ∧ ∀ i (hi : i < l.length), W.cell? ⟨g, o + i, none⟩ = some (.int .i64 (l[i].2 : Int)) := by
  obtain ⟨vk, vv, vi, a, b⟩ := h
  obtain ⟨g2, o2, c2, e2, h2, k2⟩ := a.is.lit (by simpa [Nd.kids] using hp)
  subst e2
  refine ⟨g2, o2, c2, ?_, by simpa [Nd.kids] using h2, ⟨(b q (.inl rfl)).2, (b g2 (.inr (.inr (.inr rfl)))).2⟩, fun i hi => ?_⟩
  · have := cell_lit (i := 3) a.blk rfl
    simpa [Nd.kids] using this
  · have := k2 i (by simpa [Nd.kids] using hi)
    rw [this]; simp [Nd.kids]
theorem from_len (key : ByteArray) (E : List (ByteArray × ByteArray)) : (from_ key E).length ≤ E.length := List.length_filter_le _ _
theorem scan_c : ∀ (h : Nat) (w0 W : World) (G : Nat → Prop) (tb rb place n m : Nat) (S : RS) (p : Nat) (t : PT h) (frm tt : ByteArray) (limit lb deep base : Nat) (L : List (ByteArray × ByteArray)) (v : Value) (_ : TBase w0 W G G tb rb place n m S) (_ : Acc base W lb L v) (_ : w0.heap.size ≤ lb) (_ : w0.heap.size ≤ base) (_ : base ≤ W.heap.size) (_ : ∀ k, G k → k < w0.heap.size) (_ : Tr S h p t) (_ : deep + h ≤ 20) (_ : m ≤ 3900000) (_ : L.length + (ents h t).length ≤ 40000000) (_ : limit ≤ 4611686018427387904),
    Calls Tryz.prog 85 #[.pointer (some ⟨tb, 0, none⟩), .int .i64 (p : Int), .string frm, .string tt, .int .i64 (limit : Int), .pointer (some ⟨lb, 0, none⟩), .int .i64 (deep : Int)] W fun e w' => ∃ ok, e = .returned (.bool ok) ∧ Hid (ScanEnd base W w' lb v frm tt limit (ents h t) L ok)
  | 0, w0, W, G, tb, rb, place, n, m, S, p, t, frm, tt, limit, lb, deep, base, L, v, hB, hA, hl, hb, hbW, hG, hT, hd, hm, hcap, hlim => by
    by_cases htt : tt.size = 0
    · exact scan_leaf w0 W G tb rb place n m S p t frm tt limit lb deep base L v hB hA hl hb hbW hG hT (by omega) hm hcap hlim htt
    · exact scan_leaf2 w0 W G tb rb place n m S p t frm tt limit lb deep base L v hB hA hl hb hbW hG hT (by omega) hm hcap hlim htt
  | hh + 1, w0, W, G, tb, rb, place, n, m, S, p, t, frm, tt, limit, lb, deep, base, L, v, hB, hA, hl, hb, hbW, hG, hT, hd, hm, hcap, hlim => by
    have hnot : ∀ (x : Bool) (w : World), (Op.unary .not (.bool x)).run Tryz.prog w = .ok (.bool (!x)) w := fun _ _ => rfl
    have RD := Lib.hid (tail_read hB (by omega) hT.on hT.fit hT.ok)
    have hd1 : ¬ (20 : Int) < (deep : Int) := by omega
    have hd2 : deep ≤ 20 := by omega
    have hpos := hT.pos
    rw [nd_lenS] at hpos
    obtain ⟨A, x, B, rfl, hW, hAx⟩ := way_split t frm (hT.wf.2.keys fun x hx => ents_pos (hT.wf.1 x hx).2.2.2.2 (hT.wf.1 x hx).2.2.1) hpos
    have hlen : (nd (hh + 1) (A ++ x :: B : List (Kid hh))).len ≤ 1000000 := Nat.le_of_lt (Nat.lt_trans hT.ok.few (by decide))
    have hfew := hT.ok.few
    rw [nd_lenS] at hfew
    have hK : ∀ y ∈ x :: B, Tr S hh y.2.1 y.2.2 := fun y hy => hT.kid (x := y) (by simp at hy ⊢; exact .inr hy)
    have HF : Hid (from_ frm (ents (hh + 1) (A ++ x :: B : List (Kid hh))) = from_ frm (ents (hh + 1) (x :: B : List (Kid hh)))) := Lib.hid (by
      obtain ⟨w1, w2⟩ := hT.wf.2.way hW
      rw [ents_app, from_app, from_none (fun e he => by obtain ⟨y, hy, he⟩ := (ents_mem hh A e).1 he; exact w1 y hy e he), List.nil_append])
    have HCE : Hid (L.length + (ents (hh + 1) (x :: B : List (Kid hh))).length ≤ 40000000) := Lib.hid (by
      rw [ents_app, List.length_append] at hcap; omega)
    have IH : Hid (∀ wr Lj vj, ∀ y ∈ x :: B, TBase w0 wr G G tb rb place n m S → Acc base wr lb Lj vj → base ≤ wr.heap.size → Lj.length + (ents hh y.2.2).length ≤ 40000000 → Calls Tryz.prog 85 #[.pointer (some ⟨tb, 0, none⟩), .int .i64 (y.2.1 : Int), .string frm, .string tt, .int .i64 (limit : Int), .pointer (some ⟨lb, 0, none⟩), .int .i64 ((deep : Int) + 1)] wr fun e w' => ∃ ok, e = .returned (.bool ok) ∧ Hid (ScanEnd base wr w' lb vj frm tt limit (ents hh y.2.2) Lj ok)) := Lib.hid fun wr Lj vj y hy hb1 ha1 hbw1 hc1 => by
      have := scan_c hh w0 wr G tb rb place n m S y.2.1 y.2.2 frm tt limit lb (deep + 1) base Lj vj hb1 ha1 hl hb hbw1 hG (hK y hy) (by omega) hm hc1 hlim
      rw [show ((deep + 1 : Nat) : Int) = (deep : Int) + 1 by omega] at this
      exact this
    have HB := Lib.hid hB
    have HAcc := Lib.hid hA
    have HG := Lib.hid hG
    have HLB : Hid (lb < W.heap.size) := Lib.hid (lt_of_heap hA.blk)
    have HBW := Lib.hid hbW
    have HBB := Lib.hid hb
    have HLO := Lib.hid hl
    have HW := Lib.hid hW
    have HAX := Lib.hid hAx
    have HLEN := Lib.hid hlen
    clear hB hA hG hT hm hcap hd hbW hb hK hW hAx hlen hpos hl
    go_enter Tryz.func85, Tryz.ntmps85
    go_wp2_with fail
    refine RD.out.mono ?_
    rintro e w3 ⟨q, rfl, HO⟩
    have HO3 : Hid (∃ F, RdIn w3 q (nd (hh + 1) (A ++ x :: B : List (Kid hh))) F ∧ (∀ k, F k → W.heap.size ≤ k ∧ k < w3.heap.size) ∧ Below W.heap.size W w3) := Lib.hid (by
      obtain ⟨F, a, b, c⟩ := HO.out
      exact ⟨F, a.rdIn, fun k hk => ⟨b k hk, a.lt k hk⟩, c⟩)
    have N3 : Hid (RdN w0 w3 G q (nd (hh + 1) (A ++ x :: B : List (Kid hh)))) := Lib.hid (HO.out.rdN HB.out.up.size HB.out.room.lt)
    obtain ⟨F3, f1, f2, f3⟩ := HO3.out
    have c0 : w3.cell? ⟨q, 0, none⟩ = some (.bool false) := by obtain ⟨vk, vv, vi, a, b⟩ := f1; exact cell_lit a.blk rfl
    rw [show nd (hh + 1) (A ++ x :: B : List (Kid hh)) = .inner ((A ++ x :: B : List (Kid hh)).map (fun x : Kid hh => (x.1, x.2.1))) by rfl] at f1
    obtain ⟨g3, o3, cp3, k3, hcp, hFF, kc⟩ := kids_sl f1 (by simp; omega)
    rw [List.length_map] at k3 hcp
    have KC : Hid (∀ i (hi : i < (x :: B).length), w3.cell? ⟨g3, o3 + (A.length + i), none⟩ = some (.int .i64 ((x :: B)[i].2.1 : Int))) := Lib.hid fun i hi => by
      have := kc (A.length + i) (by simp at hi ⊢; omega)
      rw [List.getElem_map, List.getElem_append_right (by omega)] at this
      simp only [Nat.add_sub_cancel_left] at this
      exact this
    have hdr := (Below.refl w3.heap.size w3).drew
    have WN : Hid (Calls Tryz.prog 80 #[.pointer (some ⟨q, 0, none⟩), .string frm] w3.drew fun e w' => e = .returned (.int .i64 (A.length : Nat)) ∧ w'.cell? ⟨q, 3, none⟩ = some (.slice (some ⟨g3, o3, none⟩) (A ++ x :: B).length cp3) ∧ Hid (Below w3.heap.size w3 w')) := Lib.hid (by
      refine (way_nd (N3.out.below hdr) HLEN.out HW.out HAX.out).mono ?_
      rintro e w' ⟨rfl, hb⟩
      have hb' : Below w3.heap.size w3 w' := hdr.trans hb.out
      exact ⟨rfl, (World.cell?_of_block (hb'.block _ (World.block_lt_of_cell? _ _ k3))).trans k3, hb'⟩)
    have HFF := Lib.hid hFF
    have HF2 := Lib.hid f2
    have HF3 := Lib.hid f3
    have hAB : (A ++ x :: B).length = A.length + (x :: B).length := by simp
    have s1 : (A.length ≤ (A ++ x :: B).length) = True := by simp
    have s2 : (cp3 = A.length) = False := by simp at hcp; simp; omega
    have s3 : (A ++ x :: B).length - A.length = (x :: B).length := by simp
    have s4 : (x :: B).length ≤ 65536 := by simp at hfew ⊢; omega
    have HABL := Lib.hid hAB
    clear f1 f2 f3 hFF kc hdr hfew hcp hAB RD HO
    generalize (A ++ x :: B).length = NN at *
    go_wp2_with fail
    go_region_held3 (fun w' => w'.cell? ⟨q, 3, none⟩ = some (.slice (some ⟨g3, o3, none⟩) NN cp3)) (go_keep) ((go_at_call 80; refine Calls.at_args WN.out (by with_reducible rfl) ?_; rintro e w4 ⟨rfl, hk4, HB4⟩))
    all_goals (
      have BL4 : Hid (Below W.heap.size W w4) := Lib.hid (HF3.out.trans (HB4.out.mono HF3.out.size))
      have A4 := Lib.hid (HAcc.out.below BL4.out)
      have B4 := Lib.hid (HB.out.below BL4.out)
      have KC4 : Hid (∀ wr, Upd (fun k => k = lb ∨ v.ownBlock = some k) w4 wr → ∀ i (hi : i < (x :: B).length), wr.cell? ⟨g3, o3 + (A.length + i), none⟩ = some (.int .i64 ((x :: B)[i].2.1 : Int))) := Lib.hid fun wr hu i hi => by
        have h0 := KC.out i hi
        have h1 := (World.cell?_of_block (HB4.out.block _ (World.block_lt_of_cell? _ _ h0))).trans h0
        have h2 := HF2.out g3 HFF.out.2
        refine (World.cell?_of_block (hu.block _ (World.block_lt_of_cell? _ _ h1) fun e => ?_)).trans h1
        rcases e with e | e
        · have := HLB.out; simp only at e; omega
        · have := (HAcc.out.row.lt _ e).2; simp only at this; omega
      have hk0 : (x :: B).length = B.length + 1 := List.length_cons
      rw [List.length_cons] at s3 s4
      generalize hBN : B.length = BN at s3 s4 hk0 ⊢
      have HKN := Lib.hid hk0
      clear hk0
      clear KC WN k3 N3 c0 HO3 hk4
      clear hBN
      go_wp2_with fail
      go_loopg [40] (BN + 1) (fun gg s40 wr => ∃ (j : Nat), gg = BN + 1 - j ∧ j ≤ BN + 1 ∧ s40 = .int .i64 (j : Int) ∧ Hid (∃ Lj vj, sRun tt limit (from_ frm (ents (hh + 1) ((x :: B).take j : List (Kid hh)))) L = (Lj, true) ∧ Acc base wr lb Lj vj ∧ (∀ k, vj.ownBlock = some k → v.ownBlock = some k ∨ w4.heap.size ≤ k) ∧ Upd (fun k => k = lb ∨ v.ownBlock = some k) w4 wr)))
    all_goals (first
      | (case atStart => exact ⟨0, rfl, Nat.zero_le _, rfl, Lib.hid ⟨L, v, by simp [ents, from_, sRun], A4.out, fun k e => .inl e, Upd.refl _ _⟩⟩)
      | skip)
    all_goals (
      obtain ⟨j, hgk, hj, rfl, HI⟩ := hrel
      obtain ⟨Lj, vj, hs, ha, hn, hu⟩ := HI.out
      have HGK := Lib.hid hgk
      have HS := Lib.hid hs
      have HN := Lib.hid hn
      have HU := Lib.hid hu
      have HA2 := Lib.hid ha
      by_cases hjl : j < BN + 1
      · have hjx : j < (x :: B).length := by rw [HKN.out]; exact hjl
        have k5 := KC4.out wr hu j hjx
        rw [← Nat.add_assoc] at k5
        obtain ⟨y, hy⟩ : ∃ y, (x :: B)[j] = y := ⟨_, rfl⟩
        rw [hy] at k5
        have hym : y ∈ x :: B := by rw [← hy]; exact List.getElem_mem hjx
        have hsum : ents (hh + 1) ((x :: B).take (j + 1) : List (Kid hh)) = ents (hh + 1) ((x :: B).take j : List (Kid hh)) ++ ents hh y.2.2 := by
          rw [List.take_succ_eq_append_getElem hjx, hy, ents_app]; simp [ents]
        have hle : (ents (hh + 1) ((x :: B).take (j + 1) : List (Kid hh))).length ≤ (ents (hh + 1) (x :: B : List (Kid hh))).length := by
          have e1 : ents (hh + 1) (x :: B : List (Kid hh)) = ents (hh + 1) ((x :: B).take (j + 1) : List (Kid hh)) ++ ents (hh + 1) ((x :: B).drop (j + 1) : List (Kid hh)) := by
            rw [← ents_app, List.take_append_drop]
          rw [e1, List.length_append]; omega
        have hfewj : Lj.length + (ents hh y.2.2).length ≤ 40000000 := by
          have h1 := sRun_len hs
          have h2 := from_len frm (ents (hh + 1) ((x :: B).take j : List (Kid hh)))
          have h3 := HCE.out
          rw [hsum, List.length_append] at hle; omega
        have hBr : TBase w0 wr G G tb rb place n m S := B4.out.acc A4.out HLO.out HBB.out HG.out ⟨⟨vj, ha, hn⟩, hu⟩
        have CL := Lib.hid (IH.out wr Lj vj y hym hBr ha (by have := hu.size; have := BL4.out.size; have := HBW.out; omega) hfewj)
        have HSUM := Lib.hid hsum
        have HJL := Lib.hid hjl
        have hKT : Hid ((x :: B).take (BN + 1) = x :: B) := Lib.hid (by rw [← HKN.out]; exact List.take_length)
        have hlt : (j : Int) < (BN : Int) + 1 := by omega
        have hj6 : j ≤ 65536 := by omega
        have HDROP : Hid (from_ frm (ents (hh + 1) (x :: B : List (Kid hh))) = from_ frm (ents (hh + 1) ((x :: B).take (j + 1) : List (Kid hh))) ++ from_ frm (ents (hh + 1) ((x :: B).drop (j + 1) : List (Kid hh)))) := Lib.hid (by
          rw [← from_app, ← ents_app, List.take_append_drop])
        clear hjx hy hym hsum hle hfewj hBr hs ha hn hu HI IH hgk hj
        go_wp2_with fail
        refine CL.out.mono ?_
        rintro e w7 ⟨ok, rfl, HE⟩
        obtain ⟨L7, r1, r2⟩ := HE.out
        have hrun : sRun tt limit (from_ frm (ents (hh + 1) ((x :: B).take (j + 1) : List (Kid hh)))) L = (L7, ok) := by
          rw [HSUM.out, from_app, sRun_true HS.out]; exact r1
        have HRUN := Lib.hid hrun
        have HGO7 : Hid (AccGo base w4 w7 lb v L7) := Lib.hid (AccGo.trans HU.out HN.out r2)
        clear CL k5 r1 r2 hrun HE
        cases ok with
        | false =>
          have HE2 : Hid (ScanEnd base W w7 lb v frm tt limit (ents (hh + 1) (A ++ x :: B : List (Kid hh))) L false) := Lib.hid ⟨L7, by rw [HF.out, HDROP.out]; exact sRun_false HRUN.out, AccGo.below_left BL4.out HGO7.out⟩
          go_wp2_with fail
          go_ret
          first | exact ⟨false, rfl, HE2⟩ | exact .inl ⟨rfl, HE2⟩
        | true =>
          go_wp2_with fail
          go_roundg (BN + 1 - (j + 1))
          case measure => have := HGK.out; have := HJL.out; omega
          case rel =>
            obtain ⟨⟨v7, x1, x2⟩, x3⟩ := HGO7.out
            exact ⟨j + 1, rfl, HJL.out, by congr 1, Lib.hid ⟨L7, v7, HRUN.out, x1, x2, x3⟩⟩
      · have hje : j = BN + 1 := by omega
        have HE2 : Hid (ScanEnd base W wr lb v frm tt limit (ents (hh + 1) (A ++ x :: B : List (Kid hh))) L true) := Lib.hid ⟨Lj, by
          rw [HF.out]
          rw [hje, ← HKN.out, List.take_length] at hs
          exact hs, AccGo.below_left BL4.out ⟨⟨vj, ha, hn⟩, hu⟩⟩
        have hlt : ¬ (j : Int) < (BN : Int) + 1 := by omega
        have hlt2 : decide ((j : Int) < (BN : Int) + 1) = false := by simp; omega
        have hlt3 : ((j : Int) < (BN : Int) + 1) = False := by simp; omega
        clear hs ha hn hu HI IH hgk hj
        go_wp2_with fail
        go_ret
        first | exact ⟨true, rfl, HE2⟩ | exact .inr ⟨rfl, HE2⟩)
end Go.Proofs.YtaibjcjphmhgmaaGreatDoor
namespace Go.Proofs.YtaibjcjphmhgmaaGreatDoor
set_option linter.unusedVariables false
set_option maxRecDepth 100000
set_option maxHeartbeats 1000000
open Go.RowKit
def scanW (w : World) : World := (w.alloc (.cells #[.slice none 0 0] 83)).alloc (.cells #[.int .i64 0] 41)
theorem scanW_below (w : World) : Below w.heap.size w (scanW w) := ((Below.refl w.heap.size w).alloc (Nat.le_refl _) _).alloc (by simp) _
theorem scanW_size (w : World) : (scanW w).heap.size = w.heap.size + 2 := by unfold scanW; simp
theorem scanW_acc (w : World) : Acc (w.heap.size + 2) (scanW w) w.heap.size [] (.slice none 0 0) := by
  refine ⟨?_, ⟨rfl, .inl ⟨rfl, rfl⟩⟩, by simp [Value.ownBlock], by simp⟩
  unfold scanW; rw [heap_alloc_at, if_neg (by simp), heap_alloc_new]
theorem scanW_e (w : World) : (scanW w).heap[w.heap.size + 1]? = some (.cells #[.int .i64 0] 41 (0, 0)) := by
  unfold scanW; rw [heap_alloc_at, if_pos (by simp)]
/-- The room as it was, its blocks the same ones. -/
def StK (w w' : World) (G : Nat → Prop) (rb n m : Nat) (S : RS) : Prop := RmS w' G rb n m S ∧ Upd G w w'
theorem StK.go {w w' : World} {G : Nat → Prop} {rb n m : Nat} {S : RS} (h : StK w w' G rb n m S) : StGo w w' G rb n m S := ⟨G, h.1, ⟨h.2, fun k hk => .inl hk⟩⟩
theorem StG.keep {w W : World} {G : Nat → Prop} {rb n m : Nat} {S : RS} (h : StG w W G G rb n m S) : StK w W G rb n m S := ⟨h.room, h.up⟩
/-- What Scan leaves. -/
def ScanRes (w w' : World) (G : Nat → Prop) (rb n m : Nat) (S : RS) (E : List (ByteArray × ByteArray)) (v : Value) : Prop := w'.ownsRow (w.heap.size + 2) 105 2 v E.length (pairC E) ∧ StK w w' G rb n m S
theorem Scan_none (G : Nat → Prop) (tb rb place n m : Nat) (S : RS) (w : World) (frm tt : ByteArray) (limit : Int) (h : RmS w G rb n m S) (ht : TB w tb rb place) (hg : ¬ G tb) (hp : place < 16) (hm : m ≤ 3900000) (hr : S.root place = 0) :
    Calls Tryz.prog 44 #[.pointer (some ⟨tb, 0, none⟩), .string frm, .string tt, .int .i64 limit] w fun e w' => ∃ v, e = .returned (.tuple #[v, .int .i64 0]) ∧ Hid (ScanRes w w' G rb n m S [] v) := by
  have hmf : ∀ (fn : Fn) (first cap : Array Value) (w : World), (Instr.makeFunc fn first cap).run Tryz.prog w = .ok (.func fn first cap) w := fun _ _ _ _ => rfl
  have B0 := Lib.hid ((TBase.start h ht hg).below (scanW_below w))
  have HG := Lib.hid h.lt
  have HM := Lib.hid hm
  have A0 := Lib.hid (scanW_acc w)
  have E0 := Lib.hid (scanW_e w)
  have S0 := Lib.hid (scanW_size w)
  have RT := root_c G tb rb place n m S _ B0.out.room B0.out.blk hp (by omega) (by rw [hr]; omega)
  rw [hr] at RT
  clear h ht hg hp hm hr
  go_enter_defers Tryz.func44, Tryz.ntmps44
  go_wp2_with fail
  change Calls Tryz.prog 70 #[.pointer (some ⟨tb, 0, none⟩)] (scanW w) _
  generalize scanW w = W0 at *
  refine RT.mono ?_
  rintro e w2 ⟨rfl, hb⟩
  have B9 := Lib.hid (B0.out.below hb.out)
  have A9 := Lib.hid (A0.out.below hb.out)
  have E9 : Hid (w2.heap[w.heap.size + 1]? = some (.cells #[.int .i64 0] 41 (0, 0))) := Lib.hid ((hb.out.block _ (lt_of_heap E0.out)).trans E0.out)
  obtain ⟨v9, hv9⟩ : ∃ v9, Value.slice none 0 0 = v9 := ⟨_, rfl⟩
  rw [hv9] at A9
  clear hv9 RT hb
  have hfl : ((w2.setCell ⟨w.heap.size, 0, none⟩ v9).setCell ⟨w.heap.size + 1, 0, none⟩ (.int .i64 0)).cell? ⟨w.heap.size, 0, none⟩ = some v9 := cell_lit ((heap_set_ne _ (by omega)).trans (heap_set_lit A9.out.blk _)) rfl
  have hfe : ((w2.setCell ⟨w.heap.size, 0, none⟩ v9).setCell ⟨w.heap.size + 1, 0, none⟩ (.int .i64 0)).cell? ⟨w.heap.size + 1, 0, none⟩ = some (.int .i64 0) := cell_lit (heap_set_lit ((heap_set_ne _ (by omega)).trans E9.out) _) rfl
  have HRES : Hid (ScanRes w ((w2.setCell ⟨w.heap.size, 0, none⟩ v9).setCell ⟨w.heap.size + 1, 0, none⟩ (.int .i64 0)) G rb n m S [] v9) := Lib.hid (by
    refine ⟨ownsRow_of2 A9.out.row fun k hk => ?_, (((StG.of B9.out (Below.refl _ _)).loc (x := w.heap.size) (Nat.le_refl _) (fun e => by have := HG.out _ e; omega) 0 _).loc (x := w.heap.size + 1) (by omega) (fun e => by have := HG.out _ e; omega) 0 _).keep⟩
    have h1 := (A9.out.row.lt k hk).1
    exact (heap_set_ne _ (by omega)).trans (heap_set_ne _ (by omega)))
  have m0 : w2.cell? ⟨w.heap.size, 0, none⟩ = some v9 := cell_lit A9.out.blk rfl
  have m1 : w2.frozen? ⟨w.heap.size, 0, none⟩ = false := frozen_lit A9.out.blk 0
  have m2 : w2.cell? ⟨w.heap.size + 1, 0, none⟩ = some (.int .i64 0) := cell_lit E9.out rfl
  have m3 : w2.frozen? ⟨w.heap.size + 1, 0, none⟩ = false := frozen_lit E9.out 0
  obtain ⟨xa, xm, xc, rfl⟩ : ∃ a b c, v9 = .slice a b c := by
    rcases A9.out.row.2 with ⟨rfl, _⟩ | ⟨g, cap, cur, rfl, _⟩
    · exact ⟨_, _, _, rfl⟩
    · exact ⟨_, _, _, rfl⟩
  clear B0 A0 E0
  go_wp2_with fail
  refine leaves_cons (f := 69) (args := #[.pointer (some ⟨w.heap.size + 1, 0, none⟩)]) (by simp) (by simp [go_sem]) ?_
  refine (guard_idle _ _).mono ?_
  rintro e u' wa ⟨rfl, rfl, rfl⟩
  refine leaves_cons (f := 84) (args := #[.pointer (some ⟨w.heap.size + 1, 0, none⟩), .pointer (some ⟨w.heap.size, 0, none⟩)]) (by simp [settle]) (by simp [go_sem]) ?_
  refine (scan1_idle _ _ _ _ hfe).mono ?_
  rintro e u' wb ⟨rfl, rfl, rfl⟩
  simp [Leaves, settle, results, Tryz.results44, go_sem, hfe, hfl]
  exact HRES
theorem Scan_gen (G : Nat → Prop) (tb rb place n m : Nat) (S : RS) (hh p : Nat) (t : PT hh) (w : World) (frm tt : ByteArray) (limit : Nat) (h : RmS w G rb n m S) (ht : TB w tb rb place) (hg : ¬ G tb) (hp : place < 16) (hm : m ≤ 3900000) (hr : S.root place = p + 1) (hT : Tr S hh p t) (hh20 : hh ≤ 20) (hl0 : (ents hh t).length ≤ 40000000) (hl1 : 0 < limit) (hl2 : limit ≤ 4611686018427387904) :
    Calls Tryz.prog 44 #[.pointer (some ⟨tb, 0, none⟩), .string frm, .string tt, .int .i64 (limit : Int)] w fun e w' => ∃ v, e = .returned (.tuple #[v, .int .i64 0]) ∧ Hid (ScanRes w w' G rb n m S (sRun tt limit (from_ frm (ents hh t)) []).1 v) := by
  have hmf : ∀ (fn : Fn) (first cap : Array Value) (w : World), (Instr.makeFunc fn first cap).run Tryz.prog w = .ok (.func fn first cap) w := fun _ _ _ _ => rfl
  obtain ⟨RL, hRL⟩ : ∃ RL, (sRun tt limit (from_ frm (ents hh t)) []).1 = RL := ⟨_, rfl⟩
  rw [hRL]
  have HRL := Lib.hid hRL
  clear hRL
  have hp65 : p < 65536 := by
    have := h.lim p hT.on.top.1
    have := h.bounds
    unfold pagesN at *; omega
  have B0 := Lib.hid ((TBase.start h ht hg).below (scanW_below w))
  have HG := Lib.hid h.lt
  have HM := Lib.hid hm
  have A0 := Lib.hid (scanW_acc w)
  have E0 := Lib.hid (scanW_e w)
  have S0 := Lib.hid (scanW_size w)
  have RT := root_c G tb rb place n m S _ B0.out.room B0.out.blk hp (by omega) (by rw [hr]; omega)
  rw [hr, show (((p + 1 : Nat) : Int) - 1) = (p : Int) by omega] at RT
  have HT := Lib.hid hT
  have HH := Lib.hid hh20
  have HL0 := Lib.hid hl0
  have HL2 := Lib.hid hl2
  have hlim1 : (0 : Int) < (limit : Int) := by omega
  have hp0 : (0 : Int) ≤ (p : Int) := by omega
  clear h ht hg hp hm hr hT hh20 hl0 hl1 hl2 hp65
  go_enter_defers Tryz.func44, Tryz.ntmps44
  go_wp2_with fail
  change Calls Tryz.prog 70 #[.pointer (some ⟨tb, 0, none⟩)] (scanW w) _
  generalize scanW w = W0 at *
  refine RT.mono ?_
  rintro e w2 ⟨rfl, hb⟩
  have B2 := Lib.hid (B0.out.below hb.out)
  have A2 := Lib.hid (A0.out.below hb.out)
  have E2 : Hid (w2.heap[w.heap.size + 1]? = some (.cells #[.int .i64 0] 41 (0, 0))) := Lib.hid ((hb.out.block _ (lt_of_heap E0.out)).trans E0.out)
  have SC0 := scan_c hh w w2 G tb rb place n m S p t frm tt limit w.heap.size 0 (w.heap.size + 2) [] (.slice none 0 0) B2.out A2.out (Nat.le_refl _) (by omega) (by have := hb.out.size; have := S0.out; omega) HG.out HT.out (by have := HH.out; omega) HM.out (by have := HL0.out; simp; omega) (by have := HL2.out; omega)
  rw [show ((0 : Nat) : Int) = 0 from rfl] at SC0
  have SC := Lib.hid SC0
  clear RT hb SC0 B0 A0 E0
  go_wp2_with fail
  refine SC.out.mono ?_
  rintro e w9 ⟨ok, rfl, HE⟩
  clear SC
  obtain ⟨L9, hr9, hgo⟩ := HE.out
  obtain rfl : RL = L9 := HRL.out.symm.trans (congrArg Prod.fst hr9)
  have B9 := Lib.hid (B2.out.acc A2.out (Nat.le_refl _) (by omega : w.heap.size ≤ w.heap.size + 2) HG.out hgo)
  obtain ⟨⟨v9, a9, b9⟩, c9⟩ := hgo
  have A9 := Lib.hid a9
  have E9 : Hid (w9.heap[w.heap.size + 1]? = some (.cells #[.int .i64 0] 41 (0, 0))) := Lib.hid (c9.at E2.out fun e => by
    rcases e with e | e
    · omega
    · simp [Value.ownBlock] at e)
  clear a9 b9 c9 hr9 HE B2 A2 E2
  have hfl : ((w9.setCell ⟨w.heap.size, 0, none⟩ v9).setCell ⟨w.heap.size + 1, 0, none⟩ (.int .i64 0)).cell? ⟨w.heap.size, 0, none⟩ = some v9 := cell_lit ((heap_set_ne _ (by omega)).trans (heap_set_lit A9.out.blk _)) rfl
  have hfe : ((w9.setCell ⟨w.heap.size, 0, none⟩ v9).setCell ⟨w.heap.size + 1, 0, none⟩ (.int .i64 0)).cell? ⟨w.heap.size + 1, 0, none⟩ = some (.int .i64 0) := cell_lit (heap_set_lit ((heap_set_ne _ (by omega)).trans E9.out) _) rfl
  have HRES : Hid (ScanRes w ((w9.setCell ⟨w.heap.size, 0, none⟩ v9).setCell ⟨w.heap.size + 1, 0, none⟩ (.int .i64 0)) G rb n m S RL v9) := Lib.hid (by
    refine ⟨ownsRow_of2 A9.out.row fun k hk => ?_, (((StG.of B9.out (Below.refl _ _)).loc (x := w.heap.size) (Nat.le_refl _) (fun e => by have := HG.out _ e; omega) 0 _).loc (x := w.heap.size + 1) (by omega) (fun e => by have := HG.out _ e; omega) 0 _).keep⟩
    have h1 := (A9.out.row.lt k hk).1
    exact (heap_set_ne _ (by omega)).trans (heap_set_ne _ (by omega)))
  have m0 : w9.cell? ⟨w.heap.size, 0, none⟩ = some v9 := cell_lit A9.out.blk rfl
  have m1 : w9.frozen? ⟨w.heap.size, 0, none⟩ = false := frozen_lit A9.out.blk 0
  have m2 : w9.cell? ⟨w.heap.size + 1, 0, none⟩ = some (.int .i64 0) := cell_lit E9.out rfl
  have m3 : w9.frozen? ⟨w.heap.size + 1, 0, none⟩ = false := frozen_lit E9.out 0
  obtain ⟨xa, xm, xc, rfl⟩ : ∃ a b c, v9 = .slice a b c := by
    rcases A9.out.row.2 with ⟨rfl, _⟩ | ⟨g, cap, cur, rfl, _⟩
    · exact ⟨_, _, _, rfl⟩
    · exact ⟨_, _, _, rfl⟩
  go_wp2_with fail
  refine leaves_cons (f := 69) (args := #[.pointer (some ⟨w.heap.size + 1, 0, none⟩)]) (by simp) (by simp [go_sem]) ?_
  refine (guard_idle _ _).mono ?_
  rintro e u' wa ⟨rfl, rfl, rfl⟩
  refine leaves_cons (f := 84) (args := #[.pointer (some ⟨w.heap.size + 1, 0, none⟩), .pointer (some ⟨w.heap.size, 0, none⟩)]) (by simp [settle]) (by simp [go_sem]) ?_
  refine (scan1_idle _ _ _ _ hfe).mono ?_
  rintro e u' wb ⟨rfl, rfl, rfl⟩
  simp [Leaves, settle, results, Tryz.results44, go_sem, hfe, hfl]
  exact HRES
theorem Scan_some (G : Nat → Prop) (tb rb place n m : Nat) (S : RS) (hh p : Nat) (t : PT hh) (w : World) (limit : Nat) (h : RmS w G rb n m S) (ht : TB w tb rb place) (hg : ¬ G tb) (hp : place < 16) (hm : m ≤ 3900000) (hr : S.root place = p + 1) (hT : Tr S hh p t) (hh20 : hh ≤ 20) (hl0 : (ents hh t).length ≤ limit) (hl1 : 0 < limit) (hl2 : limit ≤ 40000000) :
    Calls Tryz.prog 44 #[.pointer (some ⟨tb, 0, none⟩), .string ⟨#[]⟩, .string ⟨#[]⟩, .int .i64 (limit : Int)] w fun e w' => ∃ v, e = .returned (.tuple #[v, .int .i64 0]) ∧ Hid (ScanRes w w' G rb n m S (ents hh t) v) := by
  have := Scan_gen G tb rb place n m S hh p t w ⟨#[]⟩ ⟨#[]⟩ limit h ht hg hp hm hr hT hh20 (by omega) hl1 (by omega)
  rw [show from_ ⟨#[]⟩ (ents hh t) = ents hh t from from_all fun e _ => kless_empty e.1, sRun_all _ _ _ (by simpa using hl0)] at this
  simpa using this
theorem Count_of (tb : Nat) (w : World) {R : Value → World → Prop} {c : Nat} (hsc : Calls Tryz.prog 44 #[.pointer (some ⟨tb, 0, none⟩), .string ⟨#[]⟩, .string ⟨#[]⟩, .int .i64 33554432] w fun e w' => ∃ v, e = .returned (.tuple #[v, .int .i64 0]) ∧ Hid (R v w')) (hv : ∀ v w', R v w' → ∃ a k, v = .slice a c k) :
    Calls Tryz.prog 32 #[.pointer (some ⟨tb, 0, none⟩)] w fun e w' => e = .returned (.tuple #[.int .i64 (c : Int), .int .i64 0]) ∧ Hid (∃ v, R v w') := by
  have HSC := Lib.hid hsc
  have HV := Lib.hid hv
  clear hsc hv
  go_enter Tryz.func32, Tryz.ntmps32
  go_wp2_with fail
  refine HSC.out.mono ?_
  rintro e w2 ⟨v, rfl, hr⟩
  obtain ⟨a, k, rfl⟩ := HV.out v w2 hr.out
  go_wp2_with fail
  go_ret2
  exact ⟨rfl, _, hr.out⟩
end Go.Proofs.YtaibjcjphmhgmaaGreatDoor
namespace Go.Proofs.YtaibjcjphmhgmaaGreatDoor
set_option linter.unusedVariables false
set_option maxRecDepth 100000
set_option maxHeartbeats 1000000
open Go.RowKit
/-- The walk's own value. -/
def walkV (b c : Nat) : Value := .func (Fn.func 87) #[] #[.pointer (some ⟨b + 1, 0, none⟩), .pointer (some ⟨b, 0, none⟩), .pointer (some ⟨c, 0, none⟩), .pointer (some ⟨c + 1 + 1, 0, none⟩), .pointer (some ⟨c + 1, 0, none⟩), .pointer (some ⟨c + 1 + 1 + 1, 0, none⟩)]
/-- The variables of Pages: b the tree, b + 1 the pages, c how deep the leaves are, c + 1 the last key, c + 2 whether there is one, c + 3 the walk. -/
structure PgS (base : Nat) (W : World) (b c tb : Nat) (P : List Nat) (v : Value) (lv : Int) (sm : Bool) (la : ByteArray) : Prop where
  pg : W.heap[b + 1]? = some (.cells #[v] 100 (0, 0))
  row : W.ownsRow base 3 1 v P.length (P.map encN)
  tx : W.heap[b]? = some (.cells #[.pointer (some ⟨tb, 0, none⟩)] 69 (0, 0))
  lf : W.heap[c]? = some (.cells #[.int .i64 lv] 3 (0, 0))
  ls : W.heap[c + 1]? = some (.cells #[.string la] 9 (0, 0))
  so : W.heap[c + 1 + 1]? = some (.cells #[.bool sm] 4 (0, 0))
  wk : W.heap[c + 1 + 1 + 1]? = some (.cells #[walkV b c] 154 (0, 0))
  bc : b + 3 ≤ c
  cb : c + 4 ≤ base
/-- What may change. -/
def PgL (b c : Nat) (v : Value) (k : Nat) : Prop := k = b + 1 ∨ k = c ∨ k = c + 1 ∨ k = c + 1 + 1 ∨ v.ownBlock = some k
section
variable {base b c tb : Nat} {W W' : World} {P : List Nat} {v : Value} {lv : Int} {sm : Bool} {la : ByteArray}
theorem PgS.below (h : PgS base W b c tb P v lv sm la) (hb : Below W.heap.size W W') : PgS base W' b c tb P v lv sm la :=
  ⟨(hb.block _ (lt_of_heap h.pg)).trans h.pg, ownsRow_of h.row fun k e => hb.block k (h.row.lt k e).2, (hb.block _ (lt_of_heap h.tx)).trans h.tx, (hb.block _ (lt_of_heap h.lf)).trans h.lf, (hb.block _ (lt_of_heap h.ls)).trans h.ls, (hb.block _ (lt_of_heap h.so)).trans h.so, (hb.block _ (lt_of_heap h.wk)).trans h.wk, h.bc, h.cb⟩
theorem PgS.cells (h : PgS base W b c tb P v lv sm la) : W.cell? ⟨b + 1, 0, none⟩ = some v ∧ W.frozen? ⟨b + 1, 0, none⟩ = false ∧ W.cell? ⟨b, 0, none⟩ = some (.pointer (some ⟨tb, 0, none⟩)) ∧ W.cell? ⟨c, 0, none⟩ = some (.int .i64 lv) ∧ W.frozen? ⟨c, 0, none⟩ = false ∧ W.cell? ⟨c + 1, 0, none⟩ = some (.string la) ∧ W.frozen? ⟨c + 1, 0, none⟩ = false ∧ W.cell? ⟨c + 1 + 1, 0, none⟩ = some (.bool sm) ∧ W.frozen? ⟨c + 1 + 1, 0, none⟩ = false ∧ W.cell? ⟨c + 1 + 1 + 1, 0, none⟩ = some (walkV b c) ∧ c + 1 + 1 + 1 < W.heap.size :=
  ⟨cell_lit h.pg rfl, frozen_lit h.pg 0, cell_lit h.tx rfl, cell_lit h.lf rfl, frozen_lit h.lf 0, cell_lit h.ls rfl, frozen_lit h.ls 0, cell_lit h.so rfl, frozen_lit h.so 0, cell_lit h.wk rfl, lt_of_heap h.wk⟩
theorem PgS.rowlt (h : PgS base W b c tb P v lv sm la) : ∀ k, v.ownBlock = some k → base ≤ k := fun k e => (h.row.lt k e).1
/-- A page more. -/
theorem PgS.push {W5 : World} {v' : Value} {p : Nat} (h : PgS base W b c tb P v lv sm la) {Wb : World} (hb : Below W.heap.size W Wb) (ho : W5.ownsRow base 3 1 v' (P.length + 1) (P.map encN ++ [encN p])) (hg : Wb.grownBy W5 v.ownBlock) (hv : v'.ownBlock = v.ownBlock ∨ v'.ownBlock = some Wb.heap.size) :
    (W5.cell? ⟨b + 1, 0, none⟩ = some v ∧ W5.frozen? ⟨b + 1, 0, none⟩ = false) ∧ PgS base (W5.setCell ⟨b + 1, 0, none⟩ v') b c tb (P ++ [p]) v' lv sm la ∧ (∀ k, v'.ownBlock = some k → v.ownBlock = some k ∨ W.heap.size ≤ k) ∧ Upd (PgL b c v) W (W5.setCell ⟨b + 1, 0, none⟩ v') := by
  have hA := h.below hb
  have hu : Upd (fun k => v.ownBlock = some k) Wb W5 := (Upd.refl _ _).grown hg fun k e => .inl e
  have hbc := h.bc
  have hcb := h.cb
  have nb : ∀ k, k < base → ¬ v.ownBlock = some k := fun k hk e => by have := h.rowlt k e; omega
  have hs := hb.size
  have hlt := lt_of_heap h.wk
  have f : ∀ k o, k < base → k ≠ b + 1 → Wb.heap[k]? = some o → (W5.setCell ⟨b + 1, 0, none⟩ v').heap[k]? = some o := fun k o hk hne hko => (heap_set_ne v' hne).trans (hu.at hko (nb k hk))
  have h5 := hu.at hA.pg (nb _ (by omega))
  refine ⟨⟨cell_lit h5 rfl, frozen_lit h5 0⟩, ⟨heap_set_lit h5 v', ?_, f _ _ (by omega) (by omega) hA.tx, f _ _ (by omega) (by omega) hA.lf, f _ _ (by omega) (by omega) hA.ls, f _ _ (by omega) (by omega) hA.so, f _ _ (by omega) (by omega) hA.wk, hbc, hcb⟩, fun k hk => ?_, ?_⟩
  · have e1 : (P ++ [p]).length = P.length + 1 := by simp
    have e2 : (P ++ [p]).map encN = P.map encN ++ [encN p] := by simp
    rw [e1, e2]
    exact ownsRow_of ho fun k hk => heap_set_ne _ fun e => by have := (ho.lt k hk).1; omega
  · rcases hv with e | e
    · exact .inl (by rw [← e]; exact hk)
    · rw [e] at hk; cases hk; exact .inr hs
  · have u1 : Upd (PgL b c v) W Wb := (hb.upd' (Nat.le_refl _)).mono fun _ _ e => False.elim e
    exact (u1.trans (hu.mono fun k _ e => .inr (.inr (.inr (.inr e))))).setCell (p := ⟨b + 1, 0, none⟩) (.inl (.inl rfl)) v'
theorem PgS.setL (h : PgS base W b c tb P v lv sm la) (x : Int) : PgS base (W.setCell ⟨c, 0, none⟩ (.int .i64 x)) b c tb P v x sm la ∧ Upd (PgL b c v) W (W.setCell ⟨c, 0, none⟩ (.int .i64 x)) := by
  have hbc := h.bc
  have hcb := h.cb
  refine ⟨⟨(heap_set_ne _ (by omega)).trans h.pg, ownsRow_of h.row fun k hk => heap_set_ne _ fun e => by have := h.rowlt k hk; omega, (heap_set_ne _ (by omega)).trans h.tx, heap_set_lit h.lf _, (heap_set_ne _ (by omega)).trans h.ls, (heap_set_ne _ (by omega)).trans h.so, (heap_set_ne _ (by omega)).trans h.wk, hbc, hcb⟩, (Upd.refl _ _).setCell (p := ⟨c, 0, none⟩) (.inl (.inr (.inl rfl))) _⟩
theorem PgS.setK (h : PgS base W b c tb P v lv sm la) (x : ByteArray) : PgS base ((W.setCell ⟨c + 1, 0, none⟩ (.string x)).setCell ⟨c + 1 + 1, 0, none⟩ (.bool true)) b c tb P v lv true x ∧ Upd (PgL b c v) W ((W.setCell ⟨c + 1, 0, none⟩ (.string x)).setCell ⟨c + 1 + 1, 0, none⟩ (.bool true)) := by
  have hbc := h.bc
  have hcb := h.cb
  have e : ∀ k, k ≠ c + 1 → k ≠ c + 1 + 1 → ((W.setCell ⟨c + 1, 0, none⟩ (.string x)).setCell ⟨c + 1 + 1, 0, none⟩ (.bool true)).heap[k]? = W.heap[k]? := fun k h1 h2 => (heap_set_ne _ h2).trans (heap_set_ne _ h1)
  refine ⟨⟨(e _ (by omega) (by omega)).trans h.pg, ownsRow_of h.row fun k hk => e k (by have := h.rowlt k hk; omega) (by have := h.rowlt k hk; omega), (e _ (by omega) (by omega)).trans h.tx, (e _ (by omega) (by omega)).trans h.lf, (heap_set_ne _ (by omega)).trans (heap_set_lit h.ls _), heap_set_lit ((heap_set_ne _ (by omega)).trans h.so) _, (e _ (by omega) (by omega)).trans h.wk, hbc, hcb⟩, ((Upd.refl _ _).setCell (p := ⟨c + 1, 0, none⟩) (.inl (.inr (.inr (.inl rfl)))) _).setCell (p := ⟨c + 1 + 1, 0, none⟩) (.inl (.inr (.inr (.inr (.inl rfl))))) _⟩
end
/-- The variables go on. -/
def PgGo (base : Nat) (W W' : World) (b c tb : Nat) (v : Value) (P' : List Nat) (lv' : Int) (sm' : Bool) (la' : ByteArray) : Prop :=
  (∃ v', PgS base W' b c tb P' v' lv' sm' la' ∧ ∀ k, v'.ownBlock = some k → v.ownBlock = some k ∨ W.heap.size ≤ k) ∧ Upd (PgL b c v) W W'
theorem PgGo.trans {base b c tb : Nat} {W W1 W2 : World} {v v1 : Value} {P2 : List Nat} {lv2 : Int} {sm2 : Bool} {la2 : ByteArray} (hu : Upd (PgL b c v) W W1) (hn : ∀ k, v1.ownBlock = some k → v.ownBlock = some k ∨ W.heap.size ≤ k) (h : PgGo base W1 W2 b c tb v1 P2 lv2 sm2 la2) : PgGo base W W2 b c tb v P2 lv2 sm2 la2 := by
  obtain ⟨⟨v2, a, bb⟩, cc⟩ := h
  refine ⟨⟨v2, a, fun k hk => ?_⟩, hu.trans' cc fun j hj e => ?_⟩
  · rcases bb k hk with e | e
    · exact hn k e
    · have := hu.size; exact .inr (by omega)
  · rcases e with e | e | e | e | e
    · exact .inl e
    · exact .inr (.inl e)
    · exact .inr (.inr (.inl e))
    · exact .inr (.inr (.inr (.inl e)))
    · exact .inr (.inr (.inr (.inr ((hn j e).resolve_right (by omega)))))
theorem PgGo.below_left {base b c tb : Nat} {W W1 W2 : World} {v : Value} {P2 : List Nat} {lv2 : Int} {sm2 : Bool} {la2 : ByteArray} (hb : Below W.heap.size W W1) (h : PgGo base W1 W2 b c tb v P2 lv2 sm2 la2) : PgGo base W W2 b c tb v P2 lv2 sm2 la2 :=
  PgGo.trans ((hb.upd' (Nat.le_refl _)).mono fun _ _ e => False.elim e) (fun k e => .inl e) h
theorem TBase.pgs {w0 W W' : World} {G0 G : Nat → Prop} {tb rb place n m : Nat} {S : RS} (h : TBase w0 W G0 G tb rb place n m S) {base b c tb2 : Nat} {P : List Nat} {v : Value} {lv : Int} {sm : Bool} {la : ByteArray} (hp : PgS base W b c tb2 P v lv sm la) (hb : w0.heap.size ≤ b) (hG : ∀ k, G k → k < w0.heap.size) (hu : Upd (PgL b c v) W W') : TBase w0 W' G0 G tb rb place n m S := by
  have hbc := hp.bc
  have hcb := hp.cb
  refine h.node hu fun k hk => ?_
  have : w0.heap.size ≤ k := by
    rcases hk with e | e | e | e | e
    · omega
    · omega
    · omega
    · omega
    · have := hp.rowlt k e; omega
  exact ⟨this, fun e' => by have := hG k e'; omega⟩
/-- The last key of some pairs. -/
def lastK (E : List (ByteArray × ByteArray)) (la : ByteArray) : ByteArray := match E.getLast? with
  | some e => e.1
  | none => la
theorem lastK_snoc (E : List (ByteArray × ByteArray)) (e : ByteArray × ByteArray) (la : ByteArray) : lastK (E ++ [e]) la = e.1 := by simp [lastK]
theorem lastK_mem {E : List (ByteArray × ByteArray)} (la : ByteArray) (h : 0 < E.length) : ∃ e ∈ E, lastK E la = e.1 := by
  rcases nil_or_snoc E with rfl | ⟨A, z, rfl⟩
  · simp at h
  · exact ⟨z, by simp, lastK_snoc A z la⟩
theorem lastK_app {E F : List (ByteArray × ByteArray)} (la la' : ByteArray) (h : 0 < F.length) : lastK (E ++ F) la = lastK F la' := by
  rcases nil_or_snoc F with rfl | ⟨A, z, rfl⟩
  · simp at h
  · rw [← List.append_assoc, lastK_snoc, lastK_snoc]
end Go.Proofs.YtaibjcjphmhgmaaGreatDoor
namespace Go.Proofs.YtaibjcjphmhgmaaGreatDoor
set_option linter.unusedVariables false
set_option maxRecDepth 100000
set_option maxHeartbeats 4000000
open Go.RowKit
theorem pg_lit {base b c tb : Nat} {W : World} {P : List Nat} {v : Value} {lv : Int} {sm : Bool} {la : ByteArray} (h : PgS base W b c tb P v lv sm la) : ∃ a k, v = .slice a P.length k := by
  rcases h.row.2 with ⟨rfl, h0⟩ | ⟨g, cap, cur, rfl, -⟩
  · exact ⟨none, 0, by rw [h0]⟩
  · exact ⟨_, _, rfl⟩
theorem rowi_lit {base : Nat} {W : World} {v : Value} {n : Nat} {xs : List Value} (h : W.ownsRow base 3 1 v n xs) : ∃ a k, v = .slice a n k := by
  rcases h.2 with ⟨rfl, h0⟩ | ⟨g, cap, cur, rfl, -⟩
  · exact ⟨none, 0, by rw [h0]⟩
  · exact ⟨_, _, rfl⟩
theorem leq_no {k la : ByteArray} (h : kless la k = true) : Op.bytesLess k.toList la.toList = false ∧ (k.toList == la.toList) = false ∧ (k.toList = la.toList) = False := by
  have h1 : kless k la = false := kless_asymm h
  have h2 : k.toList ≠ la.toList := fun e => by
    have : Op.bytesLess la.toList k.toList = true := h
    rw [e] at this
    have h3 : kless la la = true := this
    rw [kless_irrefl] at h3; cases h3
  exact ⟨h1, by simpa using h2, by simpa using h2⟩
theorem lastK_take {E : List (ByteArray × ByteArray)} {j : Nat} (la : ByteArray) (h : j < E.length) : lastK (E.take (j + 1)) la = E[j].1 := by
  rw [List.take_succ_eq_append_getElem h, lastK_snoc]
theorem srt_next {t : List (ByteArray × ByteArray)} (H : Srt t) {j : Nat} {e : ByteArray × ByteArray} (he : t[j]? = some e) : e ∈ t.drop j ∧ (∀ e' ∈ t.drop (j + 1), kless e.1 e'.1 = true) ∧ t.take (j + 1) = t.take j ++ [e] := by
  obtain ⟨hj, rfl⟩ := List.getElem?_eq_some_iff.1 he
  have h1 := List.drop_eq_getElem_cons hj
  have h2 : Srt (t.drop j) := H.sublist (List.drop_sublist _ _)
  rw [h1] at h2
  exact ⟨by rw [h1]; exact List.mem_cons_self, (List.pairwise_cons.1 h2).1, List.take_succ_eq_append_getElem hj⟩
theorem walk_leaf (w0 W : World) (G : Nat → Prop) (tb rb place n m : Nat) (S : RS) (p : Nat) (t : PT 0) (low : ByteArray) (b c deep base : Nat) (P : List Nat) (v : Value) (lv : Int) (sm : Bool) (la : ByteArray) (hB : TBase w0 W G G tb rb place n m S) (hP : PgS base W b c tb P v lv sm la) (hb : w0.heap.size ≤ b) (hbW : base ≤ W.heap.size) (hG : ∀ k, G k → k < w0.heap.size) (hT : Tr S 0 p t) (hd : deep ≤ 20) (hm : m ≤ 3900000) (hcap : P.length ≤ 100000) (hlv : lv = -1 ∨ lv = (deep : Int)) (hsm : sm = true → ∀ e ∈ ents 0 t, kless la e.1 = true) (hlow : ∀ e ∈ ents 0 t, kless e.1 low = false) :
    Calls Tryz.prog 87 #[.int .i64 (p : Int), .int .i64 (deep : Int), .string low, .pointer (some ⟨b + 1, 0, none⟩), .pointer (some ⟨b, 0, none⟩), .pointer (some ⟨c, 0, none⟩), .pointer (some ⟨c + 1 + 1, 0, none⟩), .pointer (some ⟨c + 1, 0, none⟩), .pointer (some ⟨c + 1 + 1 + 1, 0, none⟩)] W fun e w' => e = .returned (.tuple #[]) ∧ Hid (PgGo base W w' b c tb v (P ++ [p]) (deep : Int) true (lastK (ents 0 t) la)) := by
  have RD : Hid (∀ W', TBase w0 W' G G tb rb place n m S → Calls Tryz.prog 78 #[.pointer (some ⟨tb, 0, none⟩), .int .i64 (p : Int)] W' fun e w' => ∃ q, e = .returned (.pointer (some ⟨q, 0, none⟩)) ∧ Hid (OneNd W' w' q (nd 0 t))) := Lib.hid fun W' h => tail_read h (by omega) hT.on hT.fit hT.ok
  have hd1 : ¬ (20 : Int) < (deep : Int) := by omega
  have hpos : 0 < t.length := by have := hT.pos; rw [nd_len0] at this; exact this
  have hlab : t.length ≤ 65536 := by have := hT.ok.few; rw [nd_len0] at this; exact Nat.le_of_lt this
  have HSRT : Hid (Srt t) := Lib.hid hT.wf.srt
  have HB := Lib.hid hB
  have HP := Lib.hid hP
  have HG := Lib.hid hG
  have HBB := Lib.hid hb
  have HBW := Lib.hid hbW
  have HLV := Lib.hid hlv
  have HSM := Lib.hid hsm
  have HLOW := Lib.hid hlow
  have HL : Hid (P.length + 1 ≤ maxLen ∧ (P.length + 1) * 8 ≤ 140737488355328) := Lib.hid (by unfold maxLen; omega)
  obtain ⟨jI, hjI, hI0, hI1, hI2⟩ := info_parts infoI
  obtain ⟨va, vc, hv⟩ := pg_lit hP
  have HV := Lib.hid hv
  subst hv
  have m0 := hP.cells.1
  have hbs : b + 1 < W.heap.size := lt_of_heap hP.pg
  have PA := Lib.hid (hP.below ((Below.refl W.heap.size W).alloc (Nat.le_refl _) (.cells #[.int .i64 (p : Int)] 3)))
  have HBA : Hid (base ≤ (W.alloc (.cells #[.int .i64 (p : Int)] 3)).heap.size) := Lib.hid (by rw [World.size_alloc]; omega)
  clear hB hP hG hT hm hcap hd hbW hb hlv hsm hlow
  go_enter Tryz.func87, Tryz.ntmps87
  go_wp2_with (
    (refine chkA 100 100 ⟨_, _, by with_reducible rfl⟩ ?_
     refine wpList_append_y (by rfl) _ _ _ rfl base 3 jI _ 1 8 Tryz.underlying100 hjI hI0 hI1 hI2 rfl (by decide) _ _ _ (by rfl) PA.out.row _ 1 _ (by rfl) (yields_boxL _ #[.int .i64 (p : Int)] _ 1 1) rfl (one1 _ rfl) HL.out.1 HL.out.2 HBA.out ?_
     intro v5 W5 ho5 hg5 ha5
     have PU := Lib.hid (HP.out.push (p := p) ((Below.refl W.heap.size W).alloc (Nat.le_refl _) _) ho5 hg5 ha5)
     obtain ⟨xa, xc, hx5⟩ := rowi_lit ho5
     subst hx5
     have p0 := PU.out.1.1
     have p1 := PU.out.1.2
     have p2 := PU.out.2.1.cells.2.2.1
     clear ho5 hg5 ha5))
  generalize hW2 : W5.setCell ⟨b + 1, 0, none⟩ (.slice xa (P.length + 1) xc) = W2 at *
  clear hW2 p0 p1 p2
  have B2 := Lib.hid (HB.out.pgs HP.out HBB.out HG.out PU.out.2.2.2)
  refine (RD.out _ B2.out).mono ?_
  rintro e w3 ⟨q, rfl, HO⟩
  have HOB := Lib.hid HO.out.below
  have P3 := Lib.hid (PU.out.2.1.below HOB.out)
  have HO3 : Hid (∃ F, IsNd w3 F q (nd 0 t) ∧ ∀ k, F k → W2.heap.size ≤ k) := Lib.hid (by
    obtain ⟨F, a, bb, cc⟩ := HO.out
    exact ⟨F, a, bb⟩)
  obtain ⟨F3, f1, f2⟩ := HO3.out
  have N3 : RdIn w3 q (.leaf t) F3 := f1.rdIn
  have c0 : w3.cell? ⟨q, 0, none⟩ = some (.bool true) := by obtain ⟨vk, vv, vi, a, bb⟩ := N3; exact cell_lit a.blk rfl
  obtain ⟨g1, o1, c1, g2, o2, c2, k1, -, hFF, kc⟩ := leaf_cells N3 hpos
  have NL : Hid (∀ wr, Upd (PgL b c (.slice xa (P.length + 1) xc)) w3 wr → ∀ k i x, F3 k → w3.cell? ⟨k, i, none⟩ = some x → wr.cell? ⟨k, i, none⟩ = some x) := Lib.hid fun wr hu k i x hk hx => by
    have h1 := f2 k hk
    refine (World.cell?_of_block (hu.block _ (World.block_lt_of_cell? _ _ hx) fun e => ?_)).trans hx
    have h2 := PU.out.2.1.bc
    have h3 := PU.out.2.1.cb
    have h4 := lt_of_heap PU.out.2.1.wk
    rcases e with e | e | e | e | e
    · simp only at e; omega
    · simp only at e; omega
    · simp only at e; omega
    · simp only at e; omega
    · have := (PU.out.2.1.row.lt _ e).2; simp only at this; omega
  have KC : Hid (∀ wr, Upd (PgL b c (.slice xa (P.length + 1) xc)) w3 wr → wr.cell? ⟨q, 0, none⟩ = some (.bool true) ∧ ∀ i e, t[i]? = some e → wr.cell? ⟨g1, o1 + i, none⟩ = some (.string e.1)) := Lib.hid fun wr hu => ⟨NL.out wr hu q 0 _ hFF.1 c0, fun i e he => by
    obtain ⟨hi, rfl⟩ := List.getElem?_eq_some_iff.1 he
    exact NL.out wr hu g1 _ _ hFF.2.1 (kc i hi).1⟩
  have SL := Lib.hid (P3.out.setL (deep : Int))
  have l0 := P3.out.cells.2.2.2.1
  have l1 := P3.out.cells.2.2.2.2.1
  have k4 := NL.out _ SL.out.2 q 1 _ hFF.1 k1
  have hlen : (t.length : Int) ≤ 65536 := by omega
  clear N3 f1 f2 hFF kc NL HO RD k1
  generalize hTN : t.length = TN at *
  have HTN := Lib.hid hTN
  clear hTN
  have hdeep : (0 : Int) ≤ (deep : Int) := by omega
  rcases HLV.out with rfl | rfl
  all_goals (
    go_wp2_with fail
    go_loopg [44] TN (fun gg s44 wr => ∃ (j : Nat), gg = TN - j ∧ j ≤ TN ∧ s44 = .int .i64 (j : Int) ∧ Hid (∃ smj laj, PgS base wr b c tb (P ++ [p]) (.slice xa (P.length + 1) xc) (deep : Int) smj laj ∧ (smj = true → ∀ e ∈ (t : List (ByteArray × ByteArray)).drop j, kless laj e.1 = true) ∧ (0 < j → smj = true ∧ laj = lastK ((t : List (ByteArray × ByteArray)).take j) la) ∧ Upd (PgL b c (.slice xa (P.length + 1) xc)) w3 wr)))
  all_goals (first
    | (case atStart => exact ⟨0, rfl, Nat.zero_le _, rfl, Lib.hid ⟨sm, la, SL.out.1, (fun hs e he => HSM.out hs e he), (fun h => absurd h (Nat.lt_irrefl _)), SL.out.2⟩⟩)
    | skip)
  all_goals (
    obtain ⟨j, hgk, hj, rfl, HI⟩ := hrel
    obtain ⟨smj, laj, ha, hs1, hs2, hu⟩ := HI.out
    have HGK := Lib.hid hgk
    have HA := Lib.hid ha
    have HU := Lib.hid hu
    have HS2 := Lib.hid hs2
    clear hgk HI
    by_cases hjl : j < TN
    · obtain ⟨e, he⟩ : ∃ e, (t : List (ByteArray × ByteArray))[j]? = some e := ⟨_, List.getElem?_eq_getElem (by rw [HTN.out]; exact hjl)⟩
      obtain ⟨n1, n2, n3⟩ := srt_next HSRT.out he
      have HN2 := Lib.hid n2
      have HN3 := Lib.hid n3
      have hlw : Op.bytesLess e.1.toList low.toList = false := HLOW.out e (List.mem_of_getElem? he)
      obtain ⟨k5, kx⟩ := KC.out wr hu
      have kx := kx j e he
      obtain ⟨-, -, -, -, -, m1, m2, m3, m4, -, m5⟩ := ha.cells
      have m6 : (wr.setCell ⟨c + 1, 0, none⟩ (.string e.1)).cell? ⟨c + 1 + 1, 0, none⟩ = some (.bool smj) := cell_lit ((heap_set_ne _ (by omega)).trans ha.so) rfl
      have m7 : (wr.setCell ⟨c + 1, 0, none⟩ (.string e.1)).frozen? ⟨c + 1 + 1, 0, none⟩ = false := frozen_lit ((heap_set_ne _ (by omega)).trans ha.so) 0
      have HK := Lib.hid (ha.setK e.1)
      have hlt : (j : Int) < (TN : Int) := by omega
      have HJ := Lib.hid hjl
      have hj6 : j ≤ 65536 := by omega
      obtain ⟨ek, hek⟩ : ∃ ek, e.1 = ek := ⟨_, rfl⟩
      have HEK := Lib.hid hek
      have HSMJ : Hid (smj = true → kless laj ek = true) := Lib.hid fun h => by rw [← hek]; exact hs1 h e n1
      rw [hek] at hlw kx m6 m7 HK HN2
      clear ha hs1 hs2 hu n1 n2 n3 he hek hj hjl HA
      cases smj with
      | false =>
        go_wp2_with fail
        go_roundg (TN - (j + 1))
        all_goals (first
          | (case measure => have := HGK.out; have := HJ.out; omega)
          | (case rel => exact ⟨j + 1, rfl, HJ.out, by congr 1, Lib.hid ⟨true, ek, HK.out.1, fun _ => HN2.out, fun _ => ⟨rfl, by rw [HN3.out, lastK_snoc, HEK.out]⟩, HU.out.trans HK.out.2⟩⟩))
      | true =>
        obtain ⟨q1, q2, q3⟩ := leq_no (HSMJ.out rfl)
        go_wp2_with fail
        go_roundg (TN - (j + 1))
        all_goals (first
          | (case measure => have := HGK.out; have := HJ.out; omega)
          | (case rel => exact ⟨j + 1, rfl, HJ.out, by congr 1, Lib.hid ⟨true, ek, HK.out.1, fun _ => HN2.out, fun _ => ⟨rfl, by rw [HN3.out, lastK_snoc, HEK.out]⟩, HU.out.trans HK.out.2⟩⟩))
    · have hje : j = TN := by omega
      have HRES : Hid (PgGo base W wr b c tb (.slice va P.length vc) (P ++ [p]) (deep : Int) true (lastK (ents 0 t) la)) := Lib.hid (by
        obtain ⟨hx, hy⟩ := hs2 (by omega)
        subst hx
        rw [hje, ← HTN.out, List.take_length] at hy
        subst hy
        exact PgGo.trans PU.out.2.2.2 PU.out.2.2.1 (PgGo.below_left HOB.out ⟨⟨_, ha, fun k e => .inl e⟩, hu⟩))
      have hlt : ¬ (j : Int) < (TN : Int) := by omega
      have hlt2 : decide ((j : Int) < (TN : Int)) = false := by simp; omega
      clear ha hs1 hs2 hu hj hje hjl HA
      go_wp2_with fail
      first | (go_end0; exact ⟨rfl, HRES⟩) | (go_end0; go_wp2; exact ⟨rfl, HRES⟩))
end Go.Proofs.YtaibjcjphmhgmaaGreatDoor
namespace Go.Proofs.YtaibjcjphmhgmaaGreatDoor
set_option linter.unusedVariables false
set_option maxRecDepth 100000
set_option maxHeartbeats 4000000
open Go.RowKit
theorem inner_cells {W : World} {F : Nat → Prop} {q : Nat} {l : List (ByteArray × Nat)} (h : RdIn W q (.inner l) F) (hp : 0 < l.length) :
    ∃ g1 o1 c1 g2 o2 c2, W.cell? ⟨q, 1, none⟩ = some (.slice (some ⟨g1, o1, none⟩) l.length c1) ∧ W.cell? ⟨q, 3, none⟩ = some (.slice (some ⟨g2, o2, none⟩) l.length c2) ∧ (F q ∧ F g1 ∧ F g2) ∧ ∀ i e, l[i]? = some e → W.cell? ⟨g1, o1 + i, none⟩ = some (.string e.1) ∧ W.cell? ⟨g2, o2 + i, none⟩ = some (.int .i64 (e.2 : Int)) := by
  obtain ⟨vk, vv, vi, a, b⟩ := h
  obtain ⟨g1, o1, c1, e1, h1, k1⟩ := a.ks.lit (by simpa [Nd.keys] using hp)
  obtain ⟨g2, o2, c2, e2, h2, k2⟩ := a.is.lit (by simpa [Nd.kids] using hp)
  subst e1 e2
  refine ⟨g1, o1, c1, g2, o2, c2, ?_, ?_, ⟨(b q (.inl rfl)).2, (b g1 (.inr (.inl rfl))).2, (b g2 (.inr (.inr (.inr rfl)))).2⟩, fun i e he => ?_⟩
  · have := cell_lit (i := 1) a.blk rfl
    simpa [Nd.keys] using this
  · have := cell_lit (i := 3) a.blk rfl
    simpa [Nd.kids] using this
  · obtain ⟨hi, rfl⟩ := List.getElem?_eq_some_iff.1 he
    refine ⟨?_, ?_⟩
    · have := k1 i (by simpa [Nd.keys] using hi)
      rw [this]; simp [Nd.keys]
    · have := k2 i (by simpa [Nd.kids] using hi)
      rw [this]; simp [Nd.kids]
theorem kid_next {h : Nat} {l : List (Kid h)} {j : Nat} {y : Kid h} (hy : l[j]? = some y) : l = l.take j ++ y :: l.drop (j + 1) ∧ l.drop j = y :: l.drop (j + 1) ∧ l.take (j + 1) = l.take j ++ [y] := by
  obtain ⟨hj, rfl⟩ := List.getElem?_eq_some_iff.1 hy
  have h1 := List.drop_eq_getElem_cons hj
  exact ⟨by rw [← h1, List.take_append_drop], h1, List.take_succ_eq_append_getElem hj⟩
/-- The pages of some kids. -/
def pgsL (h : Nat) (l : List (Kid h)) : List Nat := l.flatMap (fun x => pgs h x.2.1 x.2.2)
theorem pgsL_app (h : Nat) (A B : List (Kid h)) : pgsL h (A ++ B) = pgsL h A ++ pgsL h B := by simp [pgsL]
theorem pgsL_one (h : Nat) (y : Kid h) : pgsL h [y] = pgs h y.2.1 y.2.2 := by simp [pgsL]
/-- What the plain side of a round asks. -/
theorem kid_round {h : Nat} {l : List (Kid h)} (HS : Srt (ents (h + 1) l)) (HP : Seps h l) (hpos : ∀ x ∈ l, 0 < (ents h x.2.2).length) {j : Nat} {y : Kid h} (hy : l[j]? = some y) (la laj : ByteArray) (smj : Bool)
    (h1 : smj = true → ∀ e ∈ ents (h + 1) (l.drop j : List (Kid h)), kless laj e.1 = true) :
    (smj = true → ∀ e ∈ ents h y.2.2, kless laj e.1 = true) ∧ (∀ e ∈ ents (h + 1) (l.drop (j + 1) : List (Kid h)), kless (lastK (ents h y.2.2) laj) e.1 = true) ∧ lastK (ents (h + 1) (l.take (j + 1) : List (Kid h))) la = lastK (ents h y.2.2) laj ∧ (0 < j → ∀ e ∈ ents h y.2.2, kless e.1 y.1 = false) ∧ y ∈ l := by
  obtain ⟨e1, e2, e3⟩ := kid_next hy
  have hm : y ∈ l := List.mem_of_getElem? hy
  refine ⟨fun hs e he => h1 hs e ?_, ?_, ?_, ?_, hm⟩
  · rw [e2]; exact (ents_mem h _ e).2 ⟨y, by simp, he⟩
  · have hd : Srt (ents (h + 1) (l.take j : List (Kid h)) ++ (ents h y.2.2 ++ ents (h + 1) (l.drop (j + 1) : List (Kid h)))) := by
      rw [← ents_mid, ← e1]; exact HS
    obtain ⟨e, he, hl⟩ := lastK_mem laj (hpos y hm)
    intro e' he'
    rw [hl]
    exact (List.pairwise_append.1 (List.pairwise_append.1 hd).2.1).2.2 e he e' he'
  · rw [e3, ents_app, show ents (h + 1) ([y] : List (Kid h)) = ents h y.2.2 by simp [ents]]
    exact lastK_app la laj (hpos y hm)
  · intro hj e he
    refine HP.2 y ?_ e he
    cases l with
    | nil => cases hm
    | cons x l =>
      obtain ⟨i, rfl⟩ : ∃ i, j = i + 1 := ⟨j - 1, by omega⟩
      exact List.mem_of_getElem? (by simpa using hy)
theorem walk_kept {base : Nat} {W W' : World} {b c tb : Nat} {v : Value} {P : List Nat} {lv : Int} {sm : Bool} {la : ByteArray} (h : PgGo base W W' b c tb v P lv sm la) : W'.cell? ⟨c + 1 + 1 + 1, 0, none⟩ = some (.func (Fn.func 87) #[] #[.pointer (some ⟨b + 1, 0, none⟩), .pointer (some ⟨b, 0, none⟩), .pointer (some ⟨c, 0, none⟩), .pointer (some ⟨c + 1 + 1, 0, none⟩), .pointer (some ⟨c + 1, 0, none⟩), .pointer (some ⟨c + 1 + 1 + 1, 0, none⟩)]) := by
  obtain ⟨⟨v', a, -⟩, -⟩ := h
  exact cell_lit a.wk rfl
theorem pgsS (h p : Nat) (l : List (Kid h)) : pgs (h + 1) p l = p :: pgsL h l := rfl
abbrev walkA (p deep low : Value) (b c : Nat) : Array Value := #[p, deep, low, .pointer (some ⟨b + 1, 0, none⟩), .pointer (some ⟨b, 0, none⟩), .pointer (some ⟨c, 0, none⟩), .pointer (some ⟨c + 1 + 1, 0, none⟩), .pointer (some ⟨c + 1, 0, none⟩), .pointer (some ⟨c + 1 + 1 + 1, 0, none⟩)]
theorem walk_c : ∀ (h : Nat) (w0 W : World) (G : Nat → Prop) (tb rb place n m : Nat) (S : RS) (p : Nat) (t : PT h) (low : ByteArray) (b c deep base : Nat) (P : List Nat) (v : Value) (lv : Int) (sm : Bool) (la : ByteArray) (_ : TBase w0 W G G tb rb place n m S) (_ : PgS base W b c tb P v lv sm la) (_ : w0.heap.size ≤ b) (_ : base ≤ W.heap.size) (_ : ∀ k, G k → k < w0.heap.size) (_ : Tr S h p t) (_ : deep + h ≤ 20) (_ : m ≤ 3900000) (_ : P.length + (pgs h p t).length ≤ 100000) (_ : lv = -1 ∨ lv = ((deep + h : Nat) : Int)) (_ : sm = true → ∀ e ∈ ents h t, kless la e.1 = true) (_ : ∀ e ∈ ents h t, kless e.1 low = false),
    Calls Tryz.prog 87 #[.int .i64 (p : Int), .int .i64 (deep : Int), .string low, .pointer (some ⟨b + 1, 0, none⟩), .pointer (some ⟨b, 0, none⟩), .pointer (some ⟨c, 0, none⟩), .pointer (some ⟨c + 1 + 1, 0, none⟩), .pointer (some ⟨c + 1, 0, none⟩), .pointer (some ⟨c + 1 + 1 + 1, 0, none⟩)] W fun e w' => e = .returned (.tuple #[]) ∧ Hid (PgGo base W w' b c tb v (P ++ pgs h p t) ((deep + h : Nat) : Int) true (lastK (ents h t) la))
  | 0, w0, W, G, tb, rb, place, n, m, S, p, t, low, b, c, deep, base, P, v, lv, sm, la, hB, hP, hb, hbW, hG, hT, hd, hm, hcap, hlv, hsm, hlow => walk_leaf w0 W G tb rb place n m S p t low b c deep base P v lv sm la hB hP hb hbW hG hT (by omega) hm (by simp [pgs] at hcap; omega) hlv hsm hlow
  | hh + 1, w0, W, G, tb, rb, place, n, m, S, p, t, low, b, c, deep, base, P, v, lv, sm, la, hB, hP, hb, hbW, hG, hT, hd, hm, hcap, hlv, hsm, hlow => by
    obtain ⟨l, hl⟩ : ∃ l : List (Kid hh), l = t := ⟨t, rfl⟩
    subst hl
    have RD : Hid (∀ W', TBase w0 W' G G tb rb place n m S → Calls Tryz.prog 78 #[.pointer (some ⟨tb, 0, none⟩), .int .i64 (p : Int)] W' fun e w' => ∃ q, e = .returned (.pointer (some ⟨q, 0, none⟩)) ∧ Hid (OneNd W' w' q (nd (hh + 1) l))) := Lib.hid fun W' h => tail_read h (by omega) hT.on hT.fit hT.ok
    have IH : Hid (∀ wr Pj vj lvj smj laj lo, ∀ y ∈ l, TBase w0 wr G G tb rb place n m S → PgS base wr b c tb Pj vj lvj smj laj → base ≤ wr.heap.size → Pj.length + (pgs hh y.2.1 y.2.2).length ≤ 100000 → (lvj = -1 ∨ lvj = ((deep + (hh + 1) : Nat) : Int)) → (smj = true → ∀ e ∈ ents hh y.2.2, kless laj e.1 = true) → (∀ e ∈ ents hh y.2.2, kless e.1 lo = false) → Calls Tryz.prog 87 #[.int .i64 (y.2.1 : Int), .int .i64 ((deep : Int) + 1), .string lo, .pointer (some ⟨b + 1, 0, none⟩), .pointer (some ⟨b, 0, none⟩), .pointer (some ⟨c, 0, none⟩), .pointer (some ⟨c + 1 + 1, 0, none⟩), .pointer (some ⟨c + 1, 0, none⟩), .pointer (some ⟨c + 1 + 1 + 1, 0, none⟩)] wr fun e w' => e = .returned (.tuple #[]) ∧ Hid (PgGo base wr w' b c tb vj (Pj ++ pgs hh y.2.1 y.2.2) ((deep + (hh + 1) : Nat) : Int) true (lastK (ents hh y.2.2) laj))) := Lib.hid fun wr Pj vj lvj smj laj lo y hy h1 h2 h3 h4 h5 h6 h7 => by
      have := walk_c hh w0 wr G tb rb place n m S y.2.1 y.2.2 lo b c (deep + 1) base Pj vj lvj smj laj h1 h2 hb h3 hG (hT.kid hy) (by omega) hm h4 (by rw [show deep + 1 + hh = deep + (hh + 1) by omega]; exact h5) h6 h7
      rw [show ((deep + 1 : Nat) : Int) = (deep : Int) + 1 by omega, show deep + 1 + hh = deep + (hh + 1) by omega] at this
      exact this
    have hd1 : ¬ (20 : Int) < (deep : Int) := by omega
    have hd2 : deep ≤ 20 := by omega
    have hpos : 0 < l.length := by have := hT.pos; rw [nd_lenS] at this; exact this
    have hlab : l.length ≤ 65536 := by have := hT.ok.few; rw [nd_lenS] at this; exact Nat.le_of_lt this
    have HSRT : Hid (Srt (ents (hh + 1) l)) := Lib.hid hT.wf.srt
    have HSEP : Hid (Seps hh l) := Lib.hid hT.wf.2
    have HKP : Hid (∀ x ∈ l, 0 < (ents hh x.2.2).length) := Lib.hid fun x hx => ents_pos (hT.wf.1 x hx).2.2.2.2 (hT.wf.1 x hx).2.2.1
    have HB := Lib.hid hB
    have HP := Lib.hid hP
    have HG := Lib.hid hG
    have HBB := Lib.hid hb
    have HBW := Lib.hid hbW
    have HLV := Lib.hid hlv
    have HSM := Lib.hid hsm
    have HLOW := Lib.hid hlow
    have HCAP : Hid (P.length + 1 + (pgsL hh l).length ≤ 100000) := Lib.hid (by rw [pgsS] at hcap; simp at hcap; omega)
    have HL : Hid (P.length + 1 ≤ maxLen ∧ (P.length + 1) * 8 ≤ 140737488355328) := Lib.hid (by have := HCAP.out; unfold maxLen; omega)
    obtain ⟨jI, hjI, hI0, hI1, hI2⟩ := info_parts infoI
    obtain ⟨va, vc, hv⟩ := pg_lit hP
    subst hv
    have m0 := hP.cells.1
    have hbs : b + 1 < W.heap.size := lt_of_heap hP.pg
    have PA := Lib.hid (hP.below ((Below.refl W.heap.size W).alloc (Nat.le_refl _) (.cells #[.int .i64 (p : Int)] 3)))
    have HBA : Hid (base ≤ (W.alloc (.cells #[.int .i64 (p : Int)] 3)).heap.size) := Lib.hid (by rw [World.size_alloc]; omega)
    clear hB hP hG hT hm hcap hd hbW hb hlv hsm hlow
    go_enter Tryz.func87, Tryz.ntmps87
    go_wp2_with (
      (refine chkA 100 100 ⟨_, _, by with_reducible rfl⟩ ?_
       refine wpList_append_y (by rfl) _ _ _ rfl base 3 jI _ 1 8 Tryz.underlying100 hjI hI0 hI1 hI2 rfl (by decide) _ _ _ (by rfl) PA.out.row _ 1 _ (by rfl) (yields_boxL _ #[.int .i64 (p : Int)] _ 1 1) rfl (one1 _ rfl) HL.out.1 HL.out.2 HBA.out ?_
       intro v5 W5 ho5 hg5 ha5
       have PU := Lib.hid (HP.out.push (p := p) ((Below.refl W.heap.size W).alloc (Nat.le_refl _) _) ho5 hg5 ha5)
       obtain ⟨xa, xc, hx5⟩ := rowi_lit ho5
       subst hx5
       have p0 := PU.out.1.1
       have p1 := PU.out.1.2
       have p2 := PU.out.2.1.cells.2.2.1
       clear ho5 hg5 ha5))
    generalize hW2 : W5.setCell ⟨b + 1, 0, none⟩ (.slice xa (P.length + 1) xc) = W2 at *
    clear hW2 p0 p1 p2
    have B2 := Lib.hid (HB.out.pgs HP.out HBB.out HG.out PU.out.2.2.2)
    refine (RD.out _ B2.out).mono ?_
    rintro e w3 ⟨q, rfl, HO⟩
    have HOB := Lib.hid HO.out.below
    have P3 := Lib.hid (PU.out.2.1.below HOB.out)
    have B3 := Lib.hid (B2.out.below HOB.out)
    have HO3 : Hid (∃ F, IsNd w3 F q (nd (hh + 1) l) ∧ ∀ k, F k → W2.heap.size ≤ k) := Lib.hid (by
      obtain ⟨F, a, bb, cc⟩ := HO.out
      exact ⟨F, a, bb⟩)
    obtain ⟨F3, f1, f2⟩ := HO3.out
    have N3 : RdIn w3 q (.inner (l.map (fun x : Kid hh => (x.1, x.2.1)))) F3 := f1.rdIn
    have c0 : w3.cell? ⟨q, 0, none⟩ = some (.bool false) := by obtain ⟨vk, vv, vi, a, bb⟩ := N3; exact cell_lit a.blk rfl
    obtain ⟨g1, o1, c1, g2, o2, c2, k1, k2, hFF, kc⟩ := inner_cells N3 (by simpa using hpos)
    rw [List.length_map] at k1 k2
    have NL : Hid (∀ wr, Upd (PgL b c (.slice xa (P.length + 1) xc)) w3 wr → ∀ k i x, F3 k → w3.cell? ⟨k, i, none⟩ = some x → wr.cell? ⟨k, i, none⟩ = some x) := Lib.hid fun wr hu k i x hk hx => by
      have h1 := f2 k hk
      refine (World.cell?_of_block (hu.block _ (World.block_lt_of_cell? _ _ hx) fun e => ?_)).trans hx
      have h2 := PU.out.2.1.bc
      have h3 := PU.out.2.1.cb
      have h4 := lt_of_heap PU.out.2.1.wk
      rcases e with e | e | e | e | e
      · simp only at e; omega
      · simp only at e; omega
      · simp only at e; omega
      · simp only at e; omega
      · have := (PU.out.2.1.row.lt _ e).2; simp only at this; omega
    have KC : Hid (∀ wr, Upd (PgL b c (.slice xa (P.length + 1) xc)) w3 wr → wr.cell? ⟨q, 0, none⟩ = some (.bool false) ∧ wr.cell? ⟨q, 3, none⟩ = some (.slice (some ⟨g2, o2, none⟩) l.length c2) ∧ ∀ i y, l[i]? = some y → wr.cell? ⟨g1, o1 + i, none⟩ = some (.string y.1) ∧ wr.cell? ⟨g2, o2 + i, none⟩ = some (.int .i64 (y.2.1 : Int))) := Lib.hid fun wr hu => ⟨NL.out wr hu q 0 _ hFF.1 c0, NL.out wr hu q 3 _ hFF.1 k2, fun i y hy => by
      obtain ⟨x1, x2⟩ := kc i (y.1, y.2.1) (by simp [hy])
      exact ⟨NL.out wr hu g1 _ _ hFF.2.1 x1, NL.out wr hu g2 _ _ hFF.2.2 x2⟩⟩
    clear N3 f1 f2 hFF kc NL HO RD k2
    generalize hTN : l.length = TN at *
    have HTN := Lib.hid hTN
    clear hTN
    go_wp2_with fail
    go_loopg [44] TN (fun gg s44 wr => ∃ (j : Nat), gg = TN - j ∧ j ≤ TN ∧ s44 = .int .i64 (j : Int) ∧ Hid (∃ vj lvj smj laj, PgS base wr b c tb (P ++ [p] ++ pgsL hh (l.take j)) vj lvj smj laj ∧ (∀ k, vj.ownBlock = some k → (Value.slice xa (P.length + 1) xc).ownBlock = some k ∨ w3.heap.size ≤ k) ∧ (lvj = -1 ∨ lvj = ((deep + (hh + 1) : Nat) : Int)) ∧ (smj = true → ∀ e ∈ ents (hh + 1) (l.drop j : List (Kid hh)), kless laj e.1 = true) ∧ (0 < j → lvj = ((deep + (hh + 1) : Nat) : Int) ∧ smj = true ∧ laj = lastK (ents (hh + 1) (l.take j : List (Kid hh))) la) ∧ Upd (PgL b c (.slice xa (P.length + 1) xc)) w3 wr))
    case atStart => exact ⟨0, rfl, Nat.zero_le _, rfl, Lib.hid ⟨_, lv, sm, la, by simpa [pgsL] using P3.out, fun k e => .inl e, HLV.out, fun hs e he => HSM.out hs e he, (fun h => absurd h (Nat.lt_irrefl _)), Upd.refl _ _⟩⟩
    case round =>
      obtain ⟨j, hgk, hj, rfl, HI⟩ := hrel
      obtain ⟨vj, lvj, smj, laj, ha, hn, hl1, hs1, hs2, hu⟩ := HI.out
      have HGK := Lib.hid hgk
      clear hgk
      by_cases hjl : j < TN
      · obtain ⟨y, hy⟩ : ∃ y, l[j]? = some y := ⟨_, List.getElem?_eq_getElem (by rw [HTN.out]; exact hjl)⟩
        obtain ⟨n1, n2, n3, n4, hym⟩ := kid_round HSRT.out HSEP.out HKP.out hy la laj smj hs1
        obtain ⟨-, -, e3⟩ := kid_next hy
        obtain ⟨k5, k6, kx⟩ := KC.out wr hu
        obtain ⟨kx', ky⟩ := kx j y hy
        clear kx
        obtain ⟨-, -, -, -, -, -, -, -, -, m5, -⟩ := ha.cells
        unfold walkV at m5
        have hBr : TBase w0 wr G G tb rb place n m S := by
          have hP3 := P3.out
          exact B3.out.pgs hP3 HBB.out HG.out hu
        have hcp : (P ++ [p] ++ pgsL hh (l.take j)).length + (pgs hh y.2.1 y.2.2).length ≤ 100000 := by
          have h1 : pgsL hh l = pgsL hh (l.take j) ++ pgs hh y.2.1 y.2.2 ++ pgsL hh (l.drop (j + 1)) := by
            obtain ⟨a1, -, -⟩ := kid_next hy
            conv => lhs; rw [a1]
            rw [show l.take j ++ y :: l.drop (j + 1) = l.take j ++ [y] ++ l.drop (j + 1) by simp, pgsL_app, pgsL_app, pgsL_one]
          have h2 := HCAP.out
          rw [h1] at h2
          simp at h2 ⊢; omega
        have hd := (Below.refl wr.heap.size wr).drew
        have hbw : base ≤ wr.drew.heap.size := by have := hu.size; have := HOB.out.size; have := PU.out.2.2.2.size; have := HBW.out; have := hd.size; omega
        have CLL : ∀ lo, (∀ e ∈ ents hh y.2.2, kless e.1 lo = false) → _ := fun lo hlo => IH.out wr.drew _ _ _ _ _ lo y hym (hBr.below hd) (ha.below hd) hbw hcp hl1 n1 hlo
        have HUD : Hid (Below wr.heap.size wr wr.drew) := Lib.hid hd
        have HWD : Hid (IntKind.i64.wrap ((deep : Int) + 1) = (deep : Int) + 1) := Lib.hid (wrap_small (by omega) (by omega))
        have hlt : (j : Int) < (TN : Int) := by omega
        have hj6 : j ≤ 65536 := by omega
        have HJ := Lib.hid hjl
        have HN := Lib.hid hn
        have HU := Lib.hid hu
        have HE3 := Lib.hid e3
        have HN2 := Lib.hid n2
        have HN3 := Lib.hid n3
        have HA := Lib.hid ha
        have HLO : Hid (∃ lo, ((j = 0 ∧ lo = low) ∨ (0 < j ∧ lo = y.1)) ∧ ∀ e ∈ ents hh y.2.2, kless e.1 lo = false) := Lib.hid (by
          rcases Nat.eq_zero_or_pos j with h0 | h0
          · exact ⟨low, .inl ⟨h0, rfl⟩, fun e he => HLOW.out e ((ents_mem hh l e).2 ⟨y, hym, he⟩)⟩
          · exact ⟨y.1, .inr ⟨h0, rfl⟩, n4 h0⟩)
        obtain ⟨lo, hlo, hlo2⟩ := HLO.out
        have CL := Lib.hid (CLL lo hlo2)
        have HY := Lib.hid hy
        clear CLL hlo2 HLO ha hn hl1 hs1 hs2 hu HI IH n1 n2 n3 n4 hym e3 hBr hcp hd hbw hjl hj hy
        have HJD : Hid ((((j : Int) == 0) = true ∧ lo = low) ∨ (((j : Int) == 0) = false ∧ lo = y.1)) := Lib.hid (by
          rcases hlo with ⟨hz, hlo⟩ | ⟨hz, hlo⟩
          · exact .inl ⟨by simp; omega, hlo⟩
          · exact .inr ⟨by simp; omega, hlo⟩)
        clear hlo
        rcases HJD.out with ⟨hz, rfl⟩ | ⟨hz, rfl⟩
        all_goals (
          go_wp2_with fail
          go_region_held3 (fun w' => w'.cell? ⟨c + 1 + 1 + 1, 0, none⟩ = some (.func (Fn.func 87) #[] #[.pointer (some ⟨b + 1, 0, none⟩), .pointer (some ⟨b, 0, none⟩), .pointer (some ⟨c, 0, none⟩), .pointer (some ⟨c + 1 + 1, 0, none⟩), .pointer (some ⟨c + 1, 0, none⟩), .pointer (some ⟨c + 1 + 1 + 1, 0, none⟩)]) ∧ w'.cell? ⟨q, 3, none⟩ = some (.slice (some ⟨g2, o2, none⟩) TN c2) ∧ w'.cell? ⟨g2, o2 + j, none⟩ = some (.int .i64 (y.2.1 : Int))) (go_keep) ((go_at_call 87; refine Calls.at_args CL.out (by first | with_reducible rfl | rw [HWD.out]) ?_; rintro e w7 ⟨rfl, HE⟩; have hk7 := walk_kept HE.out; have ⟨_, hk8, hk9⟩ := KC.out w7 (PgGo.trans HU.out HN.out (PgGo.below_left HUD.out HE.out)).2; have hk10 := (hk9 j y HY.out).2; clear hk9)))
        all_goals (
          go_wp2_with fail
          go_roundg (TN - (j + 1)))
        all_goals (first
          | (case measure => have := HGK.out; have := HJ.out; omega)
          | (case rel => 
              have HE2 := PgGo.below_left HUD.out HE.out
              obtain ⟨⟨v7, x1, x2⟩, x3⟩ := PgGo.trans HU.out HN.out HE2
              exact ⟨j + 1, rfl, HJ.out, by congr 1, Lib.hid ⟨v7, _, true, _, by rw [HE3.out, pgsL_app, pgsL_one, ← List.append_assoc]; exact x1, x2, .inr rfl, fun _ => HN2.out, fun _ => ⟨rfl, rfl, HN3.out.symm⟩, x3⟩⟩))
      · have hje : j = TN := by omega
        have HRES : Hid (PgGo base W wr b c tb (.slice va P.length vc) (P ++ pgs (hh + 1) p l) ((deep + (hh + 1) : Nat) : Int) true (lastK (ents (hh + 1) l) la)) := Lib.hid (by
          obtain ⟨hw, hx, hz⟩ := hs2 (by omega)
          subst hx hw
          rw [hje, ← HTN.out, List.take_length] at hz ha
          subst hz
          rw [List.append_assoc] at ha
          exact PgGo.trans PU.out.2.2.2 PU.out.2.2.1 (PgGo.below_left HOB.out ⟨⟨_, ha, hn⟩, hu⟩))
        have hlt : ¬ (j : Int) < (TN : Int) := by omega
        have hlt2 : decide ((j : Int) < (TN : Int)) = false := by simp; omega
        clear ha hn hl1 hs1 hs2 hu HI hj hje hjl
        go_wp2_with fail
        first | (go_end0; exact ⟨rfl, HRES⟩) | (go_end0; go_wp2; exact ⟨rfl, HRES⟩)
end Go.Proofs.YtaibjcjphmhgmaaGreatDoor
namespace Go.Proofs.YtaibjcjphmhgmaaGreatDoor
set_option linter.unusedVariables false
set_option maxRecDepth 100000
set_option maxHeartbeats 4000000
open Go.RowKit
/-- slices.Sort at a slice of pages that the call owns. -/
theorem Sort_c (base : Nat) (w : World) (v : Value) (P : List Nat) (h : w.ownsRow base 3 1 v P.length (P.map encN)) (hp : 0 < P.length) (hl : P.length ≤ 100000) :
    Calls Tryz.prog 88 #[v] w fun e w' => e = .returned (.tuple #[]) ∧ Hid (∃ Q : List Nat, Q.Perm P ∧ Q.Pairwise (fun a b => a ≤ b) ∧ w'.ownsRow base 3 1 v P.length (Q.map encN) ∧ w.grownBy w' v.ownBlock) := by
  rcases h.2 with ⟨rfl, h0⟩ | ⟨g, cap, cur, rfl, h1, h2, h3, h4, h5, h6⟩
  · omega
  have e1 : P.map encN = (P.map fun c : Nat => (c : Int)).map (Value.int .i64) := by rw [List.map_map]; rfl
  have hz : (P.map fun c : Nat => (c : Int)).length = P.length := List.length_map _
  rw [Nat.mul_one] at h6
  have hH := holds_of_blockI (ss := P.map fun c : Nat => (c : Int)) h2 (by rw [hz, ← e1]; exact h6)
  have hs := Tryz.slices_Sort_int g 0 cap (P.map fun c : Nat => (c : Int)) w hH (lt_of_heap h2) (by rw [hz]; omega)
  rw [hz] at hs
  refine hs.mono ?_
  rintro e w' ⟨rfl, n, os, rfl⟩
  have hm : (P.map fun c : Nat => (c : Int)).mergeSort (fun x y => decide (x ≤ y)) = (P.mergeSort fun x y => decide (x ≤ y)).map fun c : Nat => (c : Int) := by
    rw [List.map_mergeSort]
    intro a _ b _
    simp
  have hpm : (P.mergeSort fun x y => decide (x ≤ y)).Perm P := List.mergeSort_perm _ _
  refine ⟨rfl, Lib.hid ⟨P.mergeSort fun x y => decide (x ≤ y), hpm, ?_, ?_, grownBy_sortedI _⟩⟩
  · have := List.pairwise_mergeSort (le := fun x y : Nat => decide (x ≤ y)) (fun a b c h1 h2 => by simp at *; omega) (fun a b => by simp; omega) P
    exact this.imp fun h => by simpa using h
  · rw [hm]
    have hll : ((P.mergeSort fun x y => decide (x ≤ y)).map fun c : Nat => (c : Int)).length = (P.map fun c : Nat => (c : Int)).length := by rw [List.length_map, List.length_map]; exact hpm.length_eq
    have := ownsRow_sortedI (n := n) (os := os) hll h1 h2 (by rw [hz]; exact h3) h4 h5
    rw [hz, List.map_map] at this
    exact this
/-- What Pages leaves: the pages in order. -/
def PagesRes (w w' : World) (G : Nat → Prop) (rb n m : Nat) (S : RS) (P : List Nat) (v : Value) : Prop :=
  (∃ Q : List Nat, Q.Perm P ∧ Q.Pairwise (fun a b => a ≤ b) ∧ w'.ownsRow (w.heap.size + 3) 3 1 v P.length (Q.map encN)) ∧ StK w w' G rb n m S
/-- The call's own variables: the tree, the pages, the error. -/
structure PgLoc (W : World) (b tb : Nat) : Prop where
  b0 : W.heap[b]? = some (.cells #[.pointer (some ⟨tb, 0, none⟩)] 69 (0, 0))
  b1 : W.heap[b + 1]? = some (.cells #[.slice none 0 0] 100 (0, 0))
  b2 : W.heap[b + 1 + 1]? = some (.cells #[.int .i64 0] 41 (0, 0))
theorem PgLoc.upd {W W' : World} {b tb : Nat} {G : Nat → Prop} (h : PgLoc W b tb) (hu : Upd G W W') (hn : ∀ k, b ≤ k → k < b + 3 → ¬ G k) : PgLoc W' b tb :=
  ⟨hu.at h.b0 (hn _ (by omega) (by omega)), hu.at h.b1 (hn _ (by omega) (by omega)), hu.at h.b2 (hn _ (by omega) (by omega))⟩
theorem PgLoc.below {W W' : World} {b tb : Nat} (h : PgLoc W b tb) (hb : Below W.heap.size W W') : PgLoc W' b tb := h.upd (hb.upd' (Nat.le_refl _)) (fun _ _ _ e => e)
theorem PgLoc.cells {W : World} {b tb : Nat} (h : PgLoc W b tb) : W.cell? ⟨b, 0, none⟩ = some (.pointer (some ⟨tb, 0, none⟩)) ∧ W.cell? ⟨b + 1, 0, none⟩ = some (.slice none 0 0) ∧ W.cell? ⟨b + 1 + 1, 0, none⟩ = some (.int .i64 0) ∧ W.frozen? ⟨b + 1, 0, none⟩ = false ∧ W.frozen? ⟨b + 1 + 1, 0, none⟩ = false ∧ b < W.heap.size ∧ b + 1 + 1 < W.heap.size :=
  ⟨cell_lit h.b0 rfl, cell_lit h.b1 rfl, cell_lit h.b2 rfl, frozen_lit h.b1 0, frozen_lit h.b2 0, lt_of_heap h.b0, lt_of_heap h.b2⟩
def pagesW (w : World) (tb : Nat) : World := ((w.alloc (.cells #[.pointer (some ⟨tb, 0, none⟩)] 69)).alloc (.cells #[.slice none 0 0] 100)).alloc (.cells #[.int .i64 0] 41)
theorem pagesW_below (w : World) (tb : Nat) : Below w.heap.size w (pagesW w tb) := (((Below.refl w.heap.size w).alloc (Nat.le_refl _) _).alloc (by simp) _).alloc (by simp; omega) _
theorem pagesW_size (w : World) (tb : Nat) : (pagesW w tb).heap.size = w.heap.size + 3 := by unfold pagesW; simp
theorem pagesW_loc (w : World) (tb : Nat) : PgLoc (pagesW w tb) w.heap.size tb := by
  refine ⟨?_, ?_, ?_⟩
  · unfold pagesW; rw [heap_alloc_at, if_neg (by simp; omega), heap_alloc_at, if_neg (by simp), heap_alloc_new]
  · unfold pagesW; rw [heap_alloc_at, if_neg (by simp), heap_alloc_at, if_pos (by simp)]
  · unfold pagesW; rw [heap_alloc_at, if_pos (by simp)]
theorem Pages_none (G : Nat → Prop) (tb rb place n m : Nat) (S : RS) (w : World) (h : RmS w G rb n m S) (ht : TB w tb rb place) (hg : ¬ G tb) (hp : place < 16) (hm : m ≤ 3900000) (hr : S.root place = 0) :
    Calls Tryz.prog 47 #[.pointer (some ⟨tb, 0, none⟩)] w fun e w' => ∃ v, e = .returned (.tuple #[v, .int .i64 0]) ∧ Hid (PagesRes w w' G rb n m S [] v) := by
  have hmf : ∀ (fn : Fn) (first cap : Array Value) (w : World), (Instr.makeFunc fn first cap).run Tryz.prog w = .ok (.func fn first cap) w := fun _ _ _ _ => rfl
  have B0 := Lib.hid ((TBase.start h ht hg).below (pagesW_below w tb))
  have HG := Lib.hid h.lt
  have L0 := pagesW_loc w tb
  have S0 := Lib.hid (pagesW_size w tb)
  have RT := root_c G tb rb place n m S _ B0.out.room B0.out.blk hp (by omega) (by rw [hr]; omega)
  rw [hr] at RT
  have HL0 := Lib.hid L0
  clear h ht hg hp hm hr L0
  go_enter_defers Tryz.func47, Tryz.ntmps47
  go_wp2_with fail
  change Calls Tryz.prog 70 #[.pointer (some ⟨tb, 0, none⟩)] (pagesW w tb) _
  generalize pagesW w tb = W0 at *
  refine RT.mono ?_
  rintro e w2 ⟨rfl, hb⟩
  have B9 := Lib.hid (B0.out.below hb.out)
  have L9 := Lib.hid (HL0.out.below hb.out)
  obtain ⟨m0, m1, m2, m3, m4, m5, m6⟩ := L9.out.cells
  have hfl : ((w2.setCell ⟨w.heap.size + 1, 0, none⟩ (.slice none 0 0)).setCell ⟨w.heap.size + 1 + 1, 0, none⟩ (.int .i64 0)).cell? ⟨w.heap.size + 1, 0, none⟩ = some (.slice none 0 0) := cell_lit ((heap_set_ne _ (by omega)).trans (heap_set_lit L9.out.b1 _)) rfl
  have hfe : ((w2.setCell ⟨w.heap.size + 1, 0, none⟩ (.slice none 0 0)).setCell ⟨w.heap.size + 1 + 1, 0, none⟩ (.int .i64 0)).cell? ⟨w.heap.size + 1 + 1, 0, none⟩ = some (.int .i64 0) := cell_lit (heap_set_lit ((heap_set_ne _ (by omega)).trans L9.out.b2) _) rfl
  have HRES : Hid (PagesRes w ((w2.setCell ⟨w.heap.size + 1, 0, none⟩ (.slice none 0 0)).setCell ⟨w.heap.size + 1 + 1, 0, none⟩ (.int .i64 0)) G rb n m S [] (.slice none 0 0)) := Lib.hid
    ⟨⟨[], List.Perm.refl _, List.Pairwise.nil, World.ownsRow_nil _ _ _ _⟩, (((StG.of B9.out (Below.refl _ _)).loc (x := w.heap.size + 1) (by omega) (fun e => by have := HG.out _ e; omega) 0 _).loc (x := w.heap.size + 1 + 1) (by omega) (fun e => by have := HG.out _ e; omega) 0 _).keep⟩
  clear B0 HL0 RT hb
  go_wp2_with fail
  refine leaves_cons (f := 69) (args := #[.pointer (some ⟨w.heap.size + 1 + 1, 0, none⟩)]) (by simp) (by simp [go_sem]) ?_
  refine (guard_idle _ _).mono ?_
  rintro e u' wa ⟨rfl, rfl, rfl⟩
  refine leaves_cons (f := 86) (args := #[.pointer (some ⟨w.heap.size + 1 + 1, 0, none⟩), .pointer (some ⟨w.heap.size + 1, 0, none⟩)]) (by simp [settle]) (by simp [go_sem]) ?_
  refine (pages1_idle _ _ _ _ hfe).mono ?_
  rintro e u' wb ⟨rfl, rfl, rfl⟩
  simp [Leaves, settle, results, Tryz.results47, go_sem, hfe, hfl]
  exact HRES
/-- The walk's variables, ahead of it. -/
def walkW (w2 : World) (b c : Nat) : World := (((w2.alloc (.cells #[.int .i64 (-1)] 3)).alloc (.cells #[.string ⟨#[]⟩] 9)).alloc (.cells #[.bool false] 4)).alloc (.cells #[walkV b c] 154)
theorem walkW_ok {w w2 : World} {G : Nat → Prop} {tb rb place n m b c : Nat} {S : RS} (hL : PgLoc w2 w.heap.size tb) (hB : TBase w w2 G G tb rb place n m S) (hb : w.heap.size = b) (hc : w2.heap.size = c) (hbc : b + 3 ≤ c) :
    TBase w (walkW w2 b c) G G tb rb place n m S ∧ PgS (c + 4) (walkW w2 b c) b c tb [] (.slice none 0 0) (-1) false ⟨#[]⟩ ∧ (walkW w2 b c).heap.size = c + 4 ∧ (walkW w2 b c).heap[b + 1 + 1]? = some (.cells #[.int .i64 0] 41 (0, 0)) := by
  subst hb hc
  have hbl : Below w2.heap.size w2 (walkW w2 w.heap.size w2.heap.size) := ((((Below.refl w2.heap.size w2).alloc (Nat.le_refl _) _).alloc (by simp) _).alloc (by simp <;> omega) _).alloc (by simp <;> omega) _
  have L := hL.below hbl
  have hs : (walkW w2 w.heap.size w2.heap.size).heap.size = w2.heap.size + 4 := by unfold walkW; simp
  refine ⟨hB.below hbl, ⟨L.b1, World.ownsRow_nil _ _ _ _, L.b0, ?_, ?_, ?_, ?_, hbc, Nat.le_refl _⟩, hs, L.b2⟩
  · unfold walkW; rw [heap_alloc_at, if_neg (by simp <;> omega), heap_alloc_at, if_neg (by simp <;> omega), heap_alloc_at, if_neg (by simp), heap_alloc_new]
  · unfold walkW; rw [heap_alloc_at, if_neg (by simp <;> omega), heap_alloc_at, if_neg (by simp), heap_alloc_at, if_pos (by simp)]
  · unfold walkW; rw [heap_alloc_at, if_neg (by simp), heap_alloc_at, if_pos (by simp)]
  · unfold walkW; rw [heap_alloc_at, if_pos (by simp)]
theorem ownsRow_base {w : World} {base base' s n : Nat} {e : TypeId} {v : Value} {xs : List Value} (h : w.ownsRow base e s v n xs) (hb : base' ≤ base) : w.ownsRow base' e s v n xs :=
  ⟨h.1, h.2.imp id fun ⟨g, cap, cur, e1, e2, r⟩ => ⟨g, cap, cur, e1, Nat.le_trans hb e2, r⟩⟩
/-- Behind the walk. -/
theorem pages_rest {w w4 w9 : World} {G : Nat → Prop} {tb rb place n m b c : Nat} {S : RS} {P : List Nat} {lv : Int} {sm : Bool} {la : ByteArray}
    (h4 : TBase w w4 G G tb rb place n m S ∧ PgS (c + 4) w4 b c tb [] (.slice none 0 0) (-1) false ⟨#[]⟩ ∧ w4.heap.size = c + 4 ∧ w4.heap[b + 1 + 1]? = some (.cells #[.int .i64 0] 41 (0, 0)))
    (hgo : PgGo (c + 4) w4 w9 b c tb (.slice none 0 0) ([] ++ P) lv sm la) (hb : w.heap.size = b) (hbc : b + 3 ≤ c) (hG : ∀ k, G k → k < w.heap.size) :
    ∃ v9, w9.cell? ⟨b + 1, 0, none⟩ = some v9 ∧ b + 1 < w9.heap.size ∧ w9.ownsRow (c + 4) 3 1 v9 P.length (P.map encN) ∧ ∀ w10, (∃ Q : List Nat, Q.Perm P ∧ Q.Pairwise (fun a b => a ≤ b) ∧ w10.ownsRow (c + 4) 3 1 v9 P.length (Q.map encN) ∧ w9.grownBy w10 v9.ownBlock) →
      w10.cell? ⟨b + 1, 0, none⟩ = some v9 ∧ w10.frozen? ⟨b + 1, 0, none⟩ = false ∧ w10.cell? ⟨b + 1 + 1, 0, none⟩ = some (.int .i64 0) ∧ w10.frozen? ⟨b + 1 + 1, 0, none⟩ = false ∧ b + 1 < w10.heap.size ∧ b + 1 + 1 < w10.heap.size ∧
      ((w10.setCell ⟨b + 1, 0, none⟩ v9).setCell ⟨b + 1 + 1, 0, none⟩ (.int .i64 0)).cell? ⟨b + 1, 0, none⟩ = some v9 ∧ ((w10.setCell ⟨b + 1, 0, none⟩ v9).setCell ⟨b + 1 + 1, 0, none⟩ (.int .i64 0)).cell? ⟨b + 1 + 1, 0, none⟩ = some (.int .i64 0) ∧
      PagesRes w ((w10.setCell ⟨b + 1, 0, none⟩ v9).setCell ⟨b + 1 + 1, 0, none⟩ (.int .i64 0)) G rb n m S P v9 := by
  obtain ⟨hB, hP, hs, he⟩ := h4
  obtain ⟨⟨v9, p9, -⟩, u9⟩ := hgo
  rw [List.nil_append] at p9
  refine ⟨v9, cell_lit p9.pg rfl, lt_of_heap p9.pg, p9.row, ?_⟩
  rintro w10 ⟨Q, q1, q2, q3, q4⟩
  have e9 : w9.heap[b + 1 + 1]? = some (.cells #[.int .i64 0] 41 (0, 0)) := u9.at he fun hk => by
    rcases hk with e | e | e | e | e
    · omega
    · omega
    · omega
    · omega
    · simp [Value.ownBlock] at e
  have hu : Upd (fun k => v9.ownBlock = some k) w9 w10 := (Upd.refl _ _).grown q4 fun k e => .inl e
  have hrow : ∀ k, v9.ownBlock = some k → c + 4 ≤ k := fun k e => p9.rowlt k e
  have n1 : ¬ v9.ownBlock = some (b + 1) := fun e => by have := hrow _ e; omega
  have n2 : ¬ v9.ownBlock = some (b + 1 + 1) := fun e => by have := hrow _ e; omega
  have p10 := hu.at p9.pg n1
  have e10 := hu.at e9 n2
  have B9 := hB.pgs hP (by omega) hG u9
  have B10 : TBase w w10 G G tb rb place n m S := B9.node hu fun k hk => by
    have := hrow k hk
    exact ⟨by omega, fun e => by have := hG k e; omega⟩
  refine ⟨cell_lit p10 rfl, frozen_lit p10 0, cell_lit e10 rfl, frozen_lit e10 0, lt_of_heap p10, lt_of_heap e10, cell_lit ((heap_set_ne _ (by omega)).trans (heap_set_lit p10 _)) rfl, cell_lit (heap_set_lit ((heap_set_ne _ (by omega)).trans e10) _) rfl, ⟨Q, q1, q2, ?_⟩, ?_⟩
  · refine ownsRow_base (ownsRow_of2 q3 fun k hk => ?_) (by omega : w.heap.size + 3 ≤ c + 4)
    have := hrow k hk
    exact (heap_set_ne _ (by omega)).trans (heap_set_ne _ (by omega))
  · exact (((StG.of B10 (Below.refl _ _)).loc (x := b + 1) (by omega) (fun e => by have := hG _ e; omega) 0 _).loc (x := b + 1 + 1) (by omega) (fun e => by have := hG _ e; omega) 0 _).keep
theorem Pages_some (G : Nat → Prop) (tb rb place n m : Nat) (S : RS) (hh p : Nat) (t : PT hh) (w : World) (h : RmS w G rb n m S) (ht : TB w tb rb place) (hg : ¬ G tb) (hp : place < 16) (hm : m ≤ 3900000) (hr : S.root place = p + 1) (hT : Tr S hh p t) (hh20 : hh ≤ 20) (hl0 : (pgs hh p t).length ≤ 100000) :
    Calls Tryz.prog 47 #[.pointer (some ⟨tb, 0, none⟩)] w fun e w' => ∃ v, e = .returned (.tuple #[v, .int .i64 0]) ∧ Hid (PagesRes w w' G rb n m S (pgs hh p t) v) := by
  have hmf : ∀ (fn : Fn) (first cap : Array Value) (w : World), (Instr.makeFunc fn first cap).run Tryz.prog w = .ok (.func fn first cap) w := fun _ _ _ _ => rfl
  have hsf : ∀ (a : Addr) (fn : Fn) (f c : Array Value) (w : World), (store a (.func fn f c)).run Tryz.prog w = stored Tryz.prog w a (.func fn f c) .plain := fun a fn f c w => run_store Tryz.prog w a (.func fn f c) .plain rfl
  have hp65 : p < 65536 := by
    have := h.lim p hT.on.top.1
    have := h.bounds
    unfold pagesN at *; omega
  have B0 := Lib.hid ((TBase.start h ht hg).below (pagesW_below w tb))
  have HG := Lib.hid h.lt
  have HM := Lib.hid hm
  have L0 := pagesW_loc w tb
  have S0 := Lib.hid (pagesW_size w tb)
  have RT := root_c G tb rb place n m S _ B0.out.room B0.out.blk hp (by omega) (by rw [hr]; omega)
  rw [hr, show (((p + 1 : Nat) : Int) - 1) = (p : Int) by omega] at RT
  have HT := Lib.hid hT
  have HH := Lib.hid hh20
  have HL0 := Lib.hid hl0
  have HLC := Lib.hid L0
  have hp0 : (0 : Int) ≤ (p : Int) := by omega
  clear h ht hg hp hm hr hT hh20 hl0 hp65 L0
  go_enter_defers Tryz.func47, Tryz.ntmps47
  go_wp2_with fail
  change Calls Tryz.prog 70 #[.pointer (some ⟨tb, 0, none⟩)] (pagesW w tb) _
  generalize pagesW w tb = W0 at *
  refine RT.mono ?_
  rintro e w2 ⟨rfl, hb⟩
  have B2 := Lib.hid (B0.out.below hb.out)
  have L2 := Lib.hid (HLC.out.below hb.out)
  obtain ⟨m0, m1, m2, m3, m4, m5, m6⟩ := L2.out.cells
  obtain ⟨b, hbe⟩ : ∃ b, w.heap.size = b := ⟨_, rfl⟩
  obtain ⟨c, hce⟩ : ∃ c, w2.heap.size = c := ⟨_, rfl⟩
  have HBE := Lib.hid hbe
  have HBC : Hid (b + 3 ≤ c) := Lib.hid (by have := hb.out.size; have := S0.out; omega)
  have HW4 := Lib.hid (walkW_ok (w := w) L2.out B2.out hbe hce HBC.out)
  have WK := Lib.hid (walk_c hh w (walkW w2 b c) G tb rb place n m S p t ⟨#[]⟩ b c 0 (c + 4) [] (.slice none 0 0) (-1) false ⟨#[]⟩ HW4.out.1 HW4.out.2.1 (by omega) (by have := HW4.out.2.2.1; omega) HG.out HT.out (by have := HH.out; omega) HM.out (by have := HL0.out; simpa using this) (.inl rfl) (fun e => by cases e) (fun e _ => kless_empty e.1))
  clear RT hb B0 HLC
  go_wp2_with fail
  subst hce
  try rw [hbe]
  change Calls Tryz.prog 87 _ (walkW w2 b w2.heap.size) _
  refine WK.out.mono ?_
  rintro e w9 ⟨rfl, HE⟩
  have HK := Lib.hid (pages_rest (w := w) HW4.out HE.out hbe HBC.out HG.out)
  clear HW4 WK HE m0 m1 m2 m3 m4 m5 m6 L2 B2
  obtain ⟨v9, hc9, hl9, hr9, hk9⟩ := HK.out
  have HR9 := Lib.hid hr9
  have HK9 := Lib.hid hk9
  have SO := Lib.hid (Sort_c _ _ _ _ hr9 (List.length_pos_of_mem (pgs_mem hh p t)) HL0.out)
  clear hr9 hk9 HK
  go_wp2_with fail
  refine SO.out.mono ?_
  rintro e w10 ⟨rfl, HQ⟩
  obtain ⟨xa, xm, xc, hv9⟩ : ∃ a m c, v9 = .slice a m c := by
    rcases HR9.out.2 with ⟨rfl, _⟩ | ⟨g, cap, cur, rfl, _⟩
    · exact ⟨_, _, _, rfl⟩
    · exact ⟨_, _, _, rfl⟩
  have HF := Lib.hid (HK9.out w10 HQ.out)
  obtain ⟨m0, m1, m2, m3, m4, m5, hfl, hfe, hres⟩ := HF.out
  have HRES := Lib.hid hres
  subst hv9
  clear SO HR9 HK9 HQ HF hres hc9 hl9
  go_wp2_with fail
  refine leaves_cons (f := 69) (args := #[.pointer (some ⟨b + 1 + 1, 0, none⟩)]) (by simp) (by simp [go_sem]) ?_
  refine (guard_idle _ _).mono ?_
  rintro e u' wa ⟨rfl, rfl, rfl⟩
  refine leaves_cons (f := 86) (args := #[.pointer (some ⟨b + 1 + 1, 0, none⟩), .pointer (some ⟨b + 1, 0, none⟩)]) (by simp [settle]) (by simp [go_sem]) ?_
  refine (pages1_idle _ _ _ _ hfe).mono ?_
  rintro e u' wb ⟨rfl, rfl, rfl⟩
  simp [Leaves, settle, results, Tryz.results47, go_sem, hfe, hfl]
  exact HRES
end Go.Proofs.YtaibjcjphmhgmaaGreatDoor
namespace Go.Proofs.YtaibjcjphmhgmaaGreatDoor
set_option linter.unusedVariables false
set_option maxRecDepth 100000
set_option maxHeartbeats 1000000
open Go.RowKit
/-- A room whose blocks are all new since w1, and not among those of K. -/
def RSt (w1 w : World) (K : Nat → Prop) (rb n m : Nat) (S : RS) : Prop :=
  ∃ G, RmS w G rb n m S ∧ (∀ k, G k → w1.heap.size ≤ k) ∧ (∀ k, K k → k < w.heap.size ∧ ¬ G k) ∧ Below w1.heap.size w1 w
/-- These blocks are as they were. -/
def Kept (K : Nat → Prop) (w w' : World) : Prop := ∀ k, K k → w'.heap[k]? = w.heap[k]?
section
variable {w1 w w' : World} {K : Nat → Prop} {rb n m : Nat} {S : RS}
theorem Kept.trans {w2 : World} (h : Kept K w w') (g : Kept K w' w2) : Kept K w w2 := fun k hk => (g k hk).trans (h k hk)
theorem Kept.mono {K' : Nat → Prop} (h : Kept K w w') (hK : ∀ k, K' k → K k) : Kept K' w w' := fun k hk => h k (hK k hk)
theorem Kept.row {base : Nat} {e : TypeId} {s : Nat} {v : Value} {c : Nat} {xs : List Value} (h : w.ownsRow base e s v c xs) (hk : Kept K w w') (hv : ∀ k, v.ownBlock = some k → K k) : w'.ownsRow base e s v c xs := ownsRow_of2 h fun k e => hk k (hv k e)
theorem Kept.tb {tb place : Nat} (h : Kept K w w') (ht : TB w tb rb place) (hk : K tb) : TB w' tb rb place := (h tb hk).trans ht
theorem RSt.below (h : RSt w1 w K rb n m S) (hb : Below w.heap.size w w') : RSt w1 w' (fun k => K k ∨ (w.heap.size ≤ k ∧ k < w'.heap.size)) rb n m S ∧ Kept K w w' := by
  obtain ⟨G, a, b, d, e⟩ := h
  refine ⟨⟨G, a.below hb, b, fun k hk => ?_, e.trans (hb.mono e.size)⟩, fun k hk => hb.block k (d k hk).1⟩
  rcases hk with hk | hk
  · exact ⟨Nat.lt_of_lt_of_le (d k hk).1 hb.size, (d k hk).2⟩
  · exact ⟨hk.2, fun hg => by have := a.lt k hg; omega⟩
theorem RSt.mono {K' : Nat → Prop} (h : RSt w1 w K rb n m S) (hK : ∀ k, K' k → K k) : RSt w1 w K' rb n m S := by
  obtain ⟨G, a, b, d, e⟩ := h
  exact ⟨G, a, b, fun k hk => d k (hK k hk), e⟩
theorem RSt.more {m' : Nat} (h : RSt w1 w K rb n m S) (hm : m ≤ m') : RSt w1 w K rb n m' S := by
  obtain ⟨G, a, b, d, e⟩ := h
  exact ⟨G, a.more hm, b, d, e⟩
theorem RSt.bel (h : RSt w1 w K rb n m S) : Below w1.heap.size w1 w := by obtain ⟨G, a, b, d, e⟩ := h; exact e
theorem RSt.bounds (h : RSt w1 w K rb n m S) : 1 ≤ n ∧ n ≤ 65335 := by obtain ⟨G, a, b, d, e⟩ := h; exact a.bounds
theorem RSt.of {G : Nat → Prop} {S' : RS} {m' : Nat} (b : ∀ k, G k → w1.heap.size ≤ k) (d : ∀ k, K k → k < w.heap.size ∧ ¬ G k) (e : Below w1.heap.size w1 w) (h : StGo w w' G rb n m' S') : RSt w1 w' K rb n m' S' ∧ Kept K w w' := by
  obtain ⟨G', r, t⟩ := h
  have hs := e.size
  refine ⟨⟨G', r, fun k hk => ?_, fun k hk => ⟨Nat.lt_of_lt_of_le (d k hk).1 t.upd.size, fun hg => ?_⟩, e.trans (t.upd.below hs fun k hk hg => by have := b k hg; omega)⟩, fun k hk => t.upd.block k (d k hk).1 (d k hk).2⟩
  · rcases t.sub k hk with h1 | h1
    · exact b k h1
    · omega
  · rcases t.sub k hg with h1 | h1
    · exact (d k hk).2 h1
    · have := (d k hk).1; omega
/-- .. where its blocks stay the same ones, new blocks are not among them. -/
theorem RSt.ofK {G : Nat → Prop} {S' : RS} {m' : Nat} (a : RmS w G rb n m S) (b : ∀ k, G k → w1.heap.size ≤ k) (d : ∀ k, K k → k < w.heap.size ∧ ¬ G k) (e : Below w1.heap.size w1 w) (h : StK w w' G rb n m' S') : RSt w1 w' (fun k => K k ∨ (w.heap.size ≤ k ∧ k < w'.heap.size)) rb n m' S' ∧ Kept K w w' := by
  have hs := e.size
  refine ⟨⟨G, h.1, b, fun k hk => ?_, e.trans (h.2.below hs fun k hk hg => by have := b k hg; omega)⟩, fun k hk => h.2.block k (d k hk).1 (d k hk).2⟩
  rcases hk with hk | hk
  · exact ⟨Nat.lt_of_lt_of_le (d k hk).1 h.2.size, (d k hk).2⟩
  · exact ⟨hk.2, fun hg => by have := a.lt k hg; omega⟩
end
theorem nodup_len : ∀ (N : Nat) (P : List Nat), P.Nodup → (∀ q ∈ P, q < N) → P.length ≤ N
  | 0, P, _, h => by
    cases P with
    | nil => simp
    | cons x P => exact absurd (h x (by simp)) (Nat.not_lt_zero _)
  | N + 1, P, hn, h => by
    by_cases hN : N ∈ P
    · have hl := List.length_erase_of_mem hN
      have hp := List.length_pos_of_mem hN
      have := nodup_len N (P.erase N) (hn.erase N) fun q hq => by
        have h1 := (hn.mem_erase_iff).1 hq
        have := h q h1.2
        have := h1.1
        omega
      omega
    · have := nodup_len N P hn fun q hq => by
        have := h q hq
        have : q ≠ N := fun e => hN (e ▸ hq)
        omega
      omega
theorem TreeSt.few {S : RS} {place n m rb : Nat} {o : Option TT} {w : World} {G : Nat → Prop} (h : TreeSt S place o) (hr : RmS w G rb n m S) : (pgsO o).length ≤ 100000 := by
  cases o with
  | none => simp [pgsO]
  | some T =>
    have h1 := nodup_len (pagesN n) _ h.2.nod fun q hq => hr.lim q (h.2.on.used q hq)
    have h2 := hr.bounds
    show (pgs T.h T.p T.t).length ≤ 100000
    unfold pagesN at *; omega
section
variable (w1 w : World) (K : Nat → Prop) (tb rb place n m : Nat) (S : RS) (o : Option TT)
theorem put_r (k : Nat) (key val : ByteArray) (h : RSt w1 w K rb n m S) (ht : TB w tb rb place) (hK : K tb) (ho : TreeSt S place o) (hs : Spare S n (k + 2)) (hp : place < 16) (hm : m ≤ 3900000) (hks : key.size ≤ 96) (hvs : val.size ≤ 56) (hk20 : k ≤ 20) (hh : hgtO o ≤ k) :
    Calls Tryz.prog 31 #[.pointer (some ⟨tb, 0, none⟩), .string key, .string val] w fun e w' => e = .returned (.int .i64 0) ∧ Hid (∃ S' o', RSt w1 w' K rb n (m + 100) S' ∧ Kept K w w' ∧ PutGo place n S S' o o' key val) := by
  obtain ⟨G, a, b, d, e⟩ := h
  have fin : ∀ w', PutEnd w w' G rb n m place S o key val → ∃ S' o', RSt w1 w' K rb n (m + 100) S' ∧ Kept K w w' ∧ PutGo place n S S' o o' key val := fun w' ⟨S', o', hs, hg⟩ =>
    ⟨S', o', (RSt.of b d e hs).1, (RSt.of b d e hs).2, hg⟩
  cases o with
  | none =>
    refine (Put_new G tb rb place n m S key val w a ht (d tb hK).2 hp hm hks hvs ho (hs.less (by omega))).mono ?_
    rintro e w' ⟨rfl, hE⟩
    exact ⟨rfl, Lib.hid (fin w' hE.out)⟩
  | some T =>
    have hT : T.h ≤ k := hh
    refine (Put_old G tb rb place n m S T key val w a ht (d tb hK).2 hp hm hks hvs ho (by omega) (hs.less (by omega))).mono ?_
    rintro e w' ⟨rfl, hE⟩
    exact ⟨rfl, Lib.hid (fin w' hE.out)⟩
theorem del_r (key : ByteArray) (h : RSt w1 w K rb n m S) (ht : TB w tb rb place) (hK : K tb) (ho : TreeSt S place o) (hp : place < 16) (hm : m ≤ 3900000) (hh : hgtO o ≤ 20) :
    Calls Tryz.prog 33 #[.pointer (some ⟨tb, 0, none⟩), .string key] w fun e w' => ∃ was : Bool, e = .returned (.tuple #[.bool was, .int .i64 0]) ∧ Hid (∃ S' o', RSt w1 w' K rb n (m + 300) S' ∧ Kept K w w' ∧ ((was = true ∧ DelGo place n S S' o o' key) ∨ (was = false ∧ S' = S ∧ o' = o ∧ ∀ e ∈ entsO o, e.1 ≠ key))) := by
  obtain ⟨G, a, b, d, e⟩ := h
  have fin : ∀ w' was, DelEnd w w' G rb n m place S o key was → ∃ S' o', RSt w1 w' K rb n (m + 300) S' ∧ Kept K w w' ∧ ((was = true ∧ DelGo place n S S' o o' key) ∨ (was = false ∧ S' = S ∧ o' = o ∧ ∀ e ∈ entsO o, e.1 ≠ key)) := fun w' was hE => by
    cases was with
    | true =>
      unfold DelEnd at hE
      rw [if_pos rfl] at hE
      obtain ⟨S', o', hs, hg⟩ := hE
      exact ⟨S', o', (RSt.of b d e hs).1, (RSt.of b d e hs).2, .inl ⟨rfl, hg⟩⟩
    | false =>
      unfold DelEnd at hE
      rw [if_neg (by simp)] at hE
      exact ⟨S, o, (RSt.of b d e hE.1).1, (RSt.of b d e hE.1).2, .inr ⟨rfl, rfl, rfl, hE.2⟩⟩
  cases o with
  | none =>
    refine (Delete_none G tb rb place n m S key w a ht (d tb hK).2 hp hm ho).mono ?_
    rintro e w' ⟨was, rfl, hE⟩
    exact ⟨was, rfl, Lib.hid (fin w' was hE.out)⟩
  | some T =>
    refine (Delete_some G tb rb place n m S T.h T.p T.t key w a ht (d tb hK).2 hp hm ho.1 ho.2 hh).mono ?_
    rintro e w' ⟨was, rfl, hE⟩
    exact ⟨was, rfl, Lib.hid (fin w' was hE.out)⟩
theorem get_r (key : ByteArray) (h : RSt w1 w K rb n m S) (ht : TB w tb rb place) (hK : K tb) (ho : TreeSt S place o) (hp : place < 16) (hm : m ≤ 3900000) (hh : hgtO o ≤ 19) :
    Calls Tryz.prog 35 #[.pointer (some ⟨tb, 0, none⟩), .string key] w fun e w' => ∃ v ok, e = .returned (.tuple #[.string v, .bool ok, .int .i64 0]) ∧ Got key (entsO o) v ok ∧ Hid (RSt w1 w' K rb n m S ∧ Kept K w w') := by
  obtain ⟨G, a, b, d, e⟩ := h
  cases o with
  | none =>
    refine (Get_none G tb rb place n m S key w a ht (d tb hK).2 hp hm ho).mono ?_
    rintro e' w' ⟨v, ok, rfl, hg, hE⟩
    exact ⟨v, ok, rfl, hg, Lib.hid (RSt.of b d e hE.out)⟩
  | some T =>
    refine (Get_some G tb rb place n m S T.h T.p T.t key w a ht (d tb hK).2 hp hm ho.1 ho.2 hh).mono ?_
    rintro e' w' ⟨v, ok, rfl, hg, hE⟩
    exact ⟨v, ok, rfl, hg, Lib.hid (RSt.of b d e hE.out)⟩
/-- What a reading leaves: new blocks can be kept. -/
def ReadK (w1 w w' : World) (K : Nat → Prop) (rb n m : Nat) (S : RS) : Prop := RSt w1 w' (fun k => K k ∨ (w.heap.size ≤ k ∧ k < w'.heap.size)) rb n m S ∧ Kept K w w'
/-- Scan of everything. -/
theorem scan_r (limit : Nat) (h : RSt w1 w K rb n m S) (ht : TB w tb rb place) (hK : K tb) (ho : TreeSt S place o) (hp : place < 16) (hm : m ≤ 3900000) (hh : hgtO o ≤ 20) (hl0 : (entsO o).length ≤ limit) (hl1 : 0 < limit) (hl2 : limit ≤ 40000000) :
    Calls Tryz.prog 44 #[.pointer (some ⟨tb, 0, none⟩), .string ⟨#[]⟩, .string ⟨#[]⟩, .int .i64 (limit : Int)] w fun e w' => ∃ v, e = .returned (.tuple #[v, .int .i64 0]) ∧ Hid (w'.ownsRow (w.heap.size + 2) 105 2 v (entsO o).length (pairC (entsO o)) ∧ ReadK w1 w w' K rb n m S) := by
  obtain ⟨G, a, b, d, e⟩ := h
  cases o with
  | none =>
    refine (Scan_none G tb rb place n m S w ⟨#[]⟩ ⟨#[]⟩ limit a ht (d tb hK).2 hp hm ho).mono ?_
    rintro e' w' ⟨v, rfl, hE⟩
    exact ⟨v, rfl, Lib.hid ⟨hE.out.1, RSt.ofK a b d e hE.out.2⟩⟩
  | some T =>
    refine (Scan_some G tb rb place n m S T.h T.p T.t w limit a ht (d tb hK).2 hp hm ho.1 ho.2 hh hl0 hl1 hl2).mono ?_
    rintro e' w' ⟨v, rfl, hE⟩
    exact ⟨v, rfl, Lib.hid ⟨hE.out.1, RSt.ofK a b d e hE.out.2⟩⟩
/-- Scan. -/
theorem scan_g (frm tt : ByteArray) (limit : Nat) (h : RSt w1 w K rb n m S) (ht : TB w tb rb place) (hK : K tb) (ho : TreeSt S place o) (hp : place < 16) (hm : m ≤ 3900000) (hh : hgtO o ≤ 20) (hl0 : (entsO o).length ≤ 40000000) (hl1 : 0 < limit) (hl2 : limit ≤ 4611686018427387904) :
    Calls Tryz.prog 44 #[.pointer (some ⟨tb, 0, none⟩), .string frm, .string tt, .int .i64 (limit : Int)] w fun e w' => ∃ v, e = .returned (.tuple #[v, .int .i64 0]) ∧ Hid (w'.ownsRow (w.heap.size + 2) 105 2 v (sRun tt limit (from_ frm (entsO o)) []).1.length (pairC (sRun tt limit (from_ frm (entsO o)) []).1) ∧ ReadK w1 w w' K rb n m S) := by
  obtain ⟨G, a, b, d, e⟩ := h
  cases o with
  | none =>
    refine (Scan_none G tb rb place n m S w frm tt limit a ht (d tb hK).2 hp hm ho).mono ?_
    rintro e' w' ⟨v, rfl, hE⟩
    exact ⟨v, rfl, Lib.hid ⟨hE.out.1, RSt.ofK a b d e hE.out.2⟩⟩
  | some T =>
    refine (Scan_gen G tb rb place n m S T.h T.p T.t w frm tt limit a ht (d tb hK).2 hp hm ho.1 ho.2 hh hl0 hl1 hl2).mono ?_
    rintro e' w' ⟨v, rfl, hE⟩
    exact ⟨v, rfl, Lib.hid ⟨hE.out.1, RSt.ofK a b d e hE.out.2⟩⟩
theorem count_r (h : RSt w1 w K rb n m S) (ht : TB w tb rb place) (hK : K tb) (ho : TreeSt S place o) (hp : place < 16) (hm : m ≤ 3900000) (hh : hgtO o ≤ 20) (hl0 : (entsO o).length ≤ 1000000) :
    Calls Tryz.prog 32 #[.pointer (some ⟨tb, 0, none⟩)] w fun e w' => e = .returned (.tuple #[.int .i64 ((entsO o).length : Int), .int .i64 0]) ∧ Hid (ReadK w1 w w' K rb n m S) := by
  have hs := scan_r w1 w K tb rb place n m S o 33554432 h ht hK ho hp hm hh (by omega) (by decide) (by decide)
  refine (Count_of tb w (R := fun v w' => w'.ownsRow (w.heap.size + 2) 105 2 v (entsO o).length (pairC (entsO o)) ∧ ReadK w1 w w' K rb n m S) (c := (entsO o).length) hs fun v w' hr => ?_).mono ?_
  · rcases hr.1.2 with ⟨rfl, h0⟩ | ⟨g, cap, cur, rfl, -⟩
    · exact ⟨none, 0, by rw [h0]⟩
    · exact ⟨_, _, rfl⟩
  · rintro e w' ⟨rfl, hE⟩
    obtain ⟨v, -, hM⟩ := hE.out
    exact ⟨rfl, Lib.hid hM⟩
theorem pages_r (h : RSt w1 w K rb n m S) (ht : TB w tb rb place) (hK : K tb) (ho : TreeSt S place o) (hp : place < 16) (hm : m ≤ 3900000) (hh : hgtO o ≤ 20) :
    Calls Tryz.prog 47 #[.pointer (some ⟨tb, 0, none⟩)] w fun e w' => ∃ v, e = .returned (.tuple #[v, .int .i64 0]) ∧ Hid ((∃ Q : List Nat, Q.Perm (pgsO o) ∧ Q.Pairwise (fun a b => a ≤ b) ∧ w'.ownsRow (w.heap.size + 3) 3 1 v (pgsO o).length (Q.map encN)) ∧ ReadK w1 w w' K rb n m S) := by
  obtain ⟨G, a, b, d, e⟩ := h
  have hf := ho.few a
  cases o with
  | none =>
    refine (Pages_none G tb rb place n m S w a ht (d tb hK).2 hp hm ho).mono ?_
    rintro e' w' ⟨v, rfl, hE⟩
    exact ⟨v, rfl, Lib.hid ⟨hE.out.1, RSt.ofK a b d e hE.out.2⟩⟩
  | some T =>
    refine (Pages_some G tb rb place n m S T.h T.p T.t w a ht (d tb hK).2 hp hm ho.1 ho.2 hh hf).mono ?_
    rintro e' w' ⟨v, rfl, hE⟩
    exact ⟨v, rfl, Lib.hid ⟨hE.out.1, RSt.ofK a b d e hE.out.2⟩⟩
theorem check_r (h : RSt w1 w K rb n m S) (ht : TB w tb rb place) (hK : K tb) (ho : TreeSt S place o) (hp : place < 16) (hm : m ≤ 3900000) (hh : hgtO o ≤ 20) :
    Calls Tryz.prog 34 #[.pointer (some ⟨tb, 0, none⟩)] w fun e w' => e = .returned (.tuple #[.int .i64 ((pgsO o).length : Int), .int .i64 0]) ∧ Hid (ReadK w1 w w' K rb n m S) := by
  have hs := Lib.hid (pages_r w1 w K tb rb place n m S o h ht hK ho hp hm hh)
  clear h
  go_enter Tryz.func34, Tryz.ntmps34
  go_wp2_with fail
  refine hs.out.mono ?_
  rintro e w2 ⟨v, rfl, hr⟩
  obtain ⟨a, k, rfl⟩ : ∃ a k, v = .slice a (pgsO o).length k := by
    obtain ⟨⟨Q, -, -, h⟩, -⟩ := hr.out
    exact rowi_lit h
  go_wp2_with fail
  go_ret2
  exact ⟨rfl, hr.out.2⟩
end
/-- One map of a room of n homes: its block is kept, c pages are free. -/
def MSt (w1 w : World) (tb rb place n m : Nat) (o : Option TT) (c : Nat) : Prop := ∃ S, RSt w1 w (fun k => k = tb) rb n m S ∧ TB w tb rb place ∧ TreeSt S place o ∧ Spare S n c
section
variable (w1 w : World) (tb rb place n m c : Nat) (o : Option TT)
theorem MSt.below {w1 w w' : World} {tb rb place n m c : Nat} {o : Option TT} (h : MSt w1 w tb rb place n m o c) (hb : Below w.heap.size w w') : MSt w1 w' tb rb place n m o c := by
  obtain ⟨S, a, b, d, e⟩ := h
  exact ⟨S, (a.below hb).1.mono fun k hk => .inl hk, b.below hb, d, e⟩
theorem MSt.read {w1 w w' : World} {tb rb place n m c : Nat} {o : Option TT} {S : RS} (b : TB w tb rb place) (d : TreeSt S place o) (e : Spare S n c) (h : ReadK w1 w w' (fun k => k = tb) rb n m S) : MSt w1 w' tb rb place n m o c :=
  ⟨S, h.1.mono fun k hk => .inl hk, h.2.tb b rfl, d, e⟩
theorem MSt.srt {w1 w : World} {tb rb place n m c : Nat} {o : Option TT} (h : MSt w1 w tb rb place n m o c) : Srt (entsO o) := by obtain ⟨S, a, b, d, e⟩ := h; exact srt_o d
theorem MSt.hgt {w1 w : World} {tb rb place n m c : Nat} {o : Option TT} (k : Nat) (h : MSt w1 w tb rb place n m o c) (hs : singO o = 0) (hl : (entsO o).length < 2 ^ (k + 1)) : hgtO o ≤ k := by obtain ⟨S, a, b, d, e⟩ := h; exact hgt_o d hs hl
theorem MSt.bel {w1 w : World} {tb rb place n m c : Nat} {o : Option TT} (h : MSt w1 w tb rb place n m o c) : Below w1.heap.size w1 w := by obtain ⟨S, a, b, d, e⟩ := h; exact a.bel
theorem put_m (k : Nat) (key val : ByteArray) (h : MSt w1 w tb rb place n m o (c + (k + 2))) (hp : place < 16) (hm : m ≤ 3900000) (hks : key.size ≤ 96) (hvs : val.size ≤ 56) (hk20 : k ≤ 20) (hh : hgtO o ≤ k) :
    Calls Tryz.prog 31 #[.pointer (some ⟨tb, 0, none⟩), .string key, .string val] w fun e w' => e = .returned (.int .i64 0) ∧ Hid (∃ o', MSt w1 w' tb rb place n (m + 100) o' c ∧ Ins key val (entsO o) (entsO o') ∧ singO o' ≤ singO o ∧ crO o' ≤ crO o + 1) := by
  obtain ⟨S, a, b, d, e⟩ := h
  refine (put_r w1 w _ tb rb place n m S o k key val a b rfl d (e.less (by omega)) hp hm hks hvs hk20 hh).mono ?_
  rintro e' w' ⟨rfl, hE⟩
  obtain ⟨S', o', h1, h2, h3, h4, h5, h6, h7, h8⟩ := hE.out
  exact ⟨rfl, Lib.hid ⟨o', ⟨S', h1, h2.tb b rfl, h3.st, h7 c (e.less (by omega))⟩, h4, h5, h8.1⟩⟩
theorem del_m (key : ByteArray) (h : MSt w1 w tb rb place n m o c) (hp : place < 16) (hm : m ≤ 3900000) (hh : hgtO o ≤ 20) :
    Calls Tryz.prog 33 #[.pointer (some ⟨tb, 0, none⟩), .string key] w fun e w' => ∃ was : Bool, e = .returned (.tuple #[.bool was, .int .i64 0]) ∧ Hid (∃ o', MSt w1 w' tb rb place n (m + 300) o' c ∧ ((was = true ∧ Del key (entsO o) (entsO o') ∧ hgtO o' ≤ hgtO o ∧ crO o' ≤ crO o + 1) ∨ (was = false ∧ o' = o ∧ ∀ e ∈ entsO o, e.1 ≠ key))) := by
  obtain ⟨S, a, b, d, e⟩ := h
  refine (del_r w1 w _ tb rb place n m S o key a b rfl d hp hm hh).mono ?_
  rintro e' w' ⟨was, rfl, hE⟩
  obtain ⟨S', o', h1, h2, h3⟩ := hE.out
  refine ⟨was, rfl, Lib.hid ?_⟩
  rcases h3 with ⟨hw, h3, h4, h5, h6, h7⟩ | ⟨hw, rfl, rfl, h3⟩
  · exact ⟨o', ⟨S', h1, h2.tb b rfl, h3.st, h6 c e⟩, .inl ⟨hw, h4, h5, h7⟩⟩
  · exact ⟨_, ⟨_, h1, h2.tb b rfl, d, e⟩, .inr ⟨hw, rfl, h3⟩⟩
theorem get_m (key : ByteArray) (h : MSt w1 w tb rb place n m o c) (hp : place < 16) (hm : m ≤ 3900000) (hh : hgtO o ≤ 19) :
    Calls Tryz.prog 35 #[.pointer (some ⟨tb, 0, none⟩), .string key] w fun e w' => ∃ v ok, e = .returned (.tuple #[.string v, .bool ok, .int .i64 0]) ∧ Got key (entsO o) v ok ∧ Hid (MSt w1 w' tb rb place n m o c) := by
  obtain ⟨S, a, b, d, e⟩ := h
  refine (get_r w1 w _ tb rb place n m S o key a b rfl d hp hm hh).mono ?_
  rintro e' w' ⟨v, ok, rfl, hg, hE⟩
  exact ⟨v, ok, rfl, hg, Lib.hid ⟨S, hE.out.1, hE.out.2.tb b rfl, d, e⟩⟩
theorem scan_m (frm tt : ByteArray) (limit : Nat) (h : MSt w1 w tb rb place n m o c) (hp : place < 16) (hm : m ≤ 3900000) (hh : hgtO o ≤ 20) (hl0 : (entsO o).length ≤ 40000000) (hl1 : 0 < limit) (hl2 : limit ≤ 4611686018427387904) :
    Calls Tryz.prog 44 #[.pointer (some ⟨tb, 0, none⟩), .string frm, .string tt, .int .i64 (limit : Int)] w fun e w' => ∃ v, e = .returned (.tuple #[v, .int .i64 0]) ∧ Hid (w'.ownsRow (w.heap.size + 2) 105 2 v (sRun tt limit (from_ frm (entsO o)) []).1.length (pairC (sRun tt limit (from_ frm (entsO o)) []).1) ∧ MSt w1 w' tb rb place n m o c) := by
  obtain ⟨S, a, b, d, e⟩ := h
  refine (scan_g w1 w _ tb rb place n m S o frm tt limit a b rfl d hp hm hh hl0 hl1 hl2).mono ?_
  rintro e' w' ⟨v, rfl, hE⟩
  exact ⟨v, rfl, Lib.hid ⟨hE.out.1, MSt.read b d e hE.out.2⟩⟩
theorem count_m (h : MSt w1 w tb rb place n m o c) (hp : place < 16) (hm : m ≤ 3900000) (hh : hgtO o ≤ 20) (hl0 : (entsO o).length ≤ 1000000) :
    Calls Tryz.prog 32 #[.pointer (some ⟨tb, 0, none⟩)] w fun e w' => e = .returned (.tuple #[.int .i64 ((entsO o).length : Int), .int .i64 0]) ∧ Hid (MSt w1 w' tb rb place n m o c) := by
  obtain ⟨S, a, b, d, e⟩ := h
  refine (count_r w1 w _ tb rb place n m S o a b rfl d hp hm hh hl0).mono ?_
  rintro e' w' ⟨rfl, hE⟩
  exact ⟨rfl, Lib.hid (MSt.read b d e hE.out)⟩
theorem check_m (h : MSt w1 w tb rb place n m o c) (hp : place < 16) (hm : m ≤ 3900000) (hh : hgtO o ≤ 20) :
    Calls Tryz.prog 34 #[.pointer (some ⟨tb, 0, none⟩)] w fun e w' => e = .returned (.tuple #[.int .i64 ((pgsO o).length : Int), .int .i64 0]) ∧ Hid (MSt w1 w' tb rb place n m o c) := by
  obtain ⟨S, a, b, d, e⟩ := h
  refine (check_r w1 w _ tb rb place n m S o a b rfl d hp hm hh).mono ?_
  rintro e' w' ⟨rfl, hE⟩
  exact ⟨rfl, Lib.hid (MSt.read b d e hE.out)⟩
end
/-- At. -/
theorem At_c (rb place : Nat) (w : World) : Calls Tryz.prog 29 #[.pointer (some ⟨rb, 0, none⟩), .int .i64 (place : Int)] w fun e w' => e = .returned (.pointer (some ⟨w.heap.size, 0, none⟩)) ∧ Hid (TB w' w.heap.size rb place ∧ Below w.heap.size w w') := by
  go_enter Tryz.func29, Tryz.ntmps29
  go_wp2_with fail
  go_ret
  exact ⟨rfl, heap_alloc_new _ _, (Below.refl w.heap.size w).alloc (Nat.le_refl _) _⟩
theorem pigeon_spare (n : Nat) (c : Nat) (h : c ≤ pagesN n) : Spare ⟨fun _ => 0, fun _ => false, fun _ => pad0, []⟩ n c := ⟨[], fun q hq => (by cases hq), by simpa using h⟩
/-- A room on a new disk, out of its parts. -/
theorem NewRoom.of {w1 wa wb wc wd : World} {FL G : Nat → Prop} {lb rb n tx : Nat} (ha : Below w1.heap.size w1 wa) (h1 : IsLog wb FL lb n ∧ (∀ k, FL k → wa.heap.size ≤ k) ∧ Below wa.heap.size wa wb) (h2 : IsTx wc (fun k => k = wb.heap.size + 1 ∨ k = wb.heap.size) tx lb [] ∧ Below wb.heap.size wb wc)
    (h3 : Rm wd G rb n [] ∧ (∀ k, G k → (FL k ∨ (k = wb.heap.size + 1 ∨ k = wb.heap.size)) ∨ wc.heap.size ≤ k) ∧ Below wc.heap.size wc wd) : NewRoom w1 wd G rb n := by
  have s1 := ha.size
  have s2 := h1.2.2.size
  have s3 := h2.2.size
  refine ⟨h3.1, fun k hk => ?_, ((ha.trans (h1.2.2.mono s1)).trans (h2.2.mono (by omega))).trans (h3.2.2.mono (by omega))⟩
  rcases h3.2.1 k hk with (e | e | e) | e
  · have := h1.2.1 k e; omega
  · omega
  · omega
  · omega
theorem chg_new {wa wb wc : World} {FL : Nat → Prop} {lb n tx : Nat} (h1 : IsLog wb FL lb n ∧ (∀ k, FL k → wa.heap.size ≤ k) ∧ Below wa.heap.size wa wb) (h2 : IsTx wc (fun k => k = wb.heap.size + 1 ∨ k = wb.heap.size) tx lb [] ∧ Below wb.heap.size wb wc) : Chg wc FL (fun k => k = wb.heap.size + 1 ∨ k = wb.heap.size) tx lb n [] :=
  ⟨h1.1.below h2.2, h2.1, fun k hk e => by have := h1.1.lt k hk; omega⟩
/-- A new room. -/
theorem RSt.start {w1 w : World} {G : Nat → Prop} {rb n : Nat} (h : NewRoom w1 w G rb n) (h4 : 4 ≤ n) : RSt w1 w (fun _ => False) rb n 0 ⟨fun _ => 0, fun _ => false, fun _ => pad0, []⟩ :=
  ⟨G, ⟨[], Nat.le_refl _, h.1, Rep.start n h4⟩, h.2.1, fun _ hk => hk.elim, h.2.2⟩
/-- A map of a new room. -/
theorem MSt.start {w1 w w' : World} {G : Nat → Prop} {rb n place c : Nat} (h : NewRoom w1 w G rb n) (h4 : 4 ≤ n) (hc : c ≤ pagesN n) (ht : TB w' w.heap.size rb place) (hb : Below w.heap.size w w') : MSt w1 w' w.heap.size rb place n 0 none c :=
  ⟨_, ((RSt.start h h4).below hb).1.mono fun k hk => .inr ⟨by omega, by rw [hk]; exact lt_of_heap ht⟩, ht, rfl, pigeon_spare n c hc⟩
end Go.Proofs.YtaibjcjphmhgmaaGreatDoor
namespace Go.Proofs.YtaibjcjphmhgmaaGreatDoor
set_option linter.unusedVariables false
set_option maxRecDepth 100000
set_option maxHeartbeats 1000000
open Go.RowKit
theorem strTwo (x y : UInt8) : strOfNums [(x.toNat : Int), (y.toNat : Int)] = ⟨#[x, y]⟩ := by
  apply ByteArray.ext
  simp [strOfNums]
theorem conv_two (a b : UInt8) (g : Nat) (W : World) (h0 : W.cell? ⟨g, 0, none⟩ = some (.int .u8 (a.toNat : Int))) (h1 : W.cell? ⟨g, 1, none⟩ = some (.int .u8 (b.toNat : Int))) : (convert 72 9 (.slice (some ⟨g, 0, none⟩) 2 2)).run Tryz.prog W = .ok (.string ⟨#[a, b]⟩) W := by
  have := run_convert_bytes_arg (P := Tryz.prog) W 72 5 Tryz.underlying72 Tryz.underlying5 g 0 2 2 [(a.toNat : Int), (b.toNat : Int)] rfl (fun i hi => by
    have : i = 0 ∨ i = 1 := by omega
    rcases this with rfl | rfl
    · exact h0
    · exact h1) 9 Tryz.underlying9
  rwa [strTwo] at this
theorem Key_c (sb step i : Nat) (w : World) (hs : w.cell? ⟨sb, 0, none⟩ = some (.int .i64 (step : Int))) (h1 : step ≤ 1000) (h2 : i ≤ 400) :
    Calls Tryz.prog 30 #[.int .i64 (i : Int), .pointer (some ⟨sb, 0, none⟩)] w fun e w' => e = .returned (.string (mkey step i)) ∧ Hid (Below w.heap.size w w') := by
  have hmul : i * step ≤ 400 * 1000 := Nat.mul_le_mul h2 h1
  have hk2 : i * step % 1009 < 1009 := Nat.mod_lt _ (by omega)
  have c1 : (i : Int) * (step : Int) = ((i * step : Nat) : Int) := (Int.natCast_mul i step).symm
  have u1 : (UInt8.ofNat (i * step % 1009 / 256)).toNat = i * step % 1009 / 256 := by rw [UInt8.toNat_ofNat']; first | done | omega
  have u2 : (UInt8.ofNat (i * step % 1009)).toNat = i * step % 1009 % 256 := by rw [UInt8.toNat_ofNat']; first | done | omega
  have e1 : (i : Int) * (step : Int) % 1009 / 256 = ((UInt8.ofNat (i * step % 1009 / 256)).toNat : Int) := by rw [c1, u1]; first | done | omega
  have e2 : (i : Int) * (step : Int) % 1009 % 256 = ((UInt8.ofNat (i * step % 1009)).toNat : Int) := by rw [c1, u2]; first | done | omega
  have hcv := conv_two (UInt8.ofNat (i * step % 1009 / 256)) (UInt8.ofNat (i * step % 1009)) w.heap.size (w.alloc (.cells #[.int .u8 ((UInt8.ofNat (i * step % 1009 / 256)).toNat : Int), .int .u8 ((UInt8.ofNat (i * step % 1009)).toNat : Int)] 5)) (cell_lit (heap_alloc_new _ _) rfl) (cell_lit (heap_alloc_new _ _) rfl)
  rw [← e1, ← e2] at hcv
  have HK : Hid ((⟨#[UInt8.ofNat (i * step % 1009 / 256), UInt8.ofNat (i * step % 1009)]⟩ : ByteArray) = mkey step i) := Lib.hid rfl
  have l1 : (0 : Int) ≤ (i : Int) * (step : Int) := by rw [c1]; omega
  have l2 : (i : Int) * (step : Int) ≤ 400000 := by rw [c1]; omega
  have HBL : Hid (Below w.heap.size w (w.alloc (.cells #[.int .u8 ((i : Int) * (step : Int) % 1009 / 256), .int .u8 ((i : Int) * (step : Int) % 1009 % 256)] 5))) := Lib.hid ((Below.refl w.heap.size w).alloc (Nat.le_refl _) _)
  clear hmul h1 h2 hk2 c1 u1 u2 e1 e2
  go_enter Tryz.func30, Tryz.ntmps30
  go_wp2_with fail
  go_ret
  exact ⟨rfl, HBL⟩
theorem ins_nil {k v : ByteArray} {E' : List (ByteArray × ByteArray)} (h : Ins k v [] E') : E' = [(k, v)] := by
  obtain ⟨A, B, rfl, h', -, -⟩ := h
  rcases h' with h' | ⟨v', h'⟩
  · obtain ⟨rfl, rfl⟩ := List.append_eq_nil_iff.1 h'.symm; rfl
  · exact absurd h' (by simp)
theorem ins_before {k v : ByteArray} {e : ByteArray × ByteArray} {E' : List (ByteArray × ByteArray)} (h : Ins k v [e] E') (hk : kless e.1 k = false) (hne : e.1 ≠ k) : E' = [(k, v), e] := by
  obtain ⟨A, B, rfl, h', hA, hB⟩ := h
  rcases h' with h' | ⟨v', h'⟩
  · cases A with
    | nil => rw [List.nil_append] at h'; rw [← h']; rfl
    | cons a A =>
      have : a = e := by have := congrArg List.head? h'; simpa using this.symm
      have := hA a (by simp)
      rw [‹a = e›, hk] at this; cases this
  · have : (k, v') ∈ [e] := by rw [h']; simp
    simp at this
    exact absurd (by rw [← this]) hne
theorem del_first {k v : ByteArray} {e : ByteArray × ByteArray} {E' : List (ByteArray × ByteArray)} (h : Del k [(k, v), e] E') (hne : e.1 ≠ k) : E' = [e] := by
  obtain ⟨A, B, v', h', rfl⟩ := h
  cases A with
  | nil => simp at h'; rw [← h'.2]; rfl
  | cons a A =>
    exfalso
    have : (k, v') ∈ [e] := by
      have h2 := congrArg List.tail h'
      simp at h2
      rw [h2]; simp
    simp at this
    exact hne (by rw [← this])
end Go.Proofs.YtaibjcjphmhgmaaGreatDoor
