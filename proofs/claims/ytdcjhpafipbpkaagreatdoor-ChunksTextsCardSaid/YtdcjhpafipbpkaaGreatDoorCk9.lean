/- Parts of the proof of ChunksSums, joined: MapF, MapG, MapH, MapI, MapJ, MapK, ManyA, ChkP, ChkC. No condition. -/
import Derived.Test.YtdcjhpafipbpkaaGreatDoorCk8
import Derived.Sort.OwnSortedInts
set_option linter.unusedSimpArgs false
set_option linter.unusedVariables false
set_option linter.unusedSectionVars false
namespace Go.Proofs.YtdcjhpafipbpkaaGreatDoor
set_option linter.unusedVariables false
set_option maxRecDepth 100000
set_option maxHeartbeats 1000000
open Go.RowKit
theorem kids_sl {W : World} {F : Nat → Prop} {q : Nat} {l : List (ByteArray × Nat)} (h : RdIn W q (.inner l) F) (hp : 0 < l.length) :
    ∃ g o c, W.cell? ⟨q, 3, none⟩ = some (.slice (some ⟨g, o, none⟩) l.length c) ∧ l.length ≤ c ∧ (F q ∧ F g) ∧ ∀ i (hi : i < l.length), W.cell? ⟨g, o + i, none⟩ = some (.int .i64 (l[i].2 : Int)) := by
  obtain ⟨vk, vv, vi, a, b⟩ := h
  obtain ⟨g2, o2, c2, e2, h2, k2⟩ := a.is.lit (by simpa [Nd.kids] using hp)
  subst e2
  refine ⟨g2, o2, c2, ?_, by simpa [Nd.kids] using h2, ⟨(b q (.inl rfl)).2, (b g2 (.inr (.inr (.inr rfl)))).2⟩, fun i hi => ?_⟩
  · have := cell_lit (i := 3) a.blk rfl
    simpa [Nd.kids] using this
  · have := k2 i (by simpa [Nd.kids] using hi)
    rw [this]; simp [Nd.kids]
theorem from_len (key : ByteArray) (E : List (ByteArray × ByteArray)) : (from_ key E).length ≤ E.length := List.length_filter_le _ _
theorem scan_c : ∀ (h : Nat) (w0 W : World) (G : Nat → Prop) (tb rb place n m : Nat) (S : RS) (p : Nat) (t : PT h) (frm tt : ByteArray) (limit lb deep base : Nat) (L : List (ByteArray × ByteArray)) (v : Value) (_ : TBase w0 W G G tb rb place n m S) (_ : Acc base W lb L v) (_ : w0.heap.size ≤ lb) (_ : w0.heap.size ≤ base) (_ : base ≤ W.heap.size) (_ : ∀ k, G k → k < w0.heap.size) (_ : Tr S h p t) (_ : deep + h ≤ 20) (_ : m ≤ 3900000) (_ : L.length + (ents h t).length ≤ 40000000) (_ : limit ≤ 4611686018427387904),
    Calls Tryz.prog 142 #[.pointer (some ⟨tb, 0, none⟩), .int .i64 (p : Int), .string frm, .string tt, .int .i64 (limit : Int), .pointer (some ⟨lb, 0, none⟩), .int .i64 (deep : Int)] W fun e w' => ∃ ok, e = .returned (.bool ok) ∧ Hid (ScanEnd base W w' lb v frm tt limit (ents h t) L ok)
  | 0, w0, W, G, tb, rb, place, n, m, S, p, t, frm, tt, limit, lb, deep, base, L, v, hB, hA, hl, hb, hbW, hG, hT, hd, hm, hcap, hlim => by
    by_cases htt : tt.size = 0
    · exact scan_leaf w0 W G tb rb place n m S p t frm tt limit lb deep base L v hB hA hl hb hbW hG hT (by omega) hm hcap hlim htt
    · exact scan_leaf2 w0 W G tb rb place n m S p t frm tt limit lb deep base L v hB hA hl hb hbW hG hT (by omega) hm hcap hlim htt
  | hh + 1, w0, W, G, tb, rb, place, n, m, S, p, t, frm, tt, limit, lb, deep, base, L, v, hB, hA, hl, hb, hbW, hG, hT, hd, hm, hcap, hlim => by
    have hnot : ∀ (x : Bool) (w : World), (Op.unary .not (.bool x)).run Tryz.prog w = .ok (.bool (!x)) w := fun _ _ => rfl
    have RD := Lib.hid (tail_read hB (by omega) hT.on hT.fit hT.ok)
    have hd1 : ¬ (20 : Int) < (deep : Int) := by omega
    have hd2 : deep ≤ 20 := by omega
    have hpos := hT.pos
    rw [nd_lenS] at hpos
    obtain ⟨A, x, B, rfl, hW, hAx⟩ := way_split t frm (hT.wf.2.keys fun x hx => ents_pos (hT.wf.1 x hx).2.2.2.2 (hT.wf.1 x hx).2.2.1) hpos
    have hlen : (nd (hh + 1) (A ++ x :: B : List (Kid hh))).len ≤ 1000000 := Nat.le_of_lt (Nat.lt_trans hT.ok.few (by decide))
    have hfew := hT.ok.few
    rw [nd_lenS] at hfew
    have hK : ∀ y ∈ x :: B, Tr S hh y.2.1 y.2.2 := fun y hy => hT.kid (x := y) (by simp at hy ⊢; exact .inr hy)
    have HF : Hid (from_ frm (ents (hh + 1) (A ++ x :: B : List (Kid hh))) = from_ frm (ents (hh + 1) (x :: B : List (Kid hh)))) := Lib.hid (by
      obtain ⟨w1, w2⟩ := hT.wf.2.way hW
      rw [ents_app, from_app, from_none (fun e he => by obtain ⟨y, hy, he⟩ := (ents_mem hh A e).1 he; exact w1 y hy e he), List.nil_append])
    have HCE : Hid (L.length + (ents (hh + 1) (x :: B : List (Kid hh))).length ≤ 40000000) := Lib.hid (by
      rw [ents_app, List.length_append] at hcap; omega)
    have IH : Hid (∀ wr Lj vj, ∀ y ∈ x :: B, TBase w0 wr G G tb rb place n m S → Acc base wr lb Lj vj → base ≤ wr.heap.size → Lj.length + (ents hh y.2.2).length ≤ 40000000 → Calls Tryz.prog 142 #[.pointer (some ⟨tb, 0, none⟩), .int .i64 (y.2.1 : Int), .string frm, .string tt, .int .i64 (limit : Int), .pointer (some ⟨lb, 0, none⟩), .int .i64 ((deep : Int) + 1)] wr fun e w' => ∃ ok, e = .returned (.bool ok) ∧ Hid (ScanEnd base wr w' lb vj frm tt limit (ents hh y.2.2) Lj ok)) := Lib.hid fun wr Lj vj y hy hb1 ha1 hbw1 hc1 => by
      have := scan_c hh w0 wr G tb rb place n m S y.2.1 y.2.2 frm tt limit lb (deep + 1) base Lj vj hb1 ha1 hl hb hbw1 hG (hK y hy) (by omega) hm hc1 hlim
      rw [show ((deep + 1 : Nat) : Int) = (deep : Int) + 1 by omega] at this
      exact this
    have HB := Lib.hid hB
    have HAcc := Lib.hid hA
    have HG := Lib.hid hG
    have HLB : Hid (lb < W.heap.size) := Lib.hid (lt_of_heap hA.blk)
    have HBW := Lib.hid hbW
    have HBB := Lib.hid hb
    have HLO := Lib.hid hl
    have HW := Lib.hid hW
    have HAX := Lib.hid hAx
    have HLEN := Lib.hid hlen
    clear hB hA hG hT hm hcap hd hbW hb hK hW hAx hlen hpos hl
    go_enter Tryz.func142, Tryz.ntmps142
    go_wp2_with fail
    refine RD.out.mono ?_
    rintro e w3 ⟨q, rfl, HO⟩
    have HO3 : Hid (∃ F, RdIn w3 q (nd (hh + 1) (A ++ x :: B : List (Kid hh))) F ∧ (∀ k, F k → W.heap.size ≤ k ∧ k < w3.heap.size) ∧ Below W.heap.size W w3) := Lib.hid (by
      obtain ⟨F, a, b, c⟩ := HO.out
      exact ⟨F, a.rdIn, fun k hk => ⟨b k hk, a.lt k hk⟩, c⟩)
    have N3 : Hid (RdN w0 w3 G q (nd (hh + 1) (A ++ x :: B : List (Kid hh)))) := Lib.hid (HO.out.rdN HB.out.up.size HB.out.room.lt)
    obtain ⟨F3, f1, f2, f3⟩ := HO3.out
    have c0 : w3.cell? ⟨q, 0, none⟩ = some (.bool false) := by obtain ⟨vk, vv, vi, a, b⟩ := f1; exact cell_lit a.blk rfl
    rw [show nd (hh + 1) (A ++ x :: B : List (Kid hh)) = .inner ((A ++ x :: B : List (Kid hh)).map (fun x : Kid hh => (x.1, x.2.1))) by rfl] at f1
    obtain ⟨g3, o3, cp3, k3, hcp, hFF, kc⟩ := kids_sl f1 (by simp; omega)
    rw [List.length_map] at k3 hcp
    have KC : Hid (∀ i (hi : i < (x :: B).length), w3.cell? ⟨g3, o3 + (A.length + i), none⟩ = some (.int .i64 ((x :: B)[i].2.1 : Int))) := Lib.hid fun i hi => by
      have := kc (A.length + i) (by simp at hi ⊢; omega)
      rw [List.getElem_map, List.getElem_append_right (by omega)] at this
      simp only [Nat.add_sub_cancel_left] at this
      exact this
    have hdr := (Below.refl w3.heap.size w3).drew
    have WN : Hid (Calls Tryz.prog 166 #[.pointer (some ⟨q, 0, none⟩), .string frm] w3.drew fun e w' => e = .returned (.int .i64 (A.length : Nat)) ∧ w'.cell? ⟨q, 3, none⟩ = some (.slice (some ⟨g3, o3, none⟩) (A ++ x :: B).length cp3) ∧ Hid (Below w3.heap.size w3 w')) := Lib.hid (by
      refine (way_nd (N3.out.below hdr) HLEN.out HW.out HAX.out).mono ?_
      rintro e w' ⟨rfl, hb⟩
      have hb' : Below w3.heap.size w3 w' := hdr.trans hb.out
      exact ⟨rfl, (World.cell?_of_block (hb'.block _ (World.block_lt_of_cell? _ _ k3))).trans k3, hb'⟩)
    have HFF := Lib.hid hFF
    have HF2 := Lib.hid f2
    have HF3 := Lib.hid f3
    have hAB : (A ++ x :: B).length = A.length + (x :: B).length := by simp
    have s1 : (A.length ≤ (A ++ x :: B).length) = True := by simp
    have s2 : (cp3 = A.length) = False := by simp at hcp; simp; omega
    have s3 : (A ++ x :: B).length - A.length = (x :: B).length := by simp
    have s4 : (x :: B).length ≤ 65536 := by simp at hfew ⊢; omega
    have HABL := Lib.hid hAB
    clear f1 f2 f3 hFF kc hdr hfew hcp hAB RD HO
    generalize (A ++ x :: B).length = NN at *
    go_wp2_with fail
    go_region_held3 (fun w' => w'.cell? ⟨q, 3, none⟩ = some (.slice (some ⟨g3, o3, none⟩) NN cp3)) (go_keep) ((go_at_call 166; refine Calls.at_args WN.out (by with_reducible rfl) ?_; rintro e w4 ⟨rfl, hk4, HB4⟩))
    all_goals (
      have BL4 : Hid (Below W.heap.size W w4) := Lib.hid (HF3.out.trans (HB4.out.mono HF3.out.size))
      have A4 := Lib.hid (HAcc.out.below BL4.out)
      have B4 := Lib.hid (HB.out.below BL4.out)
      have KC4 : Hid (∀ wr, Upd (fun k => k = lb ∨ v.ownBlock = some k) w4 wr → ∀ i (hi : i < (x :: B).length), wr.cell? ⟨g3, o3 + (A.length + i), none⟩ = some (.int .i64 ((x :: B)[i].2.1 : Int))) := Lib.hid fun wr hu i hi => by
        have h0 := KC.out i hi
        have h1 := (World.cell?_of_block (HB4.out.block _ (World.block_lt_of_cell? _ _ h0))).trans h0
        have h2 := HF2.out g3 HFF.out.2
        refine (World.cell?_of_block (hu.block _ (World.block_lt_of_cell? _ _ h1) fun e => ?_)).trans h1
        rcases e with e | e
        · have := HLB.out; simp only at e; omega
        · have := (HAcc.out.row.lt _ e).2; simp only at this; omega
      have hk0 : (x :: B).length = B.length + 1 := List.length_cons
      rw [List.length_cons] at s3 s4
      generalize hBN : B.length = BN at s3 s4 hk0 ⊢
      have HKN := Lib.hid hk0
      clear hk0
      clear KC WN k3 N3 c0 HO3 hk4
      clear hBN
      go_wp2_with fail
      go_loopg [40] (BN + 1) (fun gg s40 wr => ∃ (j : Nat), gg = BN + 1 - j ∧ j ≤ BN + 1 ∧ s40 = .int .i64 (j : Int) ∧ Hid (∃ Lj vj, sRun tt limit (from_ frm (ents (hh + 1) ((x :: B).take j : List (Kid hh)))) L = (Lj, true) ∧ Acc base wr lb Lj vj ∧ (∀ k, vj.ownBlock = some k → v.ownBlock = some k ∨ w4.heap.size ≤ k) ∧ Upd (fun k => k = lb ∨ v.ownBlock = some k) w4 wr)))
    all_goals (first
      | (case atStart => exact ⟨0, rfl, Nat.zero_le _, rfl, Lib.hid ⟨L, v, by simp [ents, from_, sRun], A4.out, fun k e => .inl e, Upd.refl _ _⟩⟩)
      | skip)
    all_goals (
      obtain ⟨j, hgk, hj, rfl, HI⟩ := hrel
      obtain ⟨Lj, vj, hs, ha, hn, hu⟩ := HI.out
      have HGK := Lib.hid hgk
      have HS := Lib.hid hs
      have HN := Lib.hid hn
      have HU := Lib.hid hu
      have HA2 := Lib.hid ha
      by_cases hjl : j < BN + 1
      · have hjx : j < (x :: B).length := by rw [HKN.out]; exact hjl
        have k5 := KC4.out wr hu j hjx
        rw [← Nat.add_assoc] at k5
        obtain ⟨y, hy⟩ : ∃ y, (x :: B)[j] = y := ⟨_, rfl⟩
        rw [hy] at k5
        have hym : y ∈ x :: B := by rw [← hy]; exact List.getElem_mem hjx
        have hsum : ents (hh + 1) ((x :: B).take (j + 1) : List (Kid hh)) = ents (hh + 1) ((x :: B).take j : List (Kid hh)) ++ ents hh y.2.2 := by
          rw [List.take_succ_eq_append_getElem hjx, hy, ents_app]; simp [ents]
        have hle : (ents (hh + 1) ((x :: B).take (j + 1) : List (Kid hh))).length ≤ (ents (hh + 1) (x :: B : List (Kid hh))).length := by
          have e1 : ents (hh + 1) (x :: B : List (Kid hh)) = ents (hh + 1) ((x :: B).take (j + 1) : List (Kid hh)) ++ ents (hh + 1) ((x :: B).drop (j + 1) : List (Kid hh)) := by
            rw [← ents_app, List.take_append_drop]
          rw [e1, List.length_append]; omega
        have hfewj : Lj.length + (ents hh y.2.2).length ≤ 40000000 := by
          have h1 := sRun_len hs
          have h2 := from_len frm (ents (hh + 1) ((x :: B).take j : List (Kid hh)))
          have h3 := HCE.out
          rw [hsum, List.length_append] at hle; omega
        have hBr : TBase w0 wr G G tb rb place n m S := B4.out.acc A4.out HLO.out HBB.out HG.out ⟨⟨vj, ha, hn⟩, hu⟩
        have CL := Lib.hid (IH.out wr Lj vj y hym hBr ha (by have := hu.size; have := BL4.out.size; have := HBW.out; omega) hfewj)
        have HSUM := Lib.hid hsum
        have HJL := Lib.hid hjl
        have hKT : Hid ((x :: B).take (BN + 1) = x :: B) := Lib.hid (by rw [← HKN.out]; exact List.take_length)
        have hlt : (j : Int) < (BN : Int) + 1 := by omega
        have hj6 : j ≤ 65536 := by omega
        have HDROP : Hid (from_ frm (ents (hh + 1) (x :: B : List (Kid hh))) = from_ frm (ents (hh + 1) ((x :: B).take (j + 1) : List (Kid hh))) ++ from_ frm (ents (hh + 1) ((x :: B).drop (j + 1) : List (Kid hh)))) := Lib.hid (by
          rw [← from_app, ← ents_app, List.take_append_drop])
        clear hjx hy hym hsum hle hfewj hBr hs ha hn hu HI IH hgk hj
        go_wp2_with fail
        refine CL.out.mono ?_
        rintro e w7 ⟨ok, rfl, HE⟩
        obtain ⟨L7, r1, r2⟩ := HE.out
        have hrun : sRun tt limit (from_ frm (ents (hh + 1) ((x :: B).take (j + 1) : List (Kid hh)))) L = (L7, ok) := by
          rw [HSUM.out, from_app, sRun_true HS.out]; exact r1
        have HRUN := Lib.hid hrun
        have HGO7 : Hid (AccGo base w4 w7 lb v L7) := Lib.hid (AccGo.trans HU.out HN.out r2)
        clear CL k5 r1 r2 hrun HE
        cases ok with
        | false =>
          have HE2 : Hid (ScanEnd base W w7 lb v frm tt limit (ents (hh + 1) (A ++ x :: B : List (Kid hh))) L false) := Lib.hid ⟨L7, by rw [HF.out, HDROP.out]; exact sRun_false HRUN.out, AccGo.below_left BL4.out HGO7.out⟩
          go_wp2_with fail
          go_ret
          first | exact ⟨false, rfl, HE2⟩ | exact .inl ⟨rfl, HE2⟩
        | true =>
          go_wp2_with fail
          go_roundg (BN + 1 - (j + 1))
          case measure => have := HGK.out; have := HJL.out; omega
          case rel =>
            obtain ⟨⟨v7, x1, x2⟩, x3⟩ := HGO7.out
            exact ⟨j + 1, rfl, HJL.out, by congr 1, Lib.hid ⟨L7, v7, HRUN.out, x1, x2, x3⟩⟩
      · have hje : j = BN + 1 := by omega
        have HE2 : Hid (ScanEnd base W wr lb v frm tt limit (ents (hh + 1) (A ++ x :: B : List (Kid hh))) L true) := Lib.hid ⟨Lj, by
          rw [HF.out]
          rw [hje, ← HKN.out, List.take_length] at hs
          exact hs, AccGo.below_left BL4.out ⟨⟨vj, ha, hn⟩, hu⟩⟩
        have hlt : ¬ (j : Int) < (BN : Int) + 1 := by omega
        have hlt2 : decide ((j : Int) < (BN : Int) + 1) = false := by simp; omega
        have hlt3 : ((j : Int) < (BN : Int) + 1) = False := by simp; omega
        clear hs ha hn hu HI IH hgk hj
        go_wp2_with fail
        go_ret
        first | exact ⟨true, rfl, HE2⟩ | exact .inr ⟨rfl, HE2⟩)
end Go.Proofs.YtdcjhpafipbpkaaGreatDoor
namespace Go.Proofs.YtdcjhpafipbpkaaGreatDoor
set_option linter.unusedVariables false
set_option maxRecDepth 100000
set_option maxHeartbeats 1000000
open Go.RowKit
def scanW (w : World) : World := (w.alloc (.cells #[.slice none 0 0] 166)).alloc (.cells #[.int .i64 0] 34)
theorem scanW_below (w : World) : Below w.heap.size w (scanW w) := ((Below.refl w.heap.size w).alloc (Nat.le_refl _) _).alloc (by simp) _
theorem scanW_size (w : World) : (scanW w).heap.size = w.heap.size + 2 := by unfold scanW; simp
theorem scanW_acc (w : World) : Acc (w.heap.size + 2) (scanW w) w.heap.size [] (.slice none 0 0) := by
  refine ⟨?_, ⟨rfl, .inl ⟨rfl, rfl⟩⟩, by simp [Value.ownBlock], by simp⟩
  unfold scanW; rw [heap_alloc_at, if_neg (by simp), heap_alloc_new]
theorem scanW_e (w : World) : (scanW w).heap[w.heap.size + 1]? = some (.cells #[.int .i64 0] 34 (0, 0)) := by
  unfold scanW; rw [heap_alloc_at, if_pos (by simp)]
/-- The room as it was, its blocks the same ones. -/
def StK (w w' : World) (G : Nat → Prop) (rb n m : Nat) (S : RS) : Prop := RmS w' G rb n m S ∧ Upd G w w'
theorem StK.go {w w' : World} {G : Nat → Prop} {rb n m : Nat} {S : RS} (h : StK w w' G rb n m S) : StGo w w' G rb n m S := ⟨G, h.1, ⟨h.2, fun k hk => .inl hk⟩⟩
theorem StG.keep {w W : World} {G : Nat → Prop} {rb n m : Nat} {S : RS} (h : StG w W G G rb n m S) : StK w W G rb n m S := ⟨h.room, h.up⟩
/-- What Scan leaves. -/
def ScanRes (w w' : World) (G : Nat → Prop) (rb n m : Nat) (S : RS) (E : List (ByteArray × ByteArray)) (v : Value) : Prop := w'.ownsRow (w.heap.size + 2) 170 2 v E.length (pairC E) ∧ StK w w' G rb n m S
theorem Scan_none (G : Nat → Prop) (tb rb place n m : Nat) (S : RS) (w : World) (frm tt : ByteArray) (limit : Int) (h : RmS w G rb n m S) (ht : TB w tb rb place) (hg : ¬ G tb) (hp : place < 16) (hm : m ≤ 3900000) (hr : S.root place = 0) :
    Calls Tryz.prog 87 #[.pointer (some ⟨tb, 0, none⟩), .string frm, .string tt, .int .i64 limit] w fun e w' => ∃ v, e = .returned (.tuple #[v, .int .i64 0]) ∧ Hid (ScanRes w w' G rb n m S [] v) := by
  have hmf : ∀ (fn : Fn) (first cap : Array Value) (w : World), (Instr.makeFunc fn first cap).run Tryz.prog w = .ok (.func fn first cap) w := fun _ _ _ _ => rfl
  have B0 := Lib.hid ((TBase.start h ht hg).below (scanW_below w))
  have HG := Lib.hid h.lt
  have HM := Lib.hid hm
  have A0 := Lib.hid (scanW_acc w)
  have E0 := Lib.hid (scanW_e w)
  have S0 := Lib.hid (scanW_size w)
  have RT := root_c G tb rb place n m S _ B0.out.room B0.out.blk hp (by omega) (by rw [hr]; omega)
  rw [hr] at RT
  clear h ht hg hp hm hr
  go_enter_defers Tryz.func87, Tryz.ntmps87
  go_wp2_with fail
  change Calls Tryz.prog 125 #[.pointer (some ⟨tb, 0, none⟩)] (scanW w) _
  generalize scanW w = W0 at *
  refine RT.mono ?_
  rintro e w2 ⟨rfl, hb⟩
  have B9 := Lib.hid (B0.out.below hb.out)
  have A9 := Lib.hid (A0.out.below hb.out)
  have E9 : Hid (w2.heap[w.heap.size + 1]? = some (.cells #[.int .i64 0] 34 (0, 0))) := Lib.hid ((hb.out.block _ (lt_of_heap E0.out)).trans E0.out)
  obtain ⟨v9, hv9⟩ : ∃ v9, Value.slice none 0 0 = v9 := ⟨_, rfl⟩
  rw [hv9] at A9
  clear hv9 RT hb
  have hfl : ((w2.setCell ⟨w.heap.size, 0, none⟩ v9).setCell ⟨w.heap.size + 1, 0, none⟩ (.int .i64 0)).cell? ⟨w.heap.size, 0, none⟩ = some v9 := cell_lit ((heap_set_ne _ (by omega)).trans (heap_set_lit A9.out.blk _)) rfl
  have hfe : ((w2.setCell ⟨w.heap.size, 0, none⟩ v9).setCell ⟨w.heap.size + 1, 0, none⟩ (.int .i64 0)).cell? ⟨w.heap.size + 1, 0, none⟩ = some (.int .i64 0) := cell_lit (heap_set_lit ((heap_set_ne _ (by omega)).trans E9.out) _) rfl
  have HRES : Hid (ScanRes w ((w2.setCell ⟨w.heap.size, 0, none⟩ v9).setCell ⟨w.heap.size + 1, 0, none⟩ (.int .i64 0)) G rb n m S [] v9) := Lib.hid (by
    refine ⟨ownsRow_of2 A9.out.row fun k hk => ?_, (((StG.of B9.out (Below.refl _ _)).loc (x := w.heap.size) (Nat.le_refl _) (fun e => by have := HG.out _ e; omega) 0 _).loc (x := w.heap.size + 1) (by omega) (fun e => by have := HG.out _ e; omega) 0 _).keep⟩
    have h1 := (A9.out.row.lt k hk).1
    exact (heap_set_ne _ (by omega)).trans (heap_set_ne _ (by omega)))
  have m0 : w2.cell? ⟨w.heap.size, 0, none⟩ = some v9 := cell_lit A9.out.blk rfl
  have m1 : w2.frozen? ⟨w.heap.size, 0, none⟩ = false := frozen_lit A9.out.blk 0
  have m2 : w2.cell? ⟨w.heap.size + 1, 0, none⟩ = some (.int .i64 0) := cell_lit E9.out rfl
  have m3 : w2.frozen? ⟨w.heap.size + 1, 0, none⟩ = false := frozen_lit E9.out 0
  obtain ⟨xa, xm, xc, rfl⟩ : ∃ a b c, v9 = .slice a b c := by
    rcases A9.out.row.2 with ⟨rfl, _⟩ | ⟨g, cap, cur, rfl, _⟩
    · exact ⟨_, _, _, rfl⟩
    · exact ⟨_, _, _, rfl⟩
  clear B0 A0 E0
  go_wp2_with fail
  refine leaves_cons (f := 124) (args := #[.pointer (some ⟨w.heap.size + 1, 0, none⟩)]) (by simp) (by simp [go_sem]) ?_
  refine (guard_idle _ _).mono ?_
  rintro e u' wa ⟨rfl, rfl, rfl⟩
  refine leaves_cons (f := 141) (args := #[.pointer (some ⟨w.heap.size + 1, 0, none⟩), .pointer (some ⟨w.heap.size, 0, none⟩)]) (by simp [settle]) (by simp [go_sem]) ?_
  refine (scan1_idle _ _ _ _ hfe).mono ?_
  rintro e u' wb ⟨rfl, rfl, rfl⟩
  simp [Leaves, settle, results, Tryz.results87, go_sem, hfe, hfl]
  exact HRES
theorem Scan_gen (G : Nat → Prop) (tb rb place n m : Nat) (S : RS) (hh p : Nat) (t : PT hh) (w : World) (frm tt : ByteArray) (limit : Nat) (h : RmS w G rb n m S) (ht : TB w tb rb place) (hg : ¬ G tb) (hp : place < 16) (hm : m ≤ 3900000) (hr : S.root place = p + 1) (hT : Tr S hh p t) (hh20 : hh ≤ 20) (hl0 : (ents hh t).length ≤ 40000000) (hl1 : 0 < limit) (hl2 : limit ≤ 4611686018427387904) :
    Calls Tryz.prog 87 #[.pointer (some ⟨tb, 0, none⟩), .string frm, .string tt, .int .i64 (limit : Int)] w fun e w' => ∃ v, e = .returned (.tuple #[v, .int .i64 0]) ∧ Hid (ScanRes w w' G rb n m S (sRun tt limit (from_ frm (ents hh t)) []).1 v) := by
  have hmf : ∀ (fn : Fn) (first cap : Array Value) (w : World), (Instr.makeFunc fn first cap).run Tryz.prog w = .ok (.func fn first cap) w := fun _ _ _ _ => rfl
  obtain ⟨RL, hRL⟩ : ∃ RL, (sRun tt limit (from_ frm (ents hh t)) []).1 = RL := ⟨_, rfl⟩
  rw [hRL]
  have HRL := Lib.hid hRL
  clear hRL
  have hp65 : p < 65536 := by
    have := h.lim p hT.on.top.1
    have := h.bounds
    unfold pagesN at *; omega
  have B0 := Lib.hid ((TBase.start h ht hg).below (scanW_below w))
  have HG := Lib.hid h.lt
  have HM := Lib.hid hm
  have A0 := Lib.hid (scanW_acc w)
  have E0 := Lib.hid (scanW_e w)
  have S0 := Lib.hid (scanW_size w)
  have RT := root_c G tb rb place n m S _ B0.out.room B0.out.blk hp (by omega) (by rw [hr]; omega)
  rw [hr, show (((p + 1 : Nat) : Int) - 1) = (p : Int) by omega] at RT
  have HT := Lib.hid hT
  have HH := Lib.hid hh20
  have HL0 := Lib.hid hl0
  have HL2 := Lib.hid hl2
  have hlim1 : (0 : Int) < (limit : Int) := by omega
  have hp0 : (0 : Int) ≤ (p : Int) := by omega
  clear h ht hg hp hm hr hT hh20 hl0 hl1 hl2 hp65
  go_enter_defers Tryz.func87, Tryz.ntmps87
  go_wp2_with fail
  change Calls Tryz.prog 125 #[.pointer (some ⟨tb, 0, none⟩)] (scanW w) _
  generalize scanW w = W0 at *
  refine RT.mono ?_
  rintro e w2 ⟨rfl, hb⟩
  have B2 := Lib.hid (B0.out.below hb.out)
  have A2 := Lib.hid (A0.out.below hb.out)
  have E2 : Hid (w2.heap[w.heap.size + 1]? = some (.cells #[.int .i64 0] 34 (0, 0))) := Lib.hid ((hb.out.block _ (lt_of_heap E0.out)).trans E0.out)
  have SC0 := scan_c hh w w2 G tb rb place n m S p t frm tt limit w.heap.size 0 (w.heap.size + 2) [] (.slice none 0 0) B2.out A2.out (Nat.le_refl _) (by omega) (by have := hb.out.size; have := S0.out; omega) HG.out HT.out (by have := HH.out; omega) HM.out (by have := HL0.out; simp; omega) (by have := HL2.out; omega)
  rw [show ((0 : Nat) : Int) = 0 from rfl] at SC0
  have SC := Lib.hid SC0
  clear RT hb SC0 B0 A0 E0
  go_wp2_with fail
  refine SC.out.mono ?_
  rintro e w9 ⟨ok, rfl, HE⟩
  clear SC
  obtain ⟨L9, hr9, hgo⟩ := HE.out
  obtain rfl : RL = L9 := HRL.out.symm.trans (congrArg Prod.fst hr9)
  have B9 := Lib.hid (B2.out.acc A2.out (Nat.le_refl _) (by omega : w.heap.size ≤ w.heap.size + 2) HG.out hgo)
  obtain ⟨⟨v9, a9, b9⟩, c9⟩ := hgo
  have A9 := Lib.hid a9
  have E9 : Hid (w9.heap[w.heap.size + 1]? = some (.cells #[.int .i64 0] 34 (0, 0))) := Lib.hid (c9.at E2.out fun e => by
    rcases e with e | e
    · omega
    · simp [Value.ownBlock] at e)
  clear a9 b9 c9 hr9 HE B2 A2 E2
  have hfl : ((w9.setCell ⟨w.heap.size, 0, none⟩ v9).setCell ⟨w.heap.size + 1, 0, none⟩ (.int .i64 0)).cell? ⟨w.heap.size, 0, none⟩ = some v9 := cell_lit ((heap_set_ne _ (by omega)).trans (heap_set_lit A9.out.blk _)) rfl
  have hfe : ((w9.setCell ⟨w.heap.size, 0, none⟩ v9).setCell ⟨w.heap.size + 1, 0, none⟩ (.int .i64 0)).cell? ⟨w.heap.size + 1, 0, none⟩ = some (.int .i64 0) := cell_lit (heap_set_lit ((heap_set_ne _ (by omega)).trans E9.out) _) rfl
  have HRES : Hid (ScanRes w ((w9.setCell ⟨w.heap.size, 0, none⟩ v9).setCell ⟨w.heap.size + 1, 0, none⟩ (.int .i64 0)) G rb n m S RL v9) := Lib.hid (by
    refine ⟨ownsRow_of2 A9.out.row fun k hk => ?_, (((StG.of B9.out (Below.refl _ _)).loc (x := w.heap.size) (Nat.le_refl _) (fun e => by have := HG.out _ e; omega) 0 _).loc (x := w.heap.size + 1) (by omega) (fun e => by have := HG.out _ e; omega) 0 _).keep⟩
    have h1 := (A9.out.row.lt k hk).1
    exact (heap_set_ne _ (by omega)).trans (heap_set_ne _ (by omega)))
  have m0 : w9.cell? ⟨w.heap.size, 0, none⟩ = some v9 := cell_lit A9.out.blk rfl
  have m1 : w9.frozen? ⟨w.heap.size, 0, none⟩ = false := frozen_lit A9.out.blk 0
  have m2 : w9.cell? ⟨w.heap.size + 1, 0, none⟩ = some (.int .i64 0) := cell_lit E9.out rfl
  have m3 : w9.frozen? ⟨w.heap.size + 1, 0, none⟩ = false := frozen_lit E9.out 0
  obtain ⟨xa, xm, xc, rfl⟩ : ∃ a b c, v9 = .slice a b c := by
    rcases A9.out.row.2 with ⟨rfl, _⟩ | ⟨g, cap, cur, rfl, _⟩
    · exact ⟨_, _, _, rfl⟩
    · exact ⟨_, _, _, rfl⟩
  go_wp2_with fail
  refine leaves_cons (f := 124) (args := #[.pointer (some ⟨w.heap.size + 1, 0, none⟩)]) (by simp) (by simp [go_sem]) ?_
  refine (guard_idle _ _).mono ?_
  rintro e u' wa ⟨rfl, rfl, rfl⟩
  refine leaves_cons (f := 141) (args := #[.pointer (some ⟨w.heap.size + 1, 0, none⟩), .pointer (some ⟨w.heap.size, 0, none⟩)]) (by simp [settle]) (by simp [go_sem]) ?_
  refine (scan1_idle _ _ _ _ hfe).mono ?_
  rintro e u' wb ⟨rfl, rfl, rfl⟩
  simp [Leaves, settle, results, Tryz.results87, go_sem, hfe, hfl]
  exact HRES
end Go.Proofs.YtdcjhpafipbpkaaGreatDoor
namespace Go.Proofs.YtdcjhpafipbpkaaGreatDoor
set_option linter.unusedVariables false
set_option maxRecDepth 100000
set_option maxHeartbeats 1000000
open Go.RowKit
/-- The walk's own value. -/
def walkV (b c : Nat) : Value := .func (Fn.func 150) #[] #[.pointer (some ⟨b + 1, 0, none⟩), .pointer (some ⟨b, 0, none⟩), .pointer (some ⟨c, 0, none⟩), .pointer (some ⟨c + 1 + 1, 0, none⟩), .pointer (some ⟨c + 1, 0, none⟩), .pointer (some ⟨c + 1 + 1 + 1, 0, none⟩)]
/-- The variables of Pages: b the tree, b + 1 the pages, c how deep the leaves are, c + 1 the last key, c + 2 whether there is one, c + 3 the walk. -/
structure PgS (base : Nat) (W : World) (b c tb : Nat) (P : List Nat) (v : Value) (lv : Int) (sm : Bool) (la : ByteArray) : Prop where
  pg : W.heap[b + 1]? = some (.cells #[v] 191 (0, 0))
  row : W.ownsRow base 3 1 v P.length (P.map encN)
  tx : W.heap[b]? = some (.cells #[.pointer (some ⟨tb, 0, none⟩)] 103 (0, 0))
  lf : W.heap[c]? = some (.cells #[.int .i64 lv] 3 (0, 0))
  ls : W.heap[c + 1]? = some (.cells #[.string la] 9 (0, 0))
  so : W.heap[c + 1 + 1]? = some (.cells #[.bool sm] 4 (0, 0))
  wk : W.heap[c + 1 + 1 + 1]? = some (.cells #[walkV b c] 242 (0, 0))
  bc : b + 3 ≤ c
  cb : c + 4 ≤ base
/-- What may change. -/
def PgL (b c : Nat) (v : Value) (k : Nat) : Prop := k = b + 1 ∨ k = c ∨ k = c + 1 ∨ k = c + 1 + 1 ∨ v.ownBlock = some k
section
variable {base b c tb : Nat} {W W' : World} {P : List Nat} {v : Value} {lv : Int} {sm : Bool} {la : ByteArray}
theorem PgS.below (h : PgS base W b c tb P v lv sm la) (hb : Below W.heap.size W W') : PgS base W' b c tb P v lv sm la :=
  ⟨(hb.block _ (lt_of_heap h.pg)).trans h.pg, ownsRow_of h.row fun k e => hb.block k (h.row.lt k e).2, (hb.block _ (lt_of_heap h.tx)).trans h.tx, (hb.block _ (lt_of_heap h.lf)).trans h.lf, (hb.block _ (lt_of_heap h.ls)).trans h.ls, (hb.block _ (lt_of_heap h.so)).trans h.so, (hb.block _ (lt_of_heap h.wk)).trans h.wk, h.bc, h.cb⟩
theorem PgS.cells (h : PgS base W b c tb P v lv sm la) : W.cell? ⟨b + 1, 0, none⟩ = some v ∧ W.frozen? ⟨b + 1, 0, none⟩ = false ∧ W.cell? ⟨b, 0, none⟩ = some (.pointer (some ⟨tb, 0, none⟩)) ∧ W.cell? ⟨c, 0, none⟩ = some (.int .i64 lv) ∧ W.frozen? ⟨c, 0, none⟩ = false ∧ W.cell? ⟨c + 1, 0, none⟩ = some (.string la) ∧ W.frozen? ⟨c + 1, 0, none⟩ = false ∧ W.cell? ⟨c + 1 + 1, 0, none⟩ = some (.bool sm) ∧ W.frozen? ⟨c + 1 + 1, 0, none⟩ = false ∧ W.cell? ⟨c + 1 + 1 + 1, 0, none⟩ = some (walkV b c) ∧ c + 1 + 1 + 1 < W.heap.size :=
  ⟨cell_lit h.pg rfl, frozen_lit h.pg 0, cell_lit h.tx rfl, cell_lit h.lf rfl, frozen_lit h.lf 0, cell_lit h.ls rfl, frozen_lit h.ls 0, cell_lit h.so rfl, frozen_lit h.so 0, cell_lit h.wk rfl, lt_of_heap h.wk⟩
theorem PgS.rowlt (h : PgS base W b c tb P v lv sm la) : ∀ k, v.ownBlock = some k → base ≤ k := fun k e => (h.row.lt k e).1
/-- A page more. -/
theorem PgS.push {W5 : World} {v' : Value} {p : Nat} (h : PgS base W b c tb P v lv sm la) {Wb : World} (hb : Below W.heap.size W Wb) (ho : W5.ownsRow base 3 1 v' (P.length + 1) (P.map encN ++ [encN p])) (hg : Wb.grownBy W5 v.ownBlock) (hv : v'.ownBlock = v.ownBlock ∨ v'.ownBlock = some Wb.heap.size) :
    (W5.cell? ⟨b + 1, 0, none⟩ = some v ∧ W5.frozen? ⟨b + 1, 0, none⟩ = false) ∧ PgS base (W5.setCell ⟨b + 1, 0, none⟩ v') b c tb (P ++ [p]) v' lv sm la ∧ (∀ k, v'.ownBlock = some k → v.ownBlock = some k ∨ W.heap.size ≤ k) ∧ Upd (PgL b c v) W (W5.setCell ⟨b + 1, 0, none⟩ v') := by
  have hA := h.below hb
  have hu : Upd (fun k => v.ownBlock = some k) Wb W5 := (Upd.refl _ _).grown hg fun k e => .inl e
  have hbc := h.bc
  have hcb := h.cb
  have nb : ∀ k, k < base → ¬ v.ownBlock = some k := fun k hk e => by have := h.rowlt k e; omega
  have hs := hb.size
  have hlt := lt_of_heap h.wk
  have f : ∀ k o, k < base → k ≠ b + 1 → Wb.heap[k]? = some o → (W5.setCell ⟨b + 1, 0, none⟩ v').heap[k]? = some o := fun k o hk hne hko => (heap_set_ne v' hne).trans (hu.at hko (nb k hk))
  have h5 := hu.at hA.pg (nb _ (by omega))
  refine ⟨⟨cell_lit h5 rfl, frozen_lit h5 0⟩, ⟨heap_set_lit h5 v', ?_, f _ _ (by omega) (by omega) hA.tx, f _ _ (by omega) (by omega) hA.lf, f _ _ (by omega) (by omega) hA.ls, f _ _ (by omega) (by omega) hA.so, f _ _ (by omega) (by omega) hA.wk, hbc, hcb⟩, fun k hk => ?_, ?_⟩
  · have e1 : (P ++ [p]).length = P.length + 1 := by simp
    have e2 : (P ++ [p]).map encN = P.map encN ++ [encN p] := by simp
    rw [e1, e2]
    exact ownsRow_of ho fun k hk => heap_set_ne _ fun e => by have := (ho.lt k hk).1; omega
  · rcases hv with e | e
    · exact .inl (by rw [← e]; exact hk)
    · rw [e] at hk; cases hk; exact .inr hs
  · have u1 : Upd (PgL b c v) W Wb := (hb.upd' (Nat.le_refl _)).mono fun _ _ e => False.elim e
    exact (u1.trans (hu.mono fun k _ e => .inr (.inr (.inr (.inr e))))).setCell (p := ⟨b + 1, 0, none⟩) (.inl (.inl rfl)) v'
theorem PgS.setK (h : PgS base W b c tb P v lv sm la) (x : ByteArray) : PgS base ((W.setCell ⟨c + 1, 0, none⟩ (.string x)).setCell ⟨c + 1 + 1, 0, none⟩ (.bool true)) b c tb P v lv true x ∧ Upd (PgL b c v) W ((W.setCell ⟨c + 1, 0, none⟩ (.string x)).setCell ⟨c + 1 + 1, 0, none⟩ (.bool true)) := by
  have hbc := h.bc
  have hcb := h.cb
  have e : ∀ k, k ≠ c + 1 → k ≠ c + 1 + 1 → ((W.setCell ⟨c + 1, 0, none⟩ (.string x)).setCell ⟨c + 1 + 1, 0, none⟩ (.bool true)).heap[k]? = W.heap[k]? := fun k h1 h2 => (heap_set_ne _ h2).trans (heap_set_ne _ h1)
  refine ⟨⟨(e _ (by omega) (by omega)).trans h.pg, ownsRow_of h.row fun k hk => e k (by have := h.rowlt k hk; omega) (by have := h.rowlt k hk; omega), (e _ (by omega) (by omega)).trans h.tx, (e _ (by omega) (by omega)).trans h.lf, (heap_set_ne _ (by omega)).trans (heap_set_lit h.ls _), heap_set_lit ((heap_set_ne _ (by omega)).trans h.so) _, (e _ (by omega) (by omega)).trans h.wk, hbc, hcb⟩, ((Upd.refl _ _).setCell (p := ⟨c + 1, 0, none⟩) (.inl (.inr (.inr (.inl rfl)))) _).setCell (p := ⟨c + 1 + 1, 0, none⟩) (.inl (.inr (.inr (.inr (.inl rfl))))) _⟩
end
/-- The variables go on. -/
def PgGo (base : Nat) (W W' : World) (b c tb : Nat) (v : Value) (P' : List Nat) (lv' : Int) (sm' : Bool) (la' : ByteArray) : Prop :=
  (∃ v', PgS base W' b c tb P' v' lv' sm' la' ∧ ∀ k, v'.ownBlock = some k → v.ownBlock = some k ∨ W.heap.size ≤ k) ∧ Upd (PgL b c v) W W'
theorem PgGo.trans {base b c tb : Nat} {W W1 W2 : World} {v v1 : Value} {P2 : List Nat} {lv2 : Int} {sm2 : Bool} {la2 : ByteArray} (hu : Upd (PgL b c v) W W1) (hn : ∀ k, v1.ownBlock = some k → v.ownBlock = some k ∨ W.heap.size ≤ k) (h : PgGo base W1 W2 b c tb v1 P2 lv2 sm2 la2) : PgGo base W W2 b c tb v P2 lv2 sm2 la2 := by
  obtain ⟨⟨v2, a, bb⟩, cc⟩ := h
  refine ⟨⟨v2, a, fun k hk => ?_⟩, hu.trans' cc fun j hj e => ?_⟩
  · rcases bb k hk with e | e
    · exact hn k e
    · have := hu.size; exact .inr (by omega)
  · rcases e with e | e | e | e | e
    · exact .inl e
    · exact .inr (.inl e)
    · exact .inr (.inr (.inl e))
    · exact .inr (.inr (.inr (.inl e)))
    · exact .inr (.inr (.inr (.inr ((hn j e).resolve_right (by omega)))))
theorem PgGo.below_left {base b c tb : Nat} {W W1 W2 : World} {v : Value} {P2 : List Nat} {lv2 : Int} {sm2 : Bool} {la2 : ByteArray} (hb : Below W.heap.size W W1) (h : PgGo base W1 W2 b c tb v P2 lv2 sm2 la2) : PgGo base W W2 b c tb v P2 lv2 sm2 la2 :=
  PgGo.trans ((hb.upd' (Nat.le_refl _)).mono fun _ _ e => False.elim e) (fun k e => .inl e) h
theorem TBase.pgs {w0 W W' : World} {G0 G : Nat → Prop} {tb rb place n m : Nat} {S : RS} (h : TBase w0 W G0 G tb rb place n m S) {base b c tb2 : Nat} {P : List Nat} {v : Value} {lv : Int} {sm : Bool} {la : ByteArray} (hp : PgS base W b c tb2 P v lv sm la) (hb : w0.heap.size ≤ b) (hG : ∀ k, G k → k < w0.heap.size) (hu : Upd (PgL b c v) W W') : TBase w0 W' G0 G tb rb place n m S := by
  have hbc := hp.bc
  have hcb := hp.cb
  refine h.node hu fun k hk => ?_
  have : w0.heap.size ≤ k := by
    rcases hk with e | e | e | e | e
    · omega
    · omega
    · omega
    · omega
    · have := hp.rowlt k e; omega
  exact ⟨this, fun e' => by have := hG k e'; omega⟩
end Go.Proofs.YtdcjhpafipbpkaaGreatDoor
namespace Go.Proofs.YtdcjhpafipbpkaaGreatDoor
set_option linter.unusedVariables false
set_option maxRecDepth 100000
set_option maxHeartbeats 4000000
open Go.RowKit
end Go.Proofs.YtdcjhpafipbpkaaGreatDoor
namespace Go.Proofs.YtdcjhpafipbpkaaGreatDoor
set_option linter.unusedVariables false
set_option maxRecDepth 100000
set_option maxHeartbeats 4000000
open Go.RowKit
end Go.Proofs.YtdcjhpafipbpkaaGreatDoor
namespace Go.Proofs.YtdcjhpafipbpkaaGreatDoor
set_option linter.unusedVariables false
set_option maxRecDepth 100000
set_option maxHeartbeats 4000000
open Go.RowKit
/-- The call's own variables: the tree, the pages, the error. -/
structure PgLoc (W : World) (b tb : Nat) : Prop where
  b0 : W.heap[b]? = some (.cells #[.pointer (some ⟨tb, 0, none⟩)] 103 (0, 0))
  b1 : W.heap[b + 1]? = some (.cells #[.slice none 0 0] 191 (0, 0))
  b2 : W.heap[b + 1 + 1]? = some (.cells #[.int .i64 0] 34 (0, 0))
theorem PgLoc.upd {W W' : World} {b tb : Nat} {G : Nat → Prop} (h : PgLoc W b tb) (hu : Upd G W W') (hn : ∀ k, b ≤ k → k < b + 3 → ¬ G k) : PgLoc W' b tb :=
  ⟨hu.at h.b0 (hn _ (by omega) (by omega)), hu.at h.b1 (hn _ (by omega) (by omega)), hu.at h.b2 (hn _ (by omega) (by omega))⟩
theorem PgLoc.below {W W' : World} {b tb : Nat} (h : PgLoc W b tb) (hb : Below W.heap.size W W') : PgLoc W' b tb := h.upd (hb.upd' (Nat.le_refl _)) (fun _ _ _ e => e)
theorem PgLoc.cells {W : World} {b tb : Nat} (h : PgLoc W b tb) : W.cell? ⟨b, 0, none⟩ = some (.pointer (some ⟨tb, 0, none⟩)) ∧ W.cell? ⟨b + 1, 0, none⟩ = some (.slice none 0 0) ∧ W.cell? ⟨b + 1 + 1, 0, none⟩ = some (.int .i64 0) ∧ W.frozen? ⟨b + 1, 0, none⟩ = false ∧ W.frozen? ⟨b + 1 + 1, 0, none⟩ = false ∧ b < W.heap.size ∧ b + 1 + 1 < W.heap.size :=
  ⟨cell_lit h.b0 rfl, cell_lit h.b1 rfl, cell_lit h.b2 rfl, frozen_lit h.b1 0, frozen_lit h.b2 0, lt_of_heap h.b0, lt_of_heap h.b2⟩
end Go.Proofs.YtdcjhpafipbpkaaGreatDoor
namespace Go.Proofs.YtdcjhpafipbpkaaGreatDoor
set_option linter.unusedVariables false
set_option maxRecDepth 100000
set_option maxHeartbeats 1000000
open Go.RowKit
/-- A room whose blocks are all new since w1, and not among those of K. -/
def RSt (w1 w : World) (K : Nat → Prop) (rb n m : Nat) (S : RS) : Prop :=
  ∃ G, RmS w G rb n m S ∧ (∀ k, G k → w1.heap.size ≤ k) ∧ (∀ k, K k → k < w.heap.size ∧ ¬ G k) ∧ Below w1.heap.size w1 w
/-- These blocks are as they were. -/
def Kept (K : Nat → Prop) (w w' : World) : Prop := ∀ k, K k → w'.heap[k]? = w.heap[k]?
section
variable {w1 w w' : World} {K : Nat → Prop} {rb n m : Nat} {S : RS}
theorem Kept.trans {w2 : World} (h : Kept K w w') (g : Kept K w' w2) : Kept K w w2 := fun k hk => (g k hk).trans (h k hk)
theorem Kept.mono {K' : Nat → Prop} (h : Kept K w w') (hK : ∀ k, K' k → K k) : Kept K' w w' := fun k hk => h k (hK k hk)
theorem Kept.row {base : Nat} {e : TypeId} {s : Nat} {v : Value} {c : Nat} {xs : List Value} (h : w.ownsRow base e s v c xs) (hk : Kept K w w') (hv : ∀ k, v.ownBlock = some k → K k) : w'.ownsRow base e s v c xs := ownsRow_of2 h fun k e => hk k (hv k e)
theorem Kept.tb {tb place : Nat} (h : Kept K w w') (ht : TB w tb rb place) (hk : K tb) : TB w' tb rb place := (h tb hk).trans ht
theorem RSt.below (h : RSt w1 w K rb n m S) (hb : Below w.heap.size w w') : RSt w1 w' (fun k => K k ∨ (w.heap.size ≤ k ∧ k < w'.heap.size)) rb n m S ∧ Kept K w w' := by
  obtain ⟨G, a, b, d, e⟩ := h
  refine ⟨⟨G, a.below hb, b, fun k hk => ?_, e.trans (hb.mono e.size)⟩, fun k hk => hb.block k (d k hk).1⟩
  rcases hk with hk | hk
  · exact ⟨Nat.lt_of_lt_of_le (d k hk).1 hb.size, (d k hk).2⟩
  · exact ⟨hk.2, fun hg => by have := a.lt k hg; omega⟩
theorem RSt.mono {K' : Nat → Prop} (h : RSt w1 w K rb n m S) (hK : ∀ k, K' k → K k) : RSt w1 w K' rb n m S := by
  obtain ⟨G, a, b, d, e⟩ := h
  exact ⟨G, a, b, fun k hk => d k (hK k hk), e⟩
theorem RSt.more {m' : Nat} (h : RSt w1 w K rb n m S) (hm : m ≤ m') : RSt w1 w K rb n m' S := by
  obtain ⟨G, a, b, d, e⟩ := h
  exact ⟨G, a.more hm, b, d, e⟩
theorem RSt.bel (h : RSt w1 w K rb n m S) : Below w1.heap.size w1 w := by obtain ⟨G, a, b, d, e⟩ := h; exact e
theorem RSt.bounds (h : RSt w1 w K rb n m S) : 1 ≤ n ∧ n ≤ 65335 := by obtain ⟨G, a, b, d, e⟩ := h; exact a.bounds
theorem RSt.of {G : Nat → Prop} {S' : RS} {m' : Nat} (b : ∀ k, G k → w1.heap.size ≤ k) (d : ∀ k, K k → k < w.heap.size ∧ ¬ G k) (e : Below w1.heap.size w1 w) (h : StGo w w' G rb n m' S') : RSt w1 w' K rb n m' S' ∧ Kept K w w' := by
  obtain ⟨G', r, t⟩ := h
  have hs := e.size
  refine ⟨⟨G', r, fun k hk => ?_, fun k hk => ⟨Nat.lt_of_lt_of_le (d k hk).1 t.upd.size, fun hg => ?_⟩, e.trans (t.upd.below hs fun k hk hg => by have := b k hg; omega)⟩, fun k hk => t.upd.block k (d k hk).1 (d k hk).2⟩
  · rcases t.sub k hk with h1 | h1
    · exact b k h1
    · omega
  · rcases t.sub k hg with h1 | h1
    · exact (d k hk).2 h1
    · have := (d k hk).1; omega
/-- .. where its blocks stay the same ones, new blocks are not among them. -/
theorem RSt.ofK {G : Nat → Prop} {S' : RS} {m' : Nat} (a : RmS w G rb n m S) (b : ∀ k, G k → w1.heap.size ≤ k) (d : ∀ k, K k → k < w.heap.size ∧ ¬ G k) (e : Below w1.heap.size w1 w) (h : StK w w' G rb n m' S') : RSt w1 w' (fun k => K k ∨ (w.heap.size ≤ k ∧ k < w'.heap.size)) rb n m' S' ∧ Kept K w w' := by
  have hs := e.size
  refine ⟨⟨G, h.1, b, fun k hk => ?_, e.trans (h.2.below hs fun k hk hg => by have := b k hg; omega)⟩, fun k hk => h.2.block k (d k hk).1 (d k hk).2⟩
  rcases hk with hk | hk
  · exact ⟨Nat.lt_of_lt_of_le (d k hk).1 h.2.size, (d k hk).2⟩
  · exact ⟨hk.2, fun hg => by have := a.lt k hg; omega⟩
end
theorem nodup_len : ∀ (N : Nat) (P : List Nat), P.Nodup → (∀ q ∈ P, q < N) → P.length ≤ N
  | 0, P, _, h => by
    cases P with
    | nil => simp
    | cons x P => exact absurd (h x (by simp)) (Nat.not_lt_zero _)
  | N + 1, P, hn, h => by
    by_cases hN : N ∈ P
    · have hl := List.length_erase_of_mem hN
      have hp := List.length_pos_of_mem hN
      have := nodup_len N (P.erase N) (hn.erase N) fun q hq => by
        have h1 := (hn.mem_erase_iff).1 hq
        have := h q h1.2
        have := h1.1
        omega
      omega
    · have := nodup_len N P hn fun q hq => by
        have := h q hq
        have : q ≠ N := fun e => hN (e ▸ hq)
        omega
      omega
theorem TreeSt.few {S : RS} {place n m rb : Nat} {o : Option TT} {w : World} {G : Nat → Prop} (h : TreeSt S place o) (hr : RmS w G rb n m S) : (pgsO o).length ≤ 100000 := by
  cases o with
  | none => simp [pgsO]
  | some T =>
    have h1 := nodup_len (pagesN n) _ h.2.nod fun q hq => hr.lim q (h.2.on.used q hq)
    have h2 := hr.bounds
    show (pgs T.h T.p T.t).length ≤ 100000
    unfold pagesN at *; omega
section
variable (w1 w : World) (K : Nat → Prop) (tb rb place n m : Nat) (S : RS) (o : Option TT)
theorem put_r (k : Nat) (key val : ByteArray) (h : RSt w1 w K rb n m S) (ht : TB w tb rb place) (hK : K tb) (ho : TreeSt S place o) (hs : Spare S n (k + 2)) (hp : place < 16) (hm : m ≤ 3900000) (hks : key.size ≤ 96) (hvs : val.size ≤ 56) (hk20 : k ≤ 20) (hh : hgtO o ≤ k) :
    Calls Tryz.prog 71 #[.pointer (some ⟨tb, 0, none⟩), .string key, .string val] w fun e w' => e = .returned (.int .i64 0) ∧ Hid (∃ S' o', RSt w1 w' K rb n (m + 100) S' ∧ Kept K w w' ∧ PutGo place n S S' o o' key val) := by
  obtain ⟨G, a, b, d, e⟩ := h
  have fin : ∀ w', PutEnd w w' G rb n m place S o key val → ∃ S' o', RSt w1 w' K rb n (m + 100) S' ∧ Kept K w w' ∧ PutGo place n S S' o o' key val := fun w' ⟨S', o', hs, hg⟩ =>
    ⟨S', o', (RSt.of b d e hs).1, (RSt.of b d e hs).2, hg⟩
  cases o with
  | none =>
    refine (Put_new G tb rb place n m S key val w a ht (d tb hK).2 hp hm hks hvs ho (hs.less (by omega))).mono ?_
    rintro e w' ⟨rfl, hE⟩
    exact ⟨rfl, Lib.hid (fin w' hE.out)⟩
  | some T =>
    have hT : T.h ≤ k := hh
    refine (Put_old G tb rb place n m S T key val w a ht (d tb hK).2 hp hm hks hvs ho (by omega) (hs.less (by omega))).mono ?_
    rintro e w' ⟨rfl, hE⟩
    exact ⟨rfl, Lib.hid (fin w' hE.out)⟩
theorem del_r (key : ByteArray) (h : RSt w1 w K rb n m S) (ht : TB w tb rb place) (hK : K tb) (ho : TreeSt S place o) (hp : place < 16) (hm : m ≤ 3900000) (hh : hgtO o ≤ 20) :
    Calls Tryz.prog 74 #[.pointer (some ⟨tb, 0, none⟩), .string key] w fun e w' => ∃ was : Bool, e = .returned (.tuple #[.bool was, .int .i64 0]) ∧ Hid (∃ S' o', RSt w1 w' K rb n (m + 300) S' ∧ Kept K w w' ∧ ((was = true ∧ DelGo place n S S' o o' key) ∨ (was = false ∧ S' = S ∧ o' = o ∧ ∀ e ∈ entsO o, e.1 ≠ key))) := by
  obtain ⟨G, a, b, d, e⟩ := h
  have fin : ∀ w' was, DelEnd w w' G rb n m place S o key was → ∃ S' o', RSt w1 w' K rb n (m + 300) S' ∧ Kept K w w' ∧ ((was = true ∧ DelGo place n S S' o o' key) ∨ (was = false ∧ S' = S ∧ o' = o ∧ ∀ e ∈ entsO o, e.1 ≠ key)) := fun w' was hE => by
    cases was with
    | true =>
      unfold DelEnd at hE
      rw [if_pos rfl] at hE
      obtain ⟨S', o', hs, hg⟩ := hE
      exact ⟨S', o', (RSt.of b d e hs).1, (RSt.of b d e hs).2, .inl ⟨rfl, hg⟩⟩
    | false =>
      unfold DelEnd at hE
      rw [if_neg (by simp)] at hE
      exact ⟨S, o, (RSt.of b d e hE.1).1, (RSt.of b d e hE.1).2, .inr ⟨rfl, rfl, rfl, hE.2⟩⟩
  cases o with
  | none =>
    refine (Delete_none G tb rb place n m S key w a ht (d tb hK).2 hp hm ho).mono ?_
    rintro e w' ⟨was, rfl, hE⟩
    exact ⟨was, rfl, Lib.hid (fin w' was hE.out)⟩
  | some T =>
    refine (Delete_some G tb rb place n m S T.h T.p T.t key w a ht (d tb hK).2 hp hm ho.1 ho.2 hh).mono ?_
    rintro e w' ⟨was, rfl, hE⟩
    exact ⟨was, rfl, Lib.hid (fin w' was hE.out)⟩
theorem get_r (key : ByteArray) (h : RSt w1 w K rb n m S) (ht : TB w tb rb place) (hK : K tb) (ho : TreeSt S place o) (hp : place < 16) (hm : m ≤ 3900000) (hh : hgtO o ≤ 19) :
    Calls Tryz.prog 115 #[.pointer (some ⟨tb, 0, none⟩), .string key] w fun e w' => ∃ v ok, e = .returned (.tuple #[.string v, .bool ok, .int .i64 0]) ∧ Got key (entsO o) v ok ∧ Hid (RSt w1 w' K rb n m S ∧ Kept K w w') := by
  obtain ⟨G, a, b, d, e⟩ := h
  cases o with
  | none =>
    refine (Get_none G tb rb place n m S key w a ht (d tb hK).2 hp hm ho).mono ?_
    rintro e' w' ⟨v, ok, rfl, hg, hE⟩
    exact ⟨v, ok, rfl, hg, Lib.hid (RSt.of b d e hE.out)⟩
  | some T =>
    refine (Get_some G tb rb place n m S T.h T.p T.t key w a ht (d tb hK).2 hp hm ho.1 ho.2 hh).mono ?_
    rintro e' w' ⟨v, ok, rfl, hg, hE⟩
    exact ⟨v, ok, rfl, hg, Lib.hid (RSt.of b d e hE.out)⟩
/-- What a reading leaves: new blocks can be kept. -/
def ReadK (w1 w w' : World) (K : Nat → Prop) (rb n m : Nat) (S : RS) : Prop := RSt w1 w' (fun k => K k ∨ (w.heap.size ≤ k ∧ k < w'.heap.size)) rb n m S ∧ Kept K w w'
/-- Scan. -/
theorem scan_g (frm tt : ByteArray) (limit : Nat) (h : RSt w1 w K rb n m S) (ht : TB w tb rb place) (hK : K tb) (ho : TreeSt S place o) (hp : place < 16) (hm : m ≤ 3900000) (hh : hgtO o ≤ 20) (hl0 : (entsO o).length ≤ 40000000) (hl1 : 0 < limit) (hl2 : limit ≤ 4611686018427387904) :
    Calls Tryz.prog 87 #[.pointer (some ⟨tb, 0, none⟩), .string frm, .string tt, .int .i64 (limit : Int)] w fun e w' => ∃ v, e = .returned (.tuple #[v, .int .i64 0]) ∧ Hid (w'.ownsRow (w.heap.size + 2) 170 2 v (sRun tt limit (from_ frm (entsO o)) []).1.length (pairC (sRun tt limit (from_ frm (entsO o)) []).1) ∧ ReadK w1 w w' K rb n m S) := by
  obtain ⟨G, a, b, d, e⟩ := h
  cases o with
  | none =>
    refine (Scan_none G tb rb place n m S w frm tt limit a ht (d tb hK).2 hp hm ho).mono ?_
    rintro e' w' ⟨v, rfl, hE⟩
    exact ⟨v, rfl, Lib.hid ⟨hE.out.1, RSt.ofK a b d e hE.out.2⟩⟩
  | some T =>
    refine (Scan_gen G tb rb place n m S T.h T.p T.t w frm tt limit a ht (d tb hK).2 hp hm ho.1 ho.2 hh hl0 hl1 hl2).mono ?_
    rintro e' w' ⟨v, rfl, hE⟩
    exact ⟨v, rfl, Lib.hid ⟨hE.out.1, RSt.ofK a b d e hE.out.2⟩⟩
end
/-- One map of a room of n homes: its block is kept, c pages are free. -/
def MSt (w1 w : World) (tb rb place n m : Nat) (o : Option TT) (c : Nat) : Prop := ∃ S, RSt w1 w (fun k => k = tb) rb n m S ∧ TB w tb rb place ∧ TreeSt S place o ∧ Spare S n c
section
variable (w1 w : World) (tb rb place n m c : Nat) (o : Option TT)
theorem MSt.below {w1 w w' : World} {tb rb place n m c : Nat} {o : Option TT} (h : MSt w1 w tb rb place n m o c) (hb : Below w.heap.size w w') : MSt w1 w' tb rb place n m o c := by
  obtain ⟨S, a, b, d, e⟩ := h
  exact ⟨S, (a.below hb).1.mono fun k hk => .inl hk, b.below hb, d, e⟩
theorem MSt.read {w1 w w' : World} {tb rb place n m c : Nat} {o : Option TT} {S : RS} (b : TB w tb rb place) (d : TreeSt S place o) (e : Spare S n c) (h : ReadK w1 w w' (fun k => k = tb) rb n m S) : MSt w1 w' tb rb place n m o c :=
  ⟨S, h.1.mono fun k hk => .inl hk, h.2.tb b rfl, d, e⟩
theorem MSt.srt {w1 w : World} {tb rb place n m c : Nat} {o : Option TT} (h : MSt w1 w tb rb place n m o c) : Srt (entsO o) := by obtain ⟨S, a, b, d, e⟩ := h; exact srt_o d
theorem MSt.bel {w1 w : World} {tb rb place n m c : Nat} {o : Option TT} (h : MSt w1 w tb rb place n m o c) : Below w1.heap.size w1 w := by obtain ⟨S, a, b, d, e⟩ := h; exact a.bel
end
/-- At. -/
theorem At_c (rb place : Nat) (w : World) : Calls Tryz.prog 51 #[.pointer (some ⟨rb, 0, none⟩), .int .i64 (place : Int)] w fun e w' => e = .returned (.pointer (some ⟨w.heap.size, 0, none⟩)) ∧ Hid (TB w' w.heap.size rb place ∧ Below w.heap.size w w') := by
  go_enter Tryz.func51, Tryz.ntmps51
  go_wp2_with fail
  go_ret
  exact ⟨rfl, heap_alloc_new _ _, (Below.refl w.heap.size w).alloc (Nat.le_refl _) _⟩
theorem pigeon_spare (n : Nat) (c : Nat) (h : c ≤ pagesN n) : Spare ⟨fun _ => 0, fun _ => false, fun _ => pad0, []⟩ n c := ⟨[], fun q hq => (by cases hq), by simpa using h⟩
/-- A room on a new disk, out of its parts. -/
theorem NewRoom.of {w1 wa wb wc wd : World} {FL G : Nat → Prop} {lb rb n tx : Nat} (ha : Below w1.heap.size w1 wa) (h1 : IsLog wb FL lb n ∧ (∀ k, FL k → wa.heap.size ≤ k) ∧ Below wa.heap.size wa wb) (h2 : IsTx wc (fun k => k = wb.heap.size + 1 ∨ k = wb.heap.size) tx lb [] ∧ Below wb.heap.size wb wc)
    (h3 : Rm wd G rb n [] ∧ (∀ k, G k → (FL k ∨ (k = wb.heap.size + 1 ∨ k = wb.heap.size)) ∨ wc.heap.size ≤ k) ∧ Below wc.heap.size wc wd) : NewRoom w1 wd G rb n := by
  have s1 := ha.size
  have s2 := h1.2.2.size
  have s3 := h2.2.size
  refine ⟨h3.1, fun k hk => ?_, ((ha.trans (h1.2.2.mono s1)).trans (h2.2.mono (by omega))).trans (h3.2.2.mono (by omega))⟩
  rcases h3.2.1 k hk with (e | e | e) | e
  · have := h1.2.1 k e; omega
  · omega
  · omega
  · omega
theorem chg_new {wa wb wc : World} {FL : Nat → Prop} {lb n tx : Nat} (h1 : IsLog wb FL lb n ∧ (∀ k, FL k → wa.heap.size ≤ k) ∧ Below wa.heap.size wa wb) (h2 : IsTx wc (fun k => k = wb.heap.size + 1 ∨ k = wb.heap.size) tx lb [] ∧ Below wb.heap.size wb wc) : Chg wc FL (fun k => k = wb.heap.size + 1 ∨ k = wb.heap.size) tx lb n [] :=
  ⟨h1.1.below h2.2, h2.1, fun k hk e => by have := h1.1.lt k hk; omega⟩
/-- A new room. -/
theorem RSt.start {w1 w : World} {G : Nat → Prop} {rb n : Nat} (h : NewRoom w1 w G rb n) (h4 : 4 ≤ n) : RSt w1 w (fun _ => False) rb n 0 ⟨fun _ => 0, fun _ => false, fun _ => pad0, []⟩ :=
  ⟨G, ⟨[], Nat.le_refl _, h.1, Rep.start n h4⟩, h.2.1, fun _ hk => hk.elim, h.2.2⟩
/-- A map of a new room. -/
theorem MSt.start {w1 w w' : World} {G : Nat → Prop} {rb n place c : Nat} (h : NewRoom w1 w G rb n) (h4 : 4 ≤ n) (hc : c ≤ pagesN n) (ht : TB w' w.heap.size rb place) (hb : Below w.heap.size w w') : MSt w1 w' w.heap.size rb place n 0 none c :=
  ⟨_, ((RSt.start h h4).below hb).1.mono fun k hk => .inr ⟨by omega, by rw [hk]; exact lt_of_heap ht⟩, ht, rfl, pigeon_spare n c hc⟩
end Go.Proofs.YtdcjhpafipbpkaaGreatDoor
namespace Go.Proofs.YtdcjhpafipbpkaaGreatDoor
set_option linter.unusedVariables false
set_option maxRecDepth 100000
set_option maxHeartbeats 1000000
open Go.RowKit
/-! ### numbers with a sign -/
def sgn64 (i : Int) : Nat := (i % 18446744073709551616).toNat
theorem sgn64_lt (i : Int) : sgn64 i < 18446744073709551616 := by unfold sgn64; omega
theorem sgn64_wrap (i : Int) : IntKind.u64.wrap i = (sgn64 i : Int) := by
  unfold sgn64
  simp [IntKind.wrap, IntKind.bits, IntKind.signed]
  omega
theorem sgn64_back (i : Int) (h1 : -4611686018427387904 ≤ i) (h2 : i ≤ 4611686018427387904) : IntKind.i64.wrap (sgn64 i : Int) = i := by
  unfold sgn64
  simp [IntKind.wrap, IntKind.bits, IntKind.signed]
  omega
/-! ### a chunk -/
structure Ck where
  id : ByteArray
  page : Nat
  cnt : Int
  text : ByteArray
def kindsC : ByteArray := ⟨#[104, 98, 110]⟩
def Ck.flds (c : Ck) : List Fld := [(c.page, ⟨#[]⟩), (c.text.size, ⟨#[]⟩), (sgn64 c.cnt, ⟨#[]⟩)]
def Ck.bytes (c : Ck) : List UInt8 := be c.page 4 ++ (be c.text.size 1 ++ be (sgn64 c.cnt) 8)
def Ck.val (c : Ck) : ByteArray := ⟨c.bytes.toArray⟩
structure Ck.Ok (c : Ck) : Prop where
  id : c.id.size = 33
  page : c.page < 65536
  t1 : 1 ≤ c.text.size
  t2 : c.text.size ≤ 128
  c1 : -1000000000 ≤ c.cnt
  c2 : c.cnt ≤ 1000000000
theorem ck_one (n : Nat) (h : n < 256) : wr1 98 (n, ⟨#[]⟩) = some (be n 1) := by
  rw [wr1_num 98 1 n ⟨#[]⟩ (by decide) (by decide)]
  rw [if_neg]; rintro (e | e)
  · exact e rfl
  · omega
theorem ck_four (n : Nat) (h : n < 4294967296) : wr1 104 (n, ⟨#[]⟩) = some (be n 4) := by
  rw [wr1_num 104 4 n ⟨#[]⟩ (by decide) (by decide)]
  rw [if_neg]; rintro (e | e)
  · exact e rfl
  · omega
theorem ck_eight (n : Nat) (h : n < 18446744073709551616) : wr1 110 (n, ⟨#[]⟩) = some (be n 8) := by
  rw [wr1_num 110 8 n ⟨#[]⟩ (by decide) (by decide)]
  rw [if_neg]; rintro (e | e)
  · exact e rfl
  · rw [p256] at e; omega
theorem Ck.write {c : Ck} (h : c.Ok) : writeL kindsC.data.toList c.flds = some c.bytes := by
  have h1 := h.page
  have h2 := h.t2
  rw [writeL_yes (by decide) rfl]
  show wrL [104, 98, 110] [(c.page, ⟨#[]⟩), (c.text.size, ⟨#[]⟩), (sgn64 c.cnt, ⟨#[]⟩)] = _
  simp only [wrL, ck_four c.page (by omega), ck_one c.text.size (by omega), ck_eight _ (sgn64_lt c.cnt), Option.map_some, List.append_nil, Ck.bytes]
theorem Ck.read {c : Ck} (h : c.Ok) : readF kindsC.data.toList c.val = some c.flds := by
  refine read_write (fun p hp => ?_) (Ck.write h)
  have h1 := h.page
  have h2 := h.t2
  have h3 := sgn64_lt c.cnt
  simp only [Ck.flds, List.mem_cons, List.not_mem_nil, or_false] at hp
  rcases hp with rfl | rfl | rfl <;> simp <;> omega
theorem Ck.val_size (c : Ck) : c.val.size ≤ 56 := by
  rw [Lib.size_eq]
  show c.bytes.length ≤ 56
  simp only [Ck.bytes, List.length_append, be_length]; omega
def encC (c : Ck) : ByteArray × ByteArray := (c.id, c.val)
structure CRel (E : List (ByteArray × ByteArray)) (C : List Ck) : Prop where
  eq : E = C.map encC
  ok : ∀ c ∈ C, c.Ok
def cAt (C : List Ck) (s : ByteArray) : Option Ck := C.find? fun c => decide (c.id = s)
theorem cAt_some {C : List Ck} {s : ByteArray} {c : Ck} (h : cAt C s = some c) : c ∈ C ∧ c.id = s := by
  have := List.find?_some h
  exact ⟨List.mem_of_find?_eq_some h, by simpa using this⟩
theorem cAt_none {C : List Ck} {s : ByteArray} (h : cAt C s = none) : ∀ c ∈ C, c.id ≠ s := by
  have := List.find?_eq_none.1 h
  intro c hc e; exact this c hc (by simp [e])
theorem cAt_no {C : List Ck} {s : ByteArray} (h : ∀ c ∈ C, c.id ≠ s) : cAt C s = none := by
  unfold cAt
  rw [List.find?_eq_none]
  intro c hc; simp [h c hc]
theorem srt_one {E : List (ByteArray × ByteArray)} (h : Srt E) {k v v' : ByteArray} (h1 : (k, v) ∈ E) (h2 : (k, v') ∈ E) : v = v' := by
  obtain ⟨A, B, rfl⟩ := List.append_of_mem h1
  obtain ⟨-, s2, s3⟩ := srt_of h
  rcases List.mem_append.1 h2 with h2 | h2
  · exact absurd rfl (kless_ne (s2 (k, v') h2))
  · rcases List.mem_cons.1 h2 with h2 | h2
    · cases h2; rfl
    · exact absurd rfl (kless_ne (s3 (k, v') h2))
theorem CRel.got {E : List (ByteArray × ByteArray)} {C : List Ck} {s v : ByteArray} {ok : Bool} (h : CRel E C) (hs : Srt E) (g : Got s E v ok) :
    (∃ c, cAt C s = some c ∧ c.Ok ∧ ok = true ∧ v = c.val) ∨ (cAt C s = none ∧ ok = false) := by
  rcases g with ⟨hk, hm⟩ | ⟨hk, -, hm⟩
  · left
    have hm2 := hm
    rw [h.eq] at hm2
    obtain ⟨c0, hc0, e0⟩ := List.mem_map.1 hm2
    have e1 : c0.id = s := congrArg Prod.fst e0
    cases hf : cAt C s with
    | none => exact absurd e1 (cAt_none hf c0 hc0)
    | some c =>
      obtain ⟨h1, h2⟩ := cAt_some hf
      refine ⟨c, rfl, h.ok c h1, hk, ?_⟩
      have : (s, c.val) ∈ E := by
        rw [h.eq]; exact List.mem_map.2 ⟨c, h1, by unfold encC; rw [h2]⟩
      exact srt_one hs hm this
  · right
    exact ⟨cAt_no fun c hc e => hm (encC c) (by rw [h.eq]; exact List.mem_map.2 ⟨c, hc, rfl⟩) e, hk⟩
/-- A chunk put in its place. -/
def PutC (c : Ck) (C C' : List Ck) : Prop := ∃ A B, C' = A ++ c :: B ∧ (C = A ++ B ∨ ∃ c0, c0.id = c.id ∧ C = A ++ c0 :: B) ∧ (∀ a ∈ A, kless a.id c.id = true) ∧ ∀ b ∈ B, kless c.id b.id = true
theorem CRel.ins {E E' : List (ByteArray × ByteArray)} {C : List Ck} {c : Ck} (h : CRel E C) (hc : c.Ok) (hi : Ins c.id c.val E E') : ∃ C', CRel E' C' ∧ PutC c C C' := by
  obtain ⟨A, B, rfl, h', hA, hB⟩ := hi
  obtain ⟨heq, hok⟩ := h
  rcases h' with h' | ⟨v, h'⟩
  · rw [heq] at h'
    obtain ⟨A1, C1, rfl, rfl, rfl⟩ := List.map_eq_append_iff.1 h'
    refine ⟨A1 ++ c :: C1, ⟨by simp [encC], fun x hx => ?_⟩, A1, C1, rfl, .inl rfl, fun a ha => hA (encC a) (List.mem_map.2 ⟨a, ha, rfl⟩), fun b hb => hB (encC b) (List.mem_map.2 ⟨b, hb, rfl⟩)⟩
    simp only [List.mem_append, List.mem_cons] at hx
    rcases hx with hx | rfl | hx
    · exact hok x (by simp [hx])
    · exact hc
    · exact hok x (by simp [hx])
  · rw [heq] at h'
    obtain ⟨A1, C0, rfl, rfl, h2⟩ := List.map_eq_append_iff.1 h'
    obtain ⟨b0, C1, rfl, h3, rfl⟩ := List.map_eq_cons_iff.1 h2
    refine ⟨A1 ++ c :: C1, ⟨by simp [encC], fun x hx => ?_⟩, A1, C1, rfl, .inr ⟨b0, congrArg Prod.fst h3, rfl⟩, fun a ha => hA (encC a) (List.mem_map.2 ⟨a, ha, rfl⟩), fun b hb => hB (encC b) (List.mem_map.2 ⟨b, hb, rfl⟩)⟩
    simp only [List.mem_append, List.mem_cons] at hx
    rcases hx with hx | rfl | hx
    · exact hok x (by simp [hx])
    · exact hc
    · exact hok x (by simp [hx])
/-- A chunk taken away. -/
def DelC (s : ByteArray) (C C' : List Ck) : Prop := ∃ A B c, c.id = s ∧ C = A ++ c :: B ∧ C' = A ++ B
theorem CRel.del {E E' : List (ByteArray × ByteArray)} {C : List Ck} {s : ByteArray} (h : CRel E C) (hd : Del s E E') : ∃ C', CRel E' C' ∧ DelC s C C' := by
  obtain ⟨A, B, v, rfl, rfl⟩ := hd
  obtain ⟨heq, hok⟩ := h
  obtain ⟨A1, C0, rfl, rfl, h2⟩ := List.map_eq_append_iff.1 heq.symm
  obtain ⟨b0, C1, rfl, h3, rfl⟩ := List.map_eq_cons_iff.1 h2
  refine ⟨A1 ++ C1, ⟨by simp, fun x hx => hok x ?_⟩, A1, C1, b0, congrArg Prod.fst h3, rfl, rfl⟩
  rcases List.mem_append.1 hx with hx | hx <;> simp [hx]
/-- Chunks in the order of their names. -/
def CSrt (C : List Ck) : Prop := C.Pairwise fun a b => kless a.id b.id = true
theorem CRel.srt {E : List (ByteArray × ByteArray)} {C : List Ck} (h : CRel E C) (hs : Srt E) : CSrt C := by
  obtain ⟨rfl, -⟩ := h
  exact List.pairwise_map.1 hs
theorem CSrt.uniq {C : List Ck} (h : CSrt C) {a b : Ck} (ha : a ∈ C) (hb : b ∈ C) (e : a.id = b.id) : a = b := by
  obtain ⟨A, B, rfl⟩ := List.append_of_mem ha
  obtain ⟨-, h2, h3⟩ := List.pairwise_append.1 h
  obtain ⟨h4, -⟩ := List.pairwise_cons.1 h2
  rcases List.mem_append.1 hb with hb | hb
  · exact absurd e.symm (kless_ne (h3 b hb a (by simp)))
  · rcases List.mem_cons.1 hb with hb | hb
    · exact hb.symm
    · exact absurd e (kless_ne (h4 b hb))
theorem cAt_of {C : List Ck} (h : CSrt C) {c : Ck} (hc : c ∈ C) : cAt C c.id = some c := by
  cases hf : cAt C c.id with
  | none => exact absurd rfl (cAt_none hf c hc)
  | some d =>
    obtain ⟨h1, h2⟩ := cAt_some hf
    rw [h.uniq h1 hc h2]
/-! ### the log -/
structure Lg where
  n : Nat
  up : Bool
  id : ByteArray
def Lg.by (e : Lg) : Int := if e.up then 1 else -1
def sgB (b : Bool) : Nat := if b then 1 else 0
def kindsL : ByteArray := ⟨#[98, 114]⟩
def lkey (n : Nat) : ByteArray := ⟨(be n 8).toArray⟩
def Lg.flds (e : Lg) : List Fld := [(sgB e.up, ⟨#[]⟩), (0, e.id)]
def Lg.bytes (e : Lg) : List UInt8 := be (sgB e.up) 1 ++ e.id.data.toList
def Lg.val (e : Lg) : ByteArray := ⟨e.bytes.toArray⟩
structure Lg.Ok (e : Lg) : Prop where
  n : e.n < 1000000000
  id : e.id.size = 33
theorem Lg.write (e : Lg) : writeL kindsL.data.toList e.flds = some e.bytes := by
  have h1 : sgB e.up < 256 := by unfold sgB; split <;> omega
  rw [writeL_yes (by decide) rfl]
  show wrL [98, 114] [(sgB e.up, ⟨#[]⟩), (0, e.id)] = _
  simp only [wrL, ck_one _ h1, wr1_r 114 0 e.id (by decide) (by decide) rfl, Option.map_some, List.append_nil, Lg.bytes]
theorem Lg.read (e : Lg) : readF kindsL.data.toList e.val = some e.flds := by
  refine read_write (fun p hp => ?_) (Lg.write e)
  have h1 : sgB e.up < 256 := by unfold sgB; split <;> omega
  simp only [Lg.flds, List.mem_cons, List.not_mem_nil, or_false] at hp
  rcases hp with rfl | rfl <;> simp <;> omega
theorem Lg.val_size {e : Lg} (h : e.Ok) : e.val.size ≤ 56 := by
  have := h.id
  rw [Lib.size_eq] at this
  rw [Lib.size_eq]
  show e.bytes.length ≤ 56
  simp only [Lg.bytes, List.length_append, be_length]; omega
theorem lkey_size (n : Nat) : (lkey n).size = 8 := by
  rw [Lib.size_eq]; exact be_length n 8
theorem lkey_less {n m : Nat} (hn : n < 1000000000) (hm : m < 1000000000) : kless (lkey n) (lkey m) = decide (n < m) := by
  unfold kless lkey
  rw [Lib.toList_data, Lib.toList_data]
  exact bytesLess_be 8 n m (by rw [p256]; omega) (by rw [p256]; omega)
theorem lkey_write (n : Nat) (h : n < 1000000000) : writeL [110] [(n, ⟨#[]⟩)] = some (be n 8) := by
  rw [writeL_yes (by decide) rfl]
  simp only [wrL, ck_eight n (by omega), Option.map_some, List.append_nil]
def encL (e : Lg) : ByteArray × ByteArray := (lkey e.n, e.val)
/-- The log: entries in order, their numbers below the next one. -/
structure GRel (E : List (ByteArray × ByteArray)) (L : List Lg) (nx : Nat) : Prop where
  eq : E = L.map encL
  ok : ∀ e ∈ L, e.Ok ∧ e.n < nx
theorem GRel.put {E E' : List (ByteArray × ByteArray)} {L : List Lg} {nx : Nat} {e : Lg} (h : GRel E L nx) (he : e.n = nx) (hk : e.Ok) (hi : Ins (lkey e.n) e.val E E') : GRel E' (L ++ [e]) (nx + 1) := by
  have hlt : ∀ x ∈ E, kless x.1 (lkey e.n) = true := fun x hx => by
    rw [h.eq] at hx
    obtain ⟨y, hy, rfl⟩ := List.mem_map.1 hx
    obtain ⟨h1, h2⟩ := h.ok y hy
    show kless (lkey y.n) (lkey e.n) = true
    rw [lkey_less h1.n hk.n]; simp; omega
  obtain ⟨A, B, rfl, h', hA, hB⟩ := hi
  have hB0 : B = [] := by
    cases B with
    | nil => rfl
    | cons b B =>
      exfalso
      have h1 := hB b (by simp)
      have h2 := hlt b (by rcases h' with rfl | ⟨v, rfl⟩ <;> simp)
      rw [kless_asymm h1] at h2; cases h2
  subst hB0
  have hE : E = A := by
    rcases h' with h' | ⟨v, h'⟩
    · simpa using h'
    · exfalso
      have := hlt (lkey e.n, v) (by rw [h']; simp)
      rw [kless_irrefl] at this; cases this
  subst hE
  refine ⟨by rw [List.map_append, ← h.eq]; rfl, fun y hy => ?_⟩
  rcases List.mem_append.1 hy with hy | hy
  · have := h.ok y hy; exact ⟨this.1, by omega⟩
  · simp at hy; subst hy; exact ⟨hk, by omega⟩
/-- The first entry taken away. -/
theorem GRel.del {E E' : List (ByteArray × ByteArray)} {L : List Lg} {nx : Nat} {e : Lg} (h : GRel E (e :: L) nx) (hs : Srt E) (hd : Del (lkey e.n) E E') : GRel E' L nx := by
  obtain ⟨A, B, v, hE, rfl⟩ := hd
  have h1 := h.eq
  rw [hE] at h1
  have hA : A = [] := by
    cases A with
    | nil => rfl
    | cons a A =>
      exfalso
      rw [List.map_cons, List.cons_append] at h1
      have ha : a = encL e := (List.cons.inj h1).1
      rw [hE] at hs
      have := (srt_of hs).2.1 a (by simp)
      rw [ha] at this
      have hn : kless (lkey e.n) (lkey e.n) = true := this
      rw [kless_irrefl] at hn; cases hn
  subst hA
  rw [List.map_cons, List.nil_append] at h1
  refine ⟨by rw [List.nil_append]; exact (List.cons.inj h1).2, fun y hy => h.ok y (by simp [hy])⟩
/-! ### the names of a fingerprint -/
def nameB (p : ByteArray) (k : Nat) : ByteArray := p ++ ⟨#[UInt8.ofNat k]⟩
theorem nameB_size (p : ByteArray) (k : Nat) : (nameB p k).size = p.size + 1 := by
  unfold nameB; rw [ByteArray.size_append]; rfl
theorem nameB_data (p : ByteArray) (k : Nat) : (nameB p k).data.toList = p.data.toList ++ [UInt8.ofNat k] := by
  unfold nameB; simp
end Go.Proofs.YtdcjhpafipbpkaaGreatDoor
namespace Go.Proofs.YtdcjhpafipbpkaaGreatDoor
set_option linter.unusedVariables false
set_option maxRecDepth 100000
set_option maxHeartbeats 1000000
open Go.RowKit
theorem wtO_hgt {S : RS} {place k a : Nat} {o : Option TT} (h : TreeSt S place o) (hw : wtO o ≤ a) (ha : a < 2 ^ k) : hgtO o ≤ k := by
  cases o with
  | none => exact Nat.zero_le _
  | some T => exact wt_hgt h.2.pos (Nat.lt_of_le_of_lt hw ha)
theorem TreeSt.used {S : RS} {place : Nat} {o : Option TT} (h : TreeSt S place o) : ∀ q ∈ pgsO o, S.used q = true := by
  cases o with
  | none => intro q hq; cases hq
  | some T => exact h.2.on.used
theorem TreeSt.nodC {S : RS} {place : Nat} {o : Option TT} (h : TreeSt S place o) : (pgsO o).Nodup := by
  cases o with
  | none => exact List.nodup_nil
  | some T => exact h.2.nod
theorem TreeSt.keep {S S' : RS} {place : Nat} {o : Option TT} (h : TreeSt S place o) (hr : S'.root place = S.root place) (hq : ∀ q ∈ pgsO o, S'.used q = S.used q ∧ S'.cont q = S.cont q) : TreeSt S' place o := by
  cases o with
  | none => exact hr.trans h
  | some T => exact ⟨hr.trans h.1, h.2.frame hq⟩
/-- TwoM maps, at the places 0 and 1, and texts in pages: nothing else is in the room. -/
structure TwoM (S : RS) (n c : Nat) (o0 o1 : Option TT) (a0 a1 : Nat) (X : List (Nat × ByteArray)) : Prop where
  t0 : TreeSt S 0 o0
  t1 : TreeSt S 1 o1
  sp : Spare S n c
  w0 : wtO o0 ≤ a0
  w1 : wtO o1 ≤ a1
  pg : ∀ x ∈ X, S.used x.1 = true ∧ S.cont x.1 = pad (pgB x.2)
  nd : (pgsO o0 ++ (pgsO o1 ++ X.map Prod.fst)).Nodup
  al : ∀ q, S.used q = true → q ∈ pgsO o0 ++ (pgsO o1 ++ X.map Prod.fst)
section
variable {S S' : RS} {n c a0 a1 : Nat} {o0 o1 o' : Option TT} {X : List (Nat × ByteArray)}
theorem TwoM.less {c' b0 b1 : Nat} (h : TwoM S n c o0 o1 a0 a1 X) (hc : c' ≤ c) (h0 : a0 ≤ b0) (h1 : a1 ≤ b1) : TwoM S n c' o0 o1 b0 b1 X :=
  ⟨h.t0, h.t1, h.sp.less hc, Nat.le_trans h.w0 h0, Nat.le_trans h.w1 h1, h.pg, h.nd, h.al⟩
theorem TwoM.hgt0 (h : TwoM S n c o0 o1 a0 a1 X) (ha : a0 < 524288) : hgtO o0 ≤ 19 := wtO_hgt h.t0 h.w0 (by omega)
theorem TwoM.hgt1 (h : TwoM S n c o0 o1 a0 a1 X) (ha : a1 < 524288) : hgtO o1 ≤ 19 := wtO_hgt h.t1 h.w1 (by omega)
theorem TwoM.srt0 (h : TwoM S n c o0 o1 a0 a1 X) : Srt (entsO o0) := srt_o h.t0
theorem TwoM.srt1 (h : TwoM S n c o0 o1 a0 a1 X) : Srt (entsO o1) := srt_o h.t1
theorem TwoM.parts (h : TwoM S n c o0 o1 a0 a1 X) : (∀ q ∈ pgsO o1, q ∉ pgsO o0) ∧ (∀ x ∈ X, x.1 ∉ pgsO o0) ∧ (∀ q ∈ pgsO o0, q ∉ pgsO o1) ∧ (∀ x ∈ X, x.1 ∉ pgsO o1) := by
  obtain ⟨h1, h2, h3⟩ := List.nodup_append.1 h.nd
  obtain ⟨h4, h5, h6⟩ := List.nodup_append.1 h2
  exact ⟨fun q hq e => h3 q e q (by simp [hq]) rfl, fun x hx e => h3 x.1 e x.1 (by simp only [List.mem_append, List.mem_map]; exact .inr ⟨x, hx, rfl⟩) rfl, fun q hq e => h3 q hq q (by simp [e]) rfl, fun x hx e => h6 x.1 e x.1 (List.mem_map.2 ⟨x, hx, rfl⟩) rfl⟩
/-- A change of the first map. -/
theorem TwoM.go0 {c' b0 : Nat} (h : TwoM S n c o0 o1 a0 a1 X) (g : MapGo 0 n S S' o0 o') (hs : Spare S' n c') (hw : wtO o' ≤ b0) : TwoM S' n c' o' o1 b0 a1 X := by
  obtain ⟨p1, p2, p3, p4⟩ := h.parts
  have k1 : ∀ q ∈ pgsO o1, q ∉ pgsO o' ∧ S'.used q = true ∧ S'.cont q = S.cont q := fun q hq => g.frm.keep q (p1 q hq) (h.t1.used q hq)
  have k2 : ∀ x ∈ X, x.1 ∉ pgsO o' ∧ S'.used x.1 = true ∧ S'.cont x.1 = S.cont x.1 := fun x hx => g.frm.keep x.1 (p2 x hx) (h.pg x hx).1
  obtain ⟨-, n2, -⟩ := List.nodup_append.1 h.nd
  refine ⟨g.st, h.t1.keep (g.frm.root 1 (by decide)) fun q hq => ⟨(k1 q hq).2.1.trans (h.t1.used q hq).symm, (k1 q hq).2.2⟩, hs, hw, h.w1, fun x hx => ⟨(k2 x hx).2.1, (k2 x hx).2.2.trans (h.pg x hx).2⟩, List.nodup_append.2 ⟨(TreeSt.nodC g.st), n2, fun a ha b hb e => ?_⟩, fun q hq => ?_⟩
  · subst e
    rcases List.mem_append.1 hb with hb | hb
    · exact (k1 a hb).1 ha
    · obtain ⟨x, hx, rfl⟩ := List.mem_map.1 hb
      exact (k2 x hx).1 ha
  · rcases g.frm.back q hq with h1 | ⟨h1, h2⟩
    · exact List.mem_append_left _ h1
    · rcases List.mem_append.1 (h.al q h1) with h3 | h3
      · exact absurd h3 h2
      · exact List.mem_append_right _ h3
/-- A change of the second map. -/
theorem TwoM.go1 {c' b1 : Nat} (h : TwoM S n c o0 o1 a0 a1 X) (g : MapGo 1 n S S' o1 o') (hs : Spare S' n c') (hw : wtO o' ≤ b1) : TwoM S' n c' o0 o' a0 b1 X := by
  obtain ⟨p1, p2, p3, p4⟩ := h.parts
  have k1 : ∀ q ∈ pgsO o0, q ∉ pgsO o' ∧ S'.used q = true ∧ S'.cont q = S.cont q := fun q hq => g.frm.keep q (p3 q hq) (h.t0.used q hq)
  have k2 : ∀ x ∈ X, x.1 ∉ pgsO o' ∧ S'.used x.1 = true ∧ S'.cont x.1 = S.cont x.1 := fun x hx => g.frm.keep x.1 (p4 x hx) (h.pg x hx).1
  obtain ⟨n1, n2, n3⟩ := List.nodup_append.1 h.nd
  obtain ⟨n4, n5, n6⟩ := List.nodup_append.1 n2
  refine ⟨h.t0.keep (g.frm.root 0 (by decide)) fun q hq => ⟨(k1 q hq).2.1.trans (h.t0.used q hq).symm, (k1 q hq).2.2⟩, g.st, hs, h.w0, hw, fun x hx => ⟨(k2 x hx).2.1, (k2 x hx).2.2.trans (h.pg x hx).2⟩, List.nodup_append.2 ⟨n1, List.nodup_append.2 ⟨(TreeSt.nodC g.st), n5, fun a ha b hb e => ?_⟩, fun a ha b hb e => ?_⟩, fun q hq => ?_⟩
  · subst e
    obtain ⟨x, hx, rfl⟩ := List.mem_map.1 hb
    exact (k2 x hx).1 ha
  · subst e
    rcases List.mem_append.1 hb with hb | hb
    · exact (k1 a ha).1 hb
    · exact n3 a ha a (List.mem_append_right _ hb) rfl
  · rcases g.frm.back q hq with h1 | ⟨h1, h2⟩
    · exact List.mem_append_right _ (List.mem_append_left _ h1)
    · rcases List.mem_append.1 (h.al q h1) with h3 | h3
      · exact List.mem_append_left _ h3
      · rcases List.mem_append.1 h3 with h4 | h4
        · exact absurd h4 h2
        · exact List.mem_append_right _ (List.mem_append_right _ h4)
/-- A text more. -/
theorem TwoM.blob {p : Nat} {s : ByteArray} (h : TwoM S n (c + 1) o0 o1 a0 a1 X) (hu : S.used p = false) : TwoM (blobS S p s) n c o0 o1 a0 a1 ((p, s) :: X) := by
  have hp : ∀ q, S.used q = true → q ≠ p := fun q hq e => by rw [e, hu] at hq; cases hq
  have ku : ∀ q, S.used q = true → (blobS S p s).used q = true ∧ (blobS S p s).cont q = S.cont q := fun q hq => by
    have := hp q hq
    refine ⟨?_, ?_⟩
    · show flip S.used p q = true
      unfold flip; rw [if_neg this, hq]
    · show (if q = p then _ else if q = p then _ else S.cont q) = S.cont q
      rw [if_neg this, if_neg this]
  have hpu : (blobS S p s).used p = true := by
    show flip S.used p p = true
    unfold flip; rw [if_pos rfl, hu]; rfl
  have hpc : (blobS S p s).cont p = pad (pgB s) := by
    show (if p = p then _ else _) = _
    rw [if_pos rfl]
  obtain ⟨n1, n2, n3⟩ := List.nodup_append.1 h.nd
  obtain ⟨n4, n5, n6⟩ := List.nodup_append.1 n2
  have hX : ∀ q ∈ X.map Prod.fst, q ≠ p := fun q hq => by
    obtain ⟨x, hx, rfl⟩ := List.mem_map.1 hq
    exact hp _ (h.pg x hx).1
  refine ⟨h.t0.keep rfl fun q hq => ⟨(ku q (h.t0.used q hq)).1.trans (h.t0.used q hq).symm, (ku q (h.t0.used q hq)).2⟩, h.t1.keep rfl fun q hq => ⟨(ku q (h.t1.used q hq)).1.trans (h.t1.used q hq).symm, (ku q (h.t1.used q hq)).2⟩, ?_, h.w0, h.w1, fun x hx => ?_, ?_, fun q hq => ?_⟩
  · exact (h.sp.alloc hu)
  · rcases List.mem_cons.1 hx with rfl | hx
    · exact ⟨hpu, hpc⟩
    · have := ku x.1 (h.pg x hx).1
      exact ⟨this.1, this.2.trans (h.pg x hx).2⟩
  · rw [List.map_cons]
    refine List.nodup_append.2 ⟨n1, List.nodup_append.2 ⟨n4, List.nodup_cons.2 ⟨fun e => hX p e rfl, n5⟩, fun a ha b hb e => ?_⟩, fun a ha b hb e => ?_⟩
    · subst e
      rcases List.mem_cons.1 hb with rfl | hb
      · exact hp _ (h.t1.used _ ha) rfl
      · exact n6 a ha a hb rfl
    · subst e
      rcases List.mem_append.1 hb with hb | hb
      · exact n3 a ha a (List.mem_append_left _ hb) rfl
      · rcases List.mem_cons.1 hb with rfl | hb
        · exact hp _ (h.t0.used _ ha) rfl
        · exact n3 a ha a (List.mem_append_right _ hb) rfl
  · by_cases e : q = p
    · subst e; simp
    · have hq' : S.used q = true := by
        have h2 : flip S.used p q = true := hq
        unfold flip at h2; rwa [if_neg e] at h2
      have := h.al q hq'
      simp only [List.mem_append, List.map_cons, List.mem_cons] at this ⊢
      rcases this with h1 | h1 | h1 <;> simp [h1]
/-- A number of the room. -/
theorem TwoM.root {k v : Nat} (h : TwoM S n c o0 o1 a0 a1 X) (hk : 2 ≤ k) : TwoM (setRootS S k v) n c o0 o1 a0 a1 X := by
  have hr : ∀ j, j < 2 → (setRootS S k v).root j = S.root j := fun j hj => by
    show upd S.root k v j = S.root j
    unfold upd; rw [if_neg (by omega)]
  exact ⟨h.t0.keep (hr 0 (by decide)) fun q hq => ⟨rfl, rfl⟩, h.t1.keep (hr 1 (by decide)) fun q hq => ⟨rfl, rfl⟩, h.sp, h.w0, h.w1, h.pg, h.nd, h.al⟩
theorem TwoM.perm {Y : List (Nat × ByteArray)} (h : TwoM S n c o0 o1 a0 a1 X) (hp : X.Perm Y) : TwoM S n c o0 o1 a0 a1 Y := by
  have h2 : (pgsO o0 ++ (pgsO o1 ++ X.map Prod.fst)).Perm (pgsO o0 ++ (pgsO o1 ++ Y.map Prod.fst)) := List.Perm.append_left _ (List.Perm.append_left _ (hp.map _))
  exact ⟨h.t0, h.t1, h.sp, h.w0, h.w1, fun x hx => h.pg x (hp.mem_iff.2 hx), h2.nodup_iff.1 h.nd, fun q hq => h2.mem_iff.1 (h.al q hq)⟩
end
end Go.Proofs.YtdcjhpafipbpkaaGreatDoor
