/- Parts of the proof of ChunksSums, joined: DelE, DelF, DelG, ManyP, MapC, MapD, MapE, MapEb. No condition. -/
import Derived.Test.YtdcjhpafipbpkaaGreatDoorCk7
set_option linter.unusedSimpArgs false
set_option linter.unusedVariables false
set_option linter.unusedSectionVars false
namespace Go.Proofs.YtdcjhpafipbpkaaGreatDoor
set_option linter.unusedVariables false
set_option maxRecDepth 100000
set_option maxHeartbeats 1000000
open Go.RowKit
theorem TBase.trans {w0 W W' : World} {G0 G G' : Nat → Prop} {tb rb place n m m' : Nat} {S S' : RS} (a : TBase w0 W G0 G tb rb place n m S) (b : TBase W W' G G' tb rb place n m' S') : TBase w0 W' G0 G' tb rb place n m' S' := by
  have hs := a.up.size
  refine ⟨b.room, a.up.trans' b.up fun j hj e => (a.sub j e).resolve_right (by omega), fun k hk => ?_, b.blk, b.gt, a.tl⟩
  rcases b.sub k hk with e | e
  · exact a.sub k e
  · exact .inr (by omega)
theorem TBase.turn {w0 W : World} {G0 G : Nat → Prop} {tb rb place n m : Nat} {S : RS} (a : TBase w0 W G0 G tb rb place n m S) : Turn G0 G w0 W := ⟨a.up, a.sub⟩
theorem Nod.base {w0 W W' : World} {G : Nat → Prop} {q : Nat} {d : Nd} (h : Nod W W' G q d) (hs : w0.heap.size ≤ W.heap.size) : Nod w0 W' G q d := by
  obtain ⟨F, a, b⟩ := h; exact ⟨F, a, fun k hk => ⟨Nat.le_trans hs (b k hk).1, (b k hk).2⟩⟩
theorem Opn.written {S S1 : RS} {h p : Nat} {t u : PT h} {key : ByteArray} (H : Opn S S1 h p t key u) (hz : 0 < (nd h u).len) : RemOne S (wrS S1 p (nd h u)) h p t key u := by
  have T := Tr.write H.wf hz H.siz H.kid (by rw [pgs_low]; exact H.nod) H.use
  exact ⟨⟨H.wf, H.siz, T.kids, H.nod, H.use, H.del, H.frm.trans (Frm.write _ _ _ _ (by simp)), fun n c hc => (H.spr n c hc).write, H.lenD, H.wtD⟩, fun _ => T.on⟩
theorem tidy_none (w0 W : World) (G0 G : Nat → Prop) (tb rb place n m : Nat) (S S1 : RS) (q qk : Nat) {h p : Nat} {key : ByteArray} (A B : List (Kid h)) (x : Kid h) (t' : PT h) (i : Nat) (hi : A.length = i) (hB : TBase w0 W G0 G tb rb place n m S1) (hN : Nod w0 W G q (nd (h + 1) (A ++ x :: B : List (Kid h)))) (hK : Nod w0 W G qk (nd h t')) (t : PT (h + 1)) (htt : t = (A ++ x :: B : List (Kid h))) (hT : Tr S (h + 1) p t) (hR : RemOne S S1 h x.2.1 x.2.2 key t') (hz : (nd h t').len = 0) (hm : m ≤ 3998000) :
    Calls Tryz.prog 181 #[.pointer (some ⟨tb, 0, none⟩), .pointer (some ⟨q, 0, none⟩), .int .i64 (i : Int), .pointer (some ⟨qk, 0, none⟩)] W fun e w' => e = .returned (.tuple #[]) ∧ Hid (TidyEnd w0 w' G0 tb rb place n m S q h p t key) := by
  have hO : S1.used x.2.1 = true ∧ Opn S (frS S1 x.2.1) (h + 1) p t key (A ++ B : List (Kid h)) := by subst htt; exact Opn.kidNone hT hR hz
  obtain ⟨ka, kc, k1⟩ := hK.rd.keys
  rw [hz] at k1
  obtain ⟨t0, t1⟩ := hB.blk.cells
  have hAl : i ≤ 65536 := by
    have h1 := hT.fit
    rw [htt] at h1
    have h2 := size_len (nd (h + 1) (A ++ x :: B : List (Kid h)))
    rw [nd_lenS, List.length_append] at h2; omega
  have hNx := hN
  rw [show nd (h + 1) (A ++ x :: B : List (Kid h)) = .inner (A.map (fun x : Kid h => (x.1, x.2.1)) ++ (x.1, x.2.1) :: B.map (fun x : Kid h => (x.1, x.2.1))) by simp [nd]] at hNx
  obtain ⟨g3, off, cap3, k3, k2⟩ := kids_at hNx.rd
  rw [List.length_map, List.length_map] at k3
  rw [List.length_map] at k2
  have hlt : (i : Int) < ((A.length + 1 + B.length : Nat) : Int) := by omega
  rw [hi] at k2
  have FREE : Hid (Calls Tryz.prog 132 #[.pointer (some ⟨rb, 0, none⟩), .int .i64 (x.2.1 : Int)] W.drew fun e w' => e = .returned (.int .i64 0) ∧ (w'.cell? ⟨tb, 0, none⟩ = some (.pointer (some ⟨rb, 0, none⟩)) ∧ w'.cell? ⟨q, 3, none⟩ = some (.slice (some ⟨g3, off, none⟩) (A.length + 1 + B.length) cap3) ∧ w'.cell? ⟨g3, off + i, none⟩ = some (.int .i64 (x.2.1 : Int))) ∧ Hid (∃ G', TBase w0 w' G0 G' tb rb place n (m + 1) (frS S1 x.2.1) ∧ Turn G G' W w')) := Lib.hid (by
    have hd := (Below.refl W.heap.size W).drew
    refine (tail_free (hB.below hd) (by omega) hO.1).mono ?_
    rintro e w' ⟨rfl, G8, b8, tn8⟩
    have tn : Turn G G8 W w' := tn8.below_left hd
    refine ⟨rfl, ⟨b8.blk.cells.1, ?_, ?_⟩, G8, b8, tn⟩
    · obtain ⟨F, ⟨vk, vv, vi, a⟩, b⟩ := hN
      exact (World.cell?_of_block (tn.upd.block q (lt_of_heap a.blk) (b q ((a.own q).2 (.inl rfl))).2)).trans k3
    · obtain ⟨F, ⟨vk, vv, vi, a⟩, b⟩ := hN
      have e3 := cell_lit (i := 3) a.blk rfl
      rw [k3] at e3
      have e4 : vi.ownBlock = some g3 := by cases e3; rfl
      exact (World.cell?_of_block (tn.upd.block g3 (World.block_lt_of_cell? _ _ k2) (b g3 ((a.own g3).2 (.inr (.inr (.inr e4))))).2)).trans k2)
  have HO := Lib.hid hO.2
  have HNX := Lib.hid hNx
  have HB := Lib.hid hB
  have HI := Lib.hid hi
  have MU := must_c
  generalize A.length + 1 + B.length = NN at *
  clear hO hN hNx hB hi hT hR hz hK htt hm
  go_enter Tryz.func181, Tryz.ntmps181
  go_wp2_with fail
  go_region_held3 (fun w' => w'.cell? ⟨tb, 0, none⟩ = some (.pointer (some ⟨rb, 0, none⟩)) ∧ w'.cell? ⟨q, 3, none⟩ = some (.slice (some ⟨g3, off, none⟩) NN cap3) ∧ w'.cell? ⟨g3, off + i, none⟩ = some (.int .i64 (x.2.1 : Int))) (go_keep) ((first
    | (go_at_call 132
       refine Calls.at_args FREE.out (by with_reducible rfl) ?_
       rintro e w8 ⟨rfl, hkf, HFR⟩)
    | (go_at_call 131; refine (MU _).mono ?_; rintro e w9 ⟨rfl, rfl⟩)))
  all_goals (
    obtain ⟨G8, b8, tn8⟩ := HFR.out
    have B8 := Lib.hid b8
    have hn8 := HNX.out.turn tn8
    obtain ⟨F8, y1, y2⟩ := hn8
    have RM := remove_inner F8 q (A.map (fun x : Kid h => (x.1, x.2.1))) (B.map (fun x : Kid h => (x.1, x.2.1))) (x.1, x.2.1) _ y1 (by have := HI.out; simp; omega)
    rw [List.length_map, HI.out] at RM
    have RM2 := Lib.hid RM
    have Y2 := Lib.hid y2
    clear y1 y2 b8 tn8 RM HFR FREE hkf t0 t1 k3 k2 hlt k1
    go_wp2_with fail
    refine RM2.out.mono ?_
    rintro e w10 ⟨rfl, HG10⟩
    obtain ⟨F10, z1, z2, hu10⟩ := HG10.out
    have B10 := Lib.hid (B8.out.node hu10 Y2.out)
    have N10 := Lib.hid (Nod.go (w0 := w0) (G := G8) Y2.out HG10.out B8.out.room.lt B8.out.up.size)
    clear RM2 HG10 hu10 z1 z2 Y2 B8
    go_wp2_with fail
    first | go_end0 | refine bodyPost_ret (results_none rfl _ _ _) rfl ?_
    exact ⟨rfl, _, _, (A ++ B : List (Kid h)), B10.out.more (by omega), (by rw [nd_away]; exact N10.out), HO.out⟩)
theorem tidy_c (w0 W : World) (G0 G : Nat → Prop) (tb rb place n m : Nat) (S S1 : RS) (q qk : Nat) {h p : Nat} {key : ByteArray} (A B : List (Kid h)) (x : Kid h) (t' : PT h) (hB : TBase w0 W G0 G tb rb place n m S1) (hN : Nod w0 W G q (nd (h + 1) (A ++ x :: B : List (Kid h)))) (hK : Nod w0 W G qk (nd h t')) (hT : Tr S (h + 1) p (A ++ x :: B : List (Kid h))) (hR : RemOne S S1 h x.2.1 x.2.2 key t') (hm : m ≤ 3998000) :
    Calls Tryz.prog 181 #[.pointer (some ⟨tb, 0, none⟩), .pointer (some ⟨q, 0, none⟩), .int .i64 (A.length : Nat), .pointer (some ⟨qk, 0, none⟩)] W fun e w' => e = .returned (.tuple #[]) ∧ Hid (TidyEnd w0 w' G0 tb rb place n m S q h p (A ++ x :: B : List (Kid h)) key) := by
  by_cases hz : 0 < (nd h t').len
  · exact tidy_some w0 W G0 G tb rb place n m S S1 q qk A B x t' A.length rfl hB hN hK _ rfl hT hR hz hm
  · exact tidy_none w0 W G0 G tb rb place n m S S1 q qk A B x t' A.length rfl hB hN hK _ rfl hT hR (by omega) hm
/-- What remove answers. -/
def RemEnd (w w' : World) (G : Nat → Prop) (tb rb place n m m' : Nat) (S : RS) (h p : Nat) (t : PT h) (key : ByteArray) (q : Nat) (was : Bool) : Prop :=
  if was then ∃ S' G' u, TBase w w' G G' tb rb place n m' S' ∧ Nod w w' G' q (nd h u) ∧ RemOne S S' h p t key u
  else TBase w w' G G tb rb place n m S ∧ ∀ e ∈ ents h t, e.1 ≠ key
theorem remove_c : ∀ (h : Nat) (G : Nat → Prop) (tb rb place n m : Nat) (S : RS) (p : Nat) (t : PT h) (key : ByteArray) (deep : Nat) (w : World) (_ : RmS w G rb n m S) (_ : TB w tb rb place) (_ : ¬ G tb) (_ : Tr S h p t) (_ : deep + h ≤ 20) (_ : m + 8 * (h + 1) ≤ 3998000),
    Calls Tryz.prog 130 #[.pointer (some ⟨tb, 0, none⟩), .int .i64 (p : Int), .string key, .int .i64 (deep : Int)] w fun e w' => ∃ (was : Bool) (q : Nat), e = .returned (.tuple #[.bool was, .pointer (some ⟨q, 0, none⟩)]) ∧ Hid (RemEnd w w' G tb rb place n m (m + 8 * (h + 1)) S h p t key q was)
  | 0, G, tb, rb, place, n, m, S, p, t, key, deep, w, h, ht, hg, hT, hdp, hm => by
    have hnot : ∀ (x : Bool) (w : World), (Op.unary .not (.bool x)).run Tryz.prog w = .ok (.bool (!x)) w := fun _ _ => rfl
    have RD := Lib.hid (read_c G tb rb place n m S p (nd 0 t) w h ht (by omega) hT.ok hT.fit hT.on.top.1 hT.on.top.2)
    have B0 := Lib.hid (TBase.start h ht hg)
    have HM1 : Hid (m ≤ 3999000) := Lib.hid (by omega)
    have HM2 : Hid (m + 1 ≤ m + 8 * (0 + 1)) := Lib.hid (by omega)
    have HM3 : Hid (m ≤ m + 8 * (0 + 1)) := Lib.hid (by omega)
    have HG := Lib.hid h.lt
    have hd1 : ¬ (20 : Int) < (deep : Int) := by omega
    obtain ⟨A, B, rfl, hA, hB, hor⟩ := lb_split t key hT.wf.srt
    have HT := Lib.hid hT
    have HL : Hid ((Nd.leaf (A ++ B)).len ≤ 1000000) := Lib.hid (Nat.le_of_lt (Nat.lt_trans hT.ok.few (by decide)))
    have HPOS : Hid (0 < (Nd.leaf (A ++ B)).len) := Lib.hid hT.pos
    have HA := Lib.hid hA
    have HB := Lib.hid hB
    have hAl : A.length ≤ 65536 := by have := hT.ok.few; rw [nd_len0, List.length_append] at this; omega
    clear h ht hg hT hm hA hB hdp
    rcases hor with ⟨v, B', rfl, hB'⟩ | hB'
    · have OP := Lib.hid (Opn.leaf HT.out)
      clear hB'
      go_enter Tryz.func130, Tryz.ntmps130
      go_wp2_with fail
      refine RD.out.mono ?_
      rintro e w1 ⟨q, rfl, HQ⟩
      obtain ⟨F, x1, x2, x3⟩ := HQ.out
      have N1 := Lib.hid (Nod.start (w0 := w) (G := G) x1 x2 HG.out)
      have B1 := Lib.hid (B0.out.below x3)
      obtain ⟨vk, vv, vi, hv1⟩ := N1.out.rd.view
      have c0 : w1.cell? ⟨q, 0, none⟩ = some (.bool true) := cell_lit hv1.blk rfl
      have FD := Lib.hid (find_c true q (.leaf (A ++ (key, v) :: B')) vk vv vi (A.map Prod.fst) (key :: B'.map Prod.fst) key w1 hv1 (by simp [Nd.keys]) HPOS.out HL.out (fun a ha => by obtain ⟨e, he, rfl⟩ := List.mem_map.1 ha; exact HA.out e he) (fun b hb => by
        rcases List.mem_cons.1 hb with rfl | hb
        · exact kless_irrefl _
        · obtain ⟨e, he, rfl⟩ := List.mem_map.1 hb; exact HB.out e (by simp [he])) ⟨fun _ => ⟨_, rfl⟩, fun _ => rfl⟩)
      rw [List.length_map] at FD
      clear x1 x2 x3 HQ hv1 RD B0
      go_wp2_with fail
      refine FD.out.mono ?_
      rintro e w2 ⟨rfl, qn, rfl⟩
      have N2 := N1.out.below (drewN_below w1 qn)
      have B2 := B1.out.below (drewN_below w1 qn)
      generalize w1.drewN qn = w2 at *
      obtain ⟨F2, y1, y2⟩ := N2
      have RM := Lib.hid (remove_leaf F2 q A B' (key, v) w2 y1 (by omega))
      have Y2 := Lib.hid y2
      have B2' := Lib.hid B2
      clear y1 y2 B2 N1 B1 FD c0
      go_wp2_with fail
      refine RM.out.mono ?_
      rintro e w3 ⟨rfl, HI⟩
      have NT : Hid (Nod w w3 G q (nd 0 (A ++ B'))) := Lib.hid (Nod.go Y2.out HI.out B2'.out.room.lt B2'.out.up.size)
      have BT := Lib.hid (B2'.out.node (by obtain ⟨F', a, b, c⟩ := HI.out; exact c) Y2.out)
      clear RM Y2 B2' HI
      obtain ⟨ka, kc, k1⟩ := NT.out.rd.keys
      by_cases hz : 0 < (nd 0 (A ++ B')).len
      · have hI : (0 : Int) < (((nd 0 (A ++ B')).len : Nat) : Int) := by omega
        have okU : (nd 0 (A ++ B')).Ok := OP.out.wf.ok hz (Nat.le_trans OP.out.siz (by decide))
        have TW := Lib.hid (tail_write BT.out p NT.out.rd okU OP.out.siz OP.out.use HM1.out)
        have HZ := Lib.hid hz
        clear hz okU
        go_wp2_with fail
        refine TW.out.mono ?_
        rintro e w8 ⟨rfl, HW⟩
        obtain ⟨G8, b8, tn8⟩ := HW.out
        have HB8 := Lib.hid (b8.more HM2.out)
        have HN8 := Lib.hid (NT.out.turn tn8)
        clear TW HW b8 tn8 k1 hI
        go_wp2_with fail
        go_ret2
        refine ⟨true, q, rfl, ?_⟩
        show Hid (if true = true then _ else _)
        rw [if_pos rfl]
        exact Lib.hid ⟨_, G8, _, HB8.out, HN8.out, OP.out.written HZ.out⟩
      · have hI : ¬ (0 : Int) < (((nd 0 (A ++ B')).len : Nat) : Int) := by omega
        have HZ := Lib.hid hz
        clear hz
        go_wp2_with fail
        go_ret2
        refine ⟨true, q, rfl, ?_⟩
        show Hid (if true = true then _ else _)
        rw [if_pos rfl]
        exact Lib.hid ⟨_, _, _, BT.out.more HM3.out, NT.out, OP.out, fun h => absurd h HZ.out⟩
    · have HB2 := Lib.hid hB'
      clear hB'
      go_enter Tryz.func130, Tryz.ntmps130
      go_wp2_with fail
      refine RD.out.mono ?_
      rintro e w1 ⟨q, rfl, HQ⟩
      obtain ⟨F, x1, x2, x3⟩ := HQ.out
      have N1 := Lib.hid (Nod.start (w0 := w) (G := G) x1 x2 HG.out)
      have B1 := Lib.hid (B0.out.below x3)
      obtain ⟨vk, vv, vi, hv1⟩ := N1.out.rd.view
      have c0 : w1.cell? ⟨q, 0, none⟩ = some (.bool true) := cell_lit hv1.blk rfl
      have FD := Lib.hid (find_c false q (.leaf (A ++ B)) vk vv vi (A.map Prod.fst) (B.map Prod.fst) key w1 hv1 (by simp [Nd.keys]) HPOS.out HL.out (fun a ha => by obtain ⟨e, he, rfl⟩ := List.mem_map.1 ha; exact HA.out e he) (fun b hb => by obtain ⟨e, he, rfl⟩ := List.mem_map.1 hb; exact HB.out e he) ⟨(fun e => by cases e), (fun ⟨B', e⟩ => by
        have hm : key ∈ B.map Prod.fst := by rw [e]; simp
        obtain ⟨e', he, he2⟩ := List.mem_map.1 hm
        have := HB2.out e' he
        rw [he2, kless_irrefl] at this; cases this)⟩)
      rw [List.length_map] at FD
      clear x1 x2 x3 HQ hv1 RD B0
      go_wp2_with fail
      refine FD.out.mono ?_
      rintro e w2 ⟨rfl, qn, rfl⟩
      have B2 := Lib.hid (B1.out.below (drewN_below w1 qn))
      generalize w1.drewN qn = w2 at *
      clear N1 B1 FD c0
      go_wp2_with fail
      go_ret2
      refine ⟨false, q, rfl, ?_⟩
      show Hid (if false = true then _ else _)
      rw [if_neg (by simp)]
      refine Lib.hid ⟨B2.out, fun e he => ?_⟩
      rcases List.mem_append.1 (show e ∈ A ++ B from he) with he | he
      · exact kless_ne (HA.out e he)
      · exact fun e' => kless_ne (HB2.out e he) e'.symm
  | hh + 1, G, tb, rb, place, n, m, S, p, t, key, deep, w, h, ht, hg, hT, hdp, hm => by
    have hnot : ∀ (x : Bool) (w : World), (Op.unary .not (.bool x)).run Tryz.prog w = .ok (.bool (!x)) w := fun _ _ => rfl
    have RD := Lib.hid (read_c G tb rb place n m S p (nd (hh + 1) t) w h ht (by omega) hT.ok hT.fit hT.on.top.1 hT.on.top.2)
    have B0 := Lib.hid (TBase.start h ht hg)
    have HM1 : Hid (m + 8 * (hh + 1) + 4 ≤ 3999000) := Lib.hid (by omega)
    have HM2 : Hid (m + 8 * (hh + 1) + 4 + 1 ≤ m + 8 * (hh + 1 + 1)) := Lib.hid (by omega)
    have HM3 : Hid (m + 8 * (hh + 1) + 4 ≤ m + 8 * (hh + 1 + 1)) := Lib.hid (by omega)
    have HM4 : Hid (m + 8 * (hh + 1) ≤ 3998000) := Lib.hid (by omega)
    have HG := Lib.hid h.lt
    have hd1 : ¬ (20 : Int) < (deep : Int) := by omega
    have hd2 : deep ≤ 20 := by omega
    have hlenO := hT.ok.few
    have hpos := hT.pos
    rw [nd_lenS] at hpos
    obtain ⟨A, x, B, rfl, hW, hA⟩ := way_split t key (hT.wf.2.keys fun x hx => ents_pos (hT.wf.1 x hx).2.2.2.2 (hT.wf.1 x hx).2.2.1) hpos
    have hk := hT.kid (x := x) (by simp)
    have IH : Hid (∀ W G2, TBase w W G G2 tb rb place n m S → Calls Tryz.prog 130 #[.pointer (some ⟨tb, 0, none⟩), .int .i64 (x.2.1 : Int), .string key, .int .i64 ((deep : Int) + 1)] W fun e w' => ∃ (was : Bool) (q : Nat), e = .returned (.tuple #[.bool was, .pointer (some ⟨q, 0, none⟩)]) ∧ Hid (RemEnd W w' G2 tb rb place n m (m + 8 * (hh + 1)) S hh x.2.1 x.2.2 key q was)) := Lib.hid fun W G2 hB => by
      have := remove_c hh G2 tb rb place n m S x.2.1 x.2.2 key (deep + 1) W hB.room hB.blk hB.gt hk (by omega) (by omega)
      rw [show ((deep + 1 : Nat) : Int) = (deep : Int) + 1 by omega] at this
      exact this
    have HT := Lib.hid hT
    have HW := Lib.hid hW
    have HA := Lib.hid hA
    have HLEN := Lib.hid hlenO
    clear h ht hg hT hm hW hA hdp hk hpos hlenO
    go_enter Tryz.func130, Tryz.ntmps130
    go_wp2_with fail
    refine RD.out.mono ?_
    rintro e w1 ⟨q, rfl, HQ⟩
    obtain ⟨F, x1, x2, x3⟩ := HQ.out
    have N1 := Lib.hid (Nod.start (w0 := w) (G := G) x1 x2 HG.out)
    have B1 := Lib.hid (B0.out.below x3)
    obtain ⟨vk, vv, vi, hv1⟩ := N1.out.rd.view
    have c0 : w1.cell? ⟨q, 0, none⟩ = some (.bool false) := cell_lit hv1.blk rfl
    have WN := Lib.hid (way_nd N1.out.rd (Nat.le_of_lt (Nat.lt_trans HLEN.out (by decide))) HW.out HA.out)
    clear x1 x2 x3 HQ hv1 RD B0
    go_wp2_with fail
    refine WN.out.mono ?_
    rintro e w2 ⟨rfl, hb⟩
    have N2 := Lib.hid (N1.out.below hb.out)
    have B2 := Lib.hid (B1.out.below hb.out)
    have hN2 := N2.out.rd
    rw [show nd (hh + 1) (A ++ x :: B : List (Kid hh)) = .inner (A.map (fun x : Kid hh => (x.1, x.2.1)) ++ (x.1, x.2.1) :: B.map (fun x : Kid hh => (x.1, x.2.1))) by simp [nd]] at hN2
    obtain ⟨g3, off, cap3, k1, k2⟩ := kids_at hN2
    rw [List.length_map, List.length_map] at k1
    rw [List.length_map] at k2
    have hlt : (A.length : Int) < ((A.length + 1 + B.length : Nat) : Int) := by omega
    have hlA : A.length ≤ 65536 := by have := HLEN.out; rw [nd_lenS, List.length_append, List.length_cons] at this; omega
    have IH2 := Lib.hid (IH.out w2 G B2.out)
    clear hN2 IH N1 B1 WN c0 hb
    go_wp2_with fail
    refine IH2.out.mono ?_
    rintro e w3 ⟨was, qk, rfl, HP⟩
    clear IH2 k1 k2
    cases was with
    | false =>
      have hif := HP.out
      unfold RemEnd at hif
      rw [if_neg (by simp)] at hif
      have HB3 := Lib.hid (B2.out.trans hif.1)
      have HNO := Lib.hid hif.2
      clear hif HP
      go_wp2_with fail
      go_ret2
      refine ⟨false, q, rfl, ?_⟩
      show Hid (if false = true then _ else _)
      rw [if_neg (by simp)]
      refine Lib.hid ⟨HB3.out, fun e he => ?_⟩
      obtain ⟨w1, w2⟩ := HT.out.wf.2.way HW.out
      rw [ents_mid] at he
      rcases List.mem_append.1 he with he | he
      · obtain ⟨y, hy, he⟩ := (ents_mem hh A e).1 he
        exact kless_ne (w1 y hy e he)
      · rcases List.mem_append.1 he with he | he
        · exact HNO.out e he
        · obtain ⟨y, hy, he⟩ := (ents_mem hh B e).1 he
          exact fun e' => kless_ne (w2 y hy e he) e'.symm
    | true =>
      have hif := HP.out
      unfold RemEnd at hif
      rw [if_pos rfl] at hif
      obtain ⟨S3, G3, u3, b3, n3, r3⟩ := hif
      have TD := Lib.hid (tidy_c w w3 G G3 tb rb place n (m + 8 * (hh + 1)) S S3 q qk A B x u3 (B2.out.trans b3) (N2.out.turn b3.turn) (n3.base B2.out.up.size) HT.out r3 HM4.out)
      clear b3 n3 r3 HP N2 B2
      go_wp2_with fail
      refine TD.out.mono ?_
      rintro e w4 ⟨rfl, HTD⟩
      obtain ⟨S4, G4, u4, b4, n4, o4⟩ := HTD.out
      have BT := Lib.hid b4
      have NT := Lib.hid n4
      have OP := Lib.hid o4
      clear TD HTD b4 n4 o4
      obtain ⟨ka, kc, k1⟩ := NT.out.rd.keys
      by_cases hz : 0 < (nd (hh + 1) u4).len
      · have hI : (0 : Int) < (((nd (hh + 1) u4).len : Nat) : Int) := by omega
        have okU : (nd (hh + 1) u4).Ok := OP.out.wf.ok hz (Nat.le_trans OP.out.siz (by decide))
        have TW := Lib.hid (tail_write BT.out p NT.out.rd okU OP.out.siz OP.out.use HM1.out)
        have HZ := Lib.hid hz
        clear hz okU
        go_wp2_with fail
        refine TW.out.mono ?_
        rintro e w8 ⟨rfl, HW⟩
        obtain ⟨G8, b8, tn8⟩ := HW.out
        have HB8 := Lib.hid (b8.more HM2.out)
        have HN8 := Lib.hid (NT.out.turn tn8)
        clear TW HW b8 tn8 k1 hI
        go_wp2_with fail
        go_ret2
        refine ⟨true, q, rfl, ?_⟩
        show Hid (if true = true then _ else _)
        rw [if_pos rfl]
        exact Lib.hid ⟨_, G8, _, HB8.out, HN8.out, OP.out.written HZ.out⟩
      · have hI : ¬ (0 : Int) < (((nd (hh + 1) u4).len : Nat) : Int) := by omega
        have HZ := Lib.hid hz
        clear hz
        go_wp2_with fail
        go_ret2
        refine ⟨true, q, rfl, ?_⟩
        show Hid (if true = true then _ else _)
        rw [if_pos rfl]
        exact Lib.hid ⟨_, _, _, BT.out.more HM3.out, NT.out, OP.out, fun h => absurd h HZ.out⟩
end Go.Proofs.YtdcjhpafipbpkaaGreatDoor
namespace Go.Proofs.YtdcjhpafipbpkaaGreatDoor
set_option linter.unusedVariables false
set_option maxRecDepth 100000
set_option maxHeartbeats 1000000
open Go.RowKit
theorem FrmT.then {place : Nat} {P P1 P2 : List Nat} {S S1 S2 : RS} (a : FrmT place P P1 S S1) (b : Frm P1 P2 S1 S2) : FrmT place P P2 S S2 := by
  refine ⟨fun q h u => ?_, fun q u => ?_, fun k hk => (congrFun b.root k).trans (a.root k hk)⟩
  · obtain ⟨h1, u1, c1⟩ := a.keep q h u
    obtain ⟨h2, u2, c2⟩ := b.keep q h1 u1
    exact ⟨h2, u2, c2.trans c1⟩
  · rcases b.back q u with h | ⟨u1, h1⟩
    · exact .inl h
    · rcases a.back q u1 with h | h
      · exact absurd h h1
      · exact .inr h
theorem FrmT.root' {place : Nat} {P P1 : List Nat} {S S1 : RS} (a : FrmT place P P1 S S1) (v : Nat) : FrmT place P P1 S (setRootS S1 place v) :=
  ⟨a.keep, a.back, fun k hk => by show upd S1.root place v k = _; unfold upd; rw [if_neg hk]; exact a.root k hk⟩
/-- The root on its way down. -/
structure RootSt (place n cr wr : Nat) (S S' : RS) (P : List Nat) (E : List (ByteArray × ByteArray)) (h p : Nat) (u : PT h) : Prop where
  wf : Wf h u
  siz : (nd h u).size ≤ 512
  kid : Kids S' h u
  nod : (p :: low h u).Nodup
  use : S'.used p = true
  cont : 0 < (nd h u).len → S'.cont p = pad (ofL (nd h u).bytes)
  root : S'.root place = p + 1
  frm : FrmT place P (p :: low h u) S S'
  ents : ents h u = E
  spr : ∀ c, Spare S n c → Spare S' n c
  crd : 4 * h + 6 ≤ cr + 1 ∨ (1 ≤ h ∧ 4 * h + min 6 (nd h u).len ≤ cr)
  crp : 5 ≤ cr
  wtl : wt h u ≤ wr
theorem RootSt.start {place n : Nat} {S S' : RS} {h p : Nat} {t u : PT h} {key : ByteArray} (H : RemOne S S' h p t key u) (hr : S.root place = p + 1) (hp : 0 < (nd h t).len) : RootSt place n (crO (some ⟨h, p, t⟩)) (wtO (some ⟨h, p, t⟩)) S S' (pgs h p t) (Go.Proofs.YtdcjhpafipbpkaaGreatDoor.ents h u) h p u :=
  ⟨H.op.wf, H.op.siz, H.op.kid, H.op.nod, H.op.use, fun hz => (H.on hz).top.2, by rw [H.op.frm.root]; exact hr, H.op.frm.toT' place, rfl, H.op.spr n, by
    have := H.op.lenD
    show 4 * h + 6 ≤ (if h = 0 then 6 else 4 * h + min 6 (nd h t).len) + 1 ∨ (1 ≤ h ∧ 4 * h + min 6 (nd h u).len ≤ (if h = 0 then 6 else 4 * h + min 6 (nd h t).len))
    by_cases h0 : h = 0
    · left; rw [if_pos h0]; omega
    · right; rw [if_neg h0]; omega, by
    show 5 ≤ (if h = 0 then 6 else 4 * h + min 6 (nd h t).len)
    split <;> omega, H.op.wtD⟩
theorem RootSt.none {place n : Nat} {S S' : RS} {o : Option TT} {E : List (ByteArray × ByteArray)} {h p : Nat} {u : PT h} {cr wr : Nat} (H : RootSt place n cr wr S S' (pgsO o) E h p u) (hz : (nd h u).len = 0) : MapGo place n S (setRootS (frS S' p) place 0) o Option.none ∧ E = [] := by
  refine ⟨⟨setRoot_at _ _ _, ?_⟩, by rw [← H.ents]; exact ents_nil hz⟩
  have hl := low_nil hz
  have f := H.frm
  rw [hl] at f
  exact (f.then (Frm.free [p] [] S' p H.use (fun q => by simp) (by simp))).root' 0
theorem RootSt.done {place n : Nat} {S S' : RS} {o : Option TT} {E : List (ByteArray × ByteArray)} {h p : Nat} {u : PT h} {cr wr : Nat} (H : RootSt place n cr wr S S' (pgsO o) E h p u) (hz : 0 < (nd h u).len) : MapGo place n S S' o (some ⟨h, p, u⟩) ∧ crO (some ⟨h, p, u⟩) ≤ cr + 1 := by
  refine ⟨⟨⟨H.root, H.wf, hz, H.siz, on_iff.2 ⟨⟨H.use, H.cont hz⟩, H.kid⟩, by rw [pgs_low]; exact H.nod⟩, ?_⟩, ?_⟩
  · show FrmT place (pgsO o) (pgs h p u) S S'
    rw [pgs_low]; exact H.frm
  · show (if h = 0 then 6 else 4 * h + min 6 (nd h u).len) ≤ cr + 1
    rcases H.crd with e | e <;> split <;> omega
theorem RootSt.down {place n : Nat} {S S' : RS} {P : List Nat} {E : List (ByteArray × ByteArray)} {h p : Nat} {x : Kid h} {cr wr : Nat} (H : RootSt place n cr wr S S' P E (h + 1) p ([x] : List (Kid h))) : S'.used x.2.1 = true ∧ x.2.1 < 65536 ∧ RootSt place n cr wr S (setRootS (frS S' p) place (x.2.1 + 1)) P E h x.2.1 x.2.2 := by
  have hx := H.wf.1 x (by simp)
  have ox : On S' h x.2.1 x.2.2 := H.kid x (by simp)
  have hl : low (h + 1) ([x] : List (Kid h)) = x.2.1 :: low h x.2.2 := by
    rw [← pgs_low]; simp [low]
  have hn := H.nod
  rw [hl] at hn
  obtain ⟨n1, n2⟩ := List.nodup_cons.1 hn
  have keep : ∀ q ∈ x.2.1 :: low h x.2.2, (setRootS (frS S' p) place (x.2.1 + 1)).used q = S'.used q ∧ (setRootS (frS S' p) place (x.2.1 + 1)).cont q = S'.cont q := fun q hq => by
    refine ⟨?_, rfl⟩
    show flip S'.used p q = _
    unfold flip; rw [if_neg (fun e : q = p => n1 (by rw [← e]; exact hq))]
  have ox' : On (setRootS (frS S' p) place (x.2.1 + 1)) h x.2.1 x.2.2 := ox.frame fun q hq => keep q (by rw [← pgs_low]; exact hq)
  refine ⟨ox.top.1, hx.2.1, hx.2.2.2.2, hx.2.2.2.1, (on_iff.1 ox').2, n2, ox'.top.1, fun _ => ox'.top.2, setRoot_at _ _ _, ?_, by rw [← H.ents]; simp [Go.Proofs.YtdcjhpafipbpkaaGreatDoor.ents], fun c hc => (H.spr c hc).freeS H.use, by
    have e1 : (nd (h + 1) ([x] : List (Kid h))).len = 1 := by rw [nd_lenS]; rfl
    have := H.crd
    rw [e1] at this
    left; omega, H.crp, by
    have := H.wtl
    rw [wt_cons] at this
    have h2 := Nat.le_max_right (2 ^ h) (wt h x.2.2)
    omega⟩
  have f := H.frm
  rw [hl] at f
  exact (f.then (Frm.free _ (x.2.1 :: low h x.2.2) S' p H.use (fun q => by simp) n1)).root' _
def DelGo (place n : Nat) (S S' : RS) (o o' : Option TT) (key : ByteArray) : Prop :=
  MapGo place n S S' o o' ∧ Del key (entsO o) (entsO o') ∧ hgtO o' ≤ hgtO o ∧ (∀ c, Spare S n c → Spare S' n c) ∧ crO o' ≤ crO o + 1 ∧ wtO o' ≤ wtO o
/-- What Delete leaves. -/
def DelEnd (w w' : World) (G : Nat → Prop) (rb n m place : Nat) (S : RS) (o : Option TT) (key : ByteArray) (was : Bool) : Prop :=
  if was then ∃ S' o', StGo w w' G rb n (m + 300) S' ∧ DelGo place n S S' o o' key else StGo w w' G rb n (m + 300) S ∧ ∀ e ∈ entsO o, e.1 ≠ key
/-- The call's own variables: the tree, whether, the error. -/
structure DelLoc (W : World) (b tb : Nat) (x : Bool) : Prop where
  b0 : W.heap[b]? = some (.cells #[.pointer (some ⟨tb, 0, none⟩)] 103 (0, 0))
  b1 : W.heap[b + 1]? = some (.cells #[.bool x] 4 (0, 0))
  b2 : W.heap[b + 1 + 1]? = some (.cells #[.int .i64 0] 34 (0, 0))
theorem DelLoc.upd {W W' : World} {b tb : Nat} {x : Bool} {G : Nat → Prop} (h : DelLoc W b tb x) (hu : Upd G W W') (hn : ∀ k, b ≤ k → k < b + 4 → ¬ G k) : DelLoc W' b tb x :=
  ⟨hu.at h.b0 (hn _ (by omega) (by omega)), hu.at h.b1 (hn _ (by omega) (by omega)), hu.at h.b2 (hn _ (by omega) (by omega))⟩
theorem DelLoc.below {W W' : World} {b tb : Nat} {x : Bool} (h : DelLoc W b tb x) (hb : Below W.heap.size W W') : DelLoc W' b tb x := h.upd (hb.upd' (Nat.le_refl _)) (fun _ _ _ e => e)
theorem DelLoc.cells {W : World} {b tb : Nat} {x : Bool} (h : DelLoc W b tb x) : W.cell? ⟨b, 0, none⟩ = some (.pointer (some ⟨tb, 0, none⟩)) ∧ W.cell? ⟨b + 1, 0, none⟩ = some (.bool x) ∧ W.cell? ⟨b + 1 + 1, 0, none⟩ = some (.int .i64 0) ∧ W.frozen? ⟨b + 1, 0, none⟩ = false ∧ W.frozen? ⟨b + 1 + 1, 0, none⟩ = false ∧ b < W.heap.size :=
  ⟨cell_lit h.b0 rfl, cell_lit h.b1 rfl, cell_lit h.b2 rfl, frozen_lit h.b1 0, frozen_lit h.b2 0, lt_of_heap h.b0⟩
theorem DelLoc.setW {W : World} {b tb : Nat} {x : Bool} (h : DelLoc W b tb x) (y : Bool) : DelLoc (W.setCell ⟨b + 1, 0, none⟩ (.bool y)) b tb y :=
  ⟨(heap_set_ne _ (by omega)).trans h.b0, heap_set_lit h.b1 _, (heap_set_ne _ (by omega)).trans h.b2⟩
theorem DelLoc.setE {W : World} {b tb : Nat} {x : Bool} (h : DelLoc W b tb x) : DelLoc (W.setCell ⟨b + 1 + 1, 0, none⟩ (.int .i64 0)) b tb x :=
  ⟨(heap_set_ne _ (by omega)).trans h.b0, (heap_set_ne _ (by omega)).trans h.b1, heap_set_lit h.b2 _⟩
def delW (w : World) (tb : Nat) (k : Int) : World := (((w.alloc (.cells #[.pointer (some ⟨tb, 0, none⟩)] 103)).alloc (.cells #[.bool false] 4)).alloc (.cells #[.int .i64 0] 34)).alloc (.cells #[.int .i64 k] 3)
theorem delW_below (w : World) (tb : Nat) (k : Int) : Below w.heap.size w (delW w tb k) := ((((Below.refl w.heap.size w).alloc (Nat.le_refl _) _).alloc (by simp) _).alloc (by simp; omega) _).alloc (by simp; omega) _
theorem delW_size (w : World) (tb : Nat) (k : Int) : (delW w tb k).heap.size = w.heap.size + 4 := by unfold delW; simp
theorem delW_loc (w : World) (tb : Nat) (k : Int) : DelLoc (delW w tb k) w.heap.size tb false := by
  refine ⟨?_, ?_, ?_⟩
  · unfold delW; rw [heap_alloc_at, if_neg (by simp; omega), heap_alloc_at, if_neg (by simp; omega), heap_alloc_at, if_neg (by simp), heap_alloc_new]
  · unfold delW; rw [heap_alloc_at, if_neg (by first | (simp; done) | (simp; omega)), heap_alloc_at, if_neg (by first | (simp; done) | (simp; omega)), heap_alloc_at, if_pos (by simp)]
  · unfold delW; rw [heap_alloc_at, if_neg (by simp), heap_alloc_at, if_pos (by simp)]
/-- A call's way so far. -/
structure StG (w W : World) (G G' : Nat → Prop) (rb n m : Nat) (S : RS) : Prop where
  room : RmS W G' rb n m S
  up : Upd G w W
  sub : ∀ k, G' k → G k ∨ w.heap.size ≤ k
theorem StG.go {w W : World} {G G' : Nat → Prop} {rb n m : Nat} {S : RS} (h : StG w W G G' rb n m S) : StGo w W G rb n m S := ⟨G', h.room, h.up, h.sub⟩
theorem StG.of {w W0 W : World} {G G' : Nat → Prop} {tb rb place n m : Nat} {S : RS} (h : TBase W0 W G G' tb rb place n m S) (hb : Below w.heap.size w W0) : StG w W G G' rb n m S := by
  refine ⟨h.room, ((hb.upd' (Nat.le_refl _)).mono (S' := G) fun _ _ e => False.elim e).trans h.up, fun k hk => ?_⟩
  rcases h.sub k hk with e | e
  · exact .inl e
  · have := hb.size; exact .inr (by omega)
theorem StG.loc {w W : World} {G G' : Nat → Prop} {rb n m : Nat} {S : RS} (h : StG w W G G' rb n m S) {x : Nat} (hx : w.heap.size ≤ x) (hn : ¬ G' x) (i : Nat) (v : Value) : StG w (W.setCell ⟨x, i, none⟩ v) G G' rb n m S := by
  have hu : Upd (fun k => k = x) W (W.setCell ⟨x, i, none⟩ v) := Upd.setCell (S := fun k => k = x) (Upd.refl _ _) (p := ⟨x, i, none⟩) (.inl rfl) v
  exact ⟨h.room.frame hu fun k hk e => hn (e ▸ hk), h.up.trans' hu fun j hj e => absurd e (by omega), h.sub⟩
theorem StG.then {w W W' : World} {G G' G'' : Nat → Prop} {tb rb place n m m' : Nat} {S S' : RS} (h : StG w W G G' rb n m S) (b : TBase W W' G' G'' tb rb place n m' S') : StG w W' G G'' rb n m' S' := by
  have hs := h.up.size
  refine ⟨b.room, h.up.trans' b.up fun j hj e => (h.sub j e).resolve_right (by omega), fun k hk => ?_⟩
  rcases b.sub k hk with e | e
  · exact h.sub k e
  · exact .inr (by omega)
theorem StG.more {w W : World} {G G' : Nat → Prop} {rb n m m' : Nat} {S : RS} (h : StG w W G G' rb n m S) (hm : m ≤ m') : StG w W G G' rb n m' S := ⟨h.room.more hm, h.up, h.sub⟩
theorem RdN.loc {w0 W : World} {G : Nat → Prop} {q : Nat} {d : Nd} (h : RdN w0 W G q d) {x : Nat} (hx : x < w0.heap.size) (i : Nat) (v : Value) : RdN w0 (W.setCell ⟨x, i, none⟩ v) G q d := by
  obtain ⟨F, a, b⟩ := h
  exact ⟨F, a.upd (S := fun k => k = x) (Upd.setCell (S := fun k => k = x) (Upd.refl _ _) (p := ⟨x, i, none⟩) (.inl rfl) v) fun k hk _ e => by have := (b k hk).1; omega, b⟩
end Go.Proofs.YtdcjhpafipbpkaaGreatDoor
namespace Go.Proofs.YtdcjhpafipbpkaaGreatDoor
set_option linter.unusedVariables false
set_option maxRecDepth 100000
set_option maxHeartbeats 1000000
open Go.RowKit
theorem Delete_none (G : Nat → Prop) (tb rb place n m : Nat) (S : RS) (key : ByteArray) (w : World) (h : RmS w G rb n m S) (ht : TB w tb rb place) (hg : ¬ G tb) (hp : place < 16) (hm : m ≤ 3900000) (hr : S.root place = 0) :
    Calls Tryz.prog 74 #[.pointer (some ⟨tb, 0, none⟩), .string key] w fun e w' => ∃ was : Bool, e = .returned (.tuple #[.bool was, .int .i64 0]) ∧ Hid (DelEnd w w' G rb n m place S none key was) := by
  have hmf : ∀ (fn : Fn) (first cap : Array Value) (w : World), (Instr.makeFunc fn first cap).run Tryz.prog w = .ok (.func fn first cap) w := fun _ _ _ _ => rfl
  have hnot : ∀ (x : Bool) (w : World), (Op.unary .not (.bool x)).run Tryz.prog w = .ok (.bool (!x)) w := fun _ _ => rfl
  have htl := lt_of_heap ht
  obtain ⟨c0, c1⟩ := ht.cells
  have hb3 := fun k => delW_below w tb k
  have d0 : ((((w.alloc (.cells #[.pointer (some ⟨tb, 0, none⟩)] 103)).alloc (.cells #[.bool false] 4)).alloc (.cells #[.int .i64 0] 34)).alloc (.cells #[.int .i64 0] 3)).cell? ⟨tb, 0, none⟩ = some (.pointer (some ⟨rb, 0, none⟩)) := (World.cell?_of_block ((hb3 0).block tb htl)).trans c0
  have M3 : Hid (Calls Tryz.prog 114 #[.pointer (some ⟨rb, 0, none⟩)] ((((w.alloc (.cells #[.pointer (some ⟨tb, 0, none⟩)] 103)).alloc (.cells #[.bool false] 4)).alloc (.cells #[.int .i64 0] 34)).alloc (.cells #[.int .i64 0] 3)) fun e w' => ∃ k : Nat, e = .returned (.int .i64 (k : Int)) ∧ w' = ((((w.alloc (.cells #[.pointer (some ⟨tb, 0, none⟩)] 103)).alloc (.cells #[.bool false] 4)).alloc (.cells #[.int .i64 0] 34)).alloc (.cells #[.int .i64 0] 3))) := Lib.hid (mark_s G rb n m S _ (h.below (hb3 0)))
  have HG := Lib.hid h.lt
  have B0 : Hid (∀ k : Int, TBase (delW w tb k) (delW w tb k) G G tb rb place n m S) := Lib.hid fun k => TBase.start (h.below (hb3 k)) (ht.below (hb3 k)) hg
  have HP := Lib.hid hp
  have HM := Lib.hid hm
  have HR := Lib.hid hr
  clear h ht hg hp hm hr hb3 c1
  go_enter_defers Tryz.func74, Tryz.ntmps74
  go_wp2_with fail
  refine M3.out.mono ?_
  rintro e w1 ⟨k, rfl, rfl⟩
  clear M3 d0
  go_wp2_with fail
  have BW := Lib.hid (B0.out (k : Int))
  have LW := Lib.hid (delW_loc w tb (k : Int))
  have SW := Lib.hid (delW_size w tb (k : Int))
  have BB := Lib.hid (delW_below w tb (k : Int))
  change Calls Tryz.prog 125 #[.pointer (some ⟨tb, 0, none⟩)] (delW w tb (k : Int)) _
  generalize delW w tb (k : Int) = W0 at *
  have RT := root_c G tb rb place n m S W0 BW.out.room BW.out.blk HP.out (by have := HM.out; omega) (by rw [HR.out]; omega)
  rw [HR.out] at RT
  refine RT.mono ?_
  rintro e w2 ⟨rfl, hb⟩
  have B2 := Lib.hid (BW.out.below hb.out)
  have L2 := Lib.hid (LW.out.below hb.out)
  obtain ⟨x0, x1, x2, x3, x4, x5⟩ := L2.out.cells
  have hloc : ∀ x, w.heap.size ≤ x → ¬ G x := fun x hx e => by have := HG.out x e; omega
  have L3 := (L2.out.setW false).setE
  have hfe : ((w2.setCell ⟨w.heap.size + 1, 0, none⟩ (.bool false)).setCell ⟨w.heap.size + 1 + 1, 0, none⟩ (.int .i64 0)).cell? ⟨w.heap.size + 1 + 1, 0, none⟩ = some (.int .i64 0) := L3.cells.2.2.1
  have hfw : ((w2.setCell ⟨w.heap.size + 1, 0, none⟩ (.bool false)).setCell ⟨w.heap.size + 1 + 1, 0, none⟩ (.int .i64 0)).cell? ⟨w.heap.size + 1, 0, none⟩ = some (.bool false) := L3.cells.2.1
  have HGO : Hid (DelEnd w ((w2.setCell ⟨w.heap.size + 1, 0, none⟩ (.bool false)).setCell ⟨w.heap.size + 1 + 1, 0, none⟩ (.int .i64 0)) G rb n m place S none key false) := Lib.hid (by
    unfold DelEnd
    rw [if_neg (by simp)]
    exact ⟨((((StG.of B2.out BB.out).loc (by omega) (hloc _ (by omega)) 0 _).loc (by omega) (hloc _ (by omega)) 0 _).more (by omega)).go, by simp [entsO]⟩)
  clear RT hb L3
  go_wp2_with fail
  refine leaves_cons (f := 124) (args := #[.pointer (some ⟨w.heap.size + 1 + 1, 0, none⟩)]) (by simp) (by simp [go_sem]) ?_
  refine (guard_idle _ _).mono ?_
  rintro e u' wa ⟨rfl, rfl, rfl⟩
  refine leaves_cons (f := 129) (args := #[.pointer (some ⟨w.heap.size + 1 + 1, 0, none⟩), .pointer (some ⟨w.heap.size, 0, none⟩), .pointer (some ⟨w.heap.size + 1, 0, none⟩), .pointer (some ⟨w.heap.size + 1 + 1 + 1, 0, none⟩)]) (by simp [settle]) (by simp [go_sem]) ?_
  refine (del1_idle _ _ _ _ _ _ hfe).mono ?_
  rintro e u' wb ⟨rfl, rfl, rfl⟩
  simp [Leaves, settle, results, Tryz.results74, go_sem, hfe, hfw]
  exact HGO
theorem Delete_some (G : Nat → Prop) (tb rb place n m : Nat) (S : RS) (hh p : Nat) (t : PT hh) (key : ByteArray) (w : World) (h : RmS w G rb n m S) (ht : TB w tb rb place) (hg : ¬ G tb) (hp : place < 16) (hm : m ≤ 3900000) (hr : S.root place = p + 1) (hT : Tr S hh p t) (hh20 : hh ≤ 20) :
    Calls Tryz.prog 74 #[.pointer (some ⟨tb, 0, none⟩), .string key] w fun e w' => ∃ was : Bool, e = .returned (.tuple #[.bool was, .int .i64 0]) ∧ Hid (DelEnd w w' G rb n m place S (some ⟨hh, p, t⟩) key was) := by
  have hp65 : p < 65536 := by
    have := h.lim p hT.on.top.1
    have := h.bounds
    unfold pagesN at *; omega
  have hmf : ∀ (fn : Fn) (first cap : Array Value) (w : World), (Instr.makeFunc fn first cap).run Tryz.prog w = .ok (.func fn first cap) w := fun _ _ _ _ => rfl
  have hnot : ∀ (x : Bool) (w : World), (Op.unary .not (.bool x)).run Tryz.prog w = .ok (.bool (!x)) w := fun _ _ => rfl
  have htl := lt_of_heap ht
  obtain ⟨c0, c1⟩ := ht.cells
  have hb3 := fun k => delW_below w tb k
  have d0 : ((((w.alloc (.cells #[.pointer (some ⟨tb, 0, none⟩)] 103)).alloc (.cells #[.bool false] 4)).alloc (.cells #[.int .i64 0] 34)).alloc (.cells #[.int .i64 0] 3)).cell? ⟨tb, 0, none⟩ = some (.pointer (some ⟨rb, 0, none⟩)) := (World.cell?_of_block ((hb3 0).block tb htl)).trans c0
  have M3 : Hid (Calls Tryz.prog 114 #[.pointer (some ⟨rb, 0, none⟩)] ((((w.alloc (.cells #[.pointer (some ⟨tb, 0, none⟩)] 103)).alloc (.cells #[.bool false] 4)).alloc (.cells #[.int .i64 0] 34)).alloc (.cells #[.int .i64 0] 3)) fun e w' => ∃ k : Nat, e = .returned (.int .i64 (k : Int)) ∧ w' = ((((w.alloc (.cells #[.pointer (some ⟨tb, 0, none⟩)] 103)).alloc (.cells #[.bool false] 4)).alloc (.cells #[.int .i64 0] 34)).alloc (.cells #[.int .i64 0] 3))) := Lib.hid (mark_s G rb n m S _ (h.below (hb3 0)))
  have HG := Lib.hid h.lt
  have B0 : Hid (∀ k : Int, TBase (delW w tb k) (delW w tb k) G G tb rb place n m S) := Lib.hid fun k => TBase.start (h.below (hb3 k)) (ht.below (hb3 k)) hg
  have HP := Lib.hid hp
  have HM := Lib.hid hm
  have HR := Lib.hid hr
  have HT := Lib.hid hT
  have HH := Lib.hid hh20
  have HP65 := Lib.hid hp65
  clear h ht hg hp hm hr hb3 c1 hT hh20 hp65
  go_enter_defers Tryz.func74, Tryz.ntmps74
  go_wp2_with fail
  refine M3.out.mono ?_
  rintro e w1 ⟨k, rfl, rfl⟩
  clear M3 d0
  go_wp2_with fail
  have BW := Lib.hid (B0.out (k : Int))
  have LW := Lib.hid (delW_loc w tb (k : Int))
  have SW := Lib.hid (delW_size w tb (k : Int))
  have BB := Lib.hid (delW_below w tb (k : Int))
  change Calls Tryz.prog 125 #[.pointer (some ⟨tb, 0, none⟩)] (delW w tb (k : Int)) _
  generalize delW w tb (k : Int) = W0 at *
  have RT := root_c G tb rb place n m S W0 BW.out.room BW.out.blk HP.out (by have := HM.out; omega) (by have := HP65.out; rw [HR.out]; omega)
  rw [HR.out, show (((p + 1 : Nat) : Int) - 1) = (p : Int) by omega] at RT
  refine RT.mono ?_
  rintro e w2 ⟨rfl, hb⟩
  have B2 := Lib.hid (BW.out.below hb.out)
  have L2 := Lib.hid (LW.out.below hb.out)
  obtain ⟨x0, x1, x2, x3, x4, x5⟩ := L2.out.cells
  have hp0 : ¬ (p : Int) < 0 := by omega
  have RM0 := remove_c hh G tb rb place n m S p t key 0 w2 B2.out.room B2.out.blk B2.out.gt HT.out (by have := HH.out; omega) (by have := HM.out; have := HH.out; omega)
  rw [show ((0 : Nat) : Int) = 0 from rfl] at RM0
  have RM := Lib.hid RM0
  clear RT hb RM0
  go_wp2_with fail
  refine RM.out.mono ?_
  rintro e w3 ⟨was, q, rfl, HE⟩
  clear RM
  have he := HE.out
  unfold RemEnd at he
  cases was with
  | false =>
    rw [if_neg (by simp)] at he
    have B3 := B2.out.trans he.1
    have hloc : ∀ x, w.heap.size ≤ x → ¬ G x := fun x hx e => by have := HG.out x e; omega
    have L3 := LW.out.upd B3.up fun k h1 _ => hloc k h1
    obtain ⟨y0, y1, y2, y3, y4, y5⟩ := L3.cells
    have L5 := ((L3.setW false).setW false).setE
    have hfe : (((w3.setCell ⟨w.heap.size + 1, 0, none⟩ (.bool false)).setCell ⟨w.heap.size + 1, 0, none⟩ (.bool false)).setCell ⟨w.heap.size + 1 + 1, 0, none⟩ (.int .i64 0)).cell? ⟨w.heap.size + 1 + 1, 0, none⟩ = some (.int .i64 0) := L5.cells.2.2.1
    have hfw : (((w3.setCell ⟨w.heap.size + 1, 0, none⟩ (.bool false)).setCell ⟨w.heap.size + 1, 0, none⟩ (.bool false)).setCell ⟨w.heap.size + 1 + 1, 0, none⟩ (.int .i64 0)).cell? ⟨w.heap.size + 1, 0, none⟩ = some (.bool false) := L5.cells.2.1
    have HGO : Hid (DelEnd w (((w3.setCell ⟨w.heap.size + 1, 0, none⟩ (.bool false)).setCell ⟨w.heap.size + 1, 0, none⟩ (.bool false)).setCell ⟨w.heap.size + 1 + 1, 0, none⟩ (.int .i64 0)) G rb n m place S (some ⟨hh, p, t⟩) key false) := Lib.hid (by
      unfold DelEnd
      rw [if_neg (by simp)]
      exact ⟨(((((StG.of B3 BB.out).loc (by omega) (hloc _ (by omega)) 0 _).loc (by omega) (hloc _ (by omega)) 0 _).loc (by omega) (hloc _ (by omega)) 0 _).more (by omega)).go, he.2⟩)
    have z1 := (L3.setW false).cells
    have z2 := z1.2.1
    have z3 := z1.2.2.2.1
    clear he HE L3 L5 B3 z1 x0 x1 x2 x3 x4 x5
    go_wp2_with fail
    refine leaves_cons (f := 124) (args := #[.pointer (some ⟨w.heap.size + 1 + 1, 0, none⟩)]) (by simp) (by simp [go_sem]) ?_
    refine (guard_idle _ _).mono ?_
    rintro e u' wa ⟨rfl, rfl, rfl⟩
    refine leaves_cons (f := 129) (args := #[.pointer (some ⟨w.heap.size + 1 + 1, 0, none⟩), .pointer (some ⟨w.heap.size, 0, none⟩), .pointer (some ⟨w.heap.size + 1, 0, none⟩), .pointer (some ⟨w.heap.size + 1 + 1 + 1, 0, none⟩)]) (by simp [settle]) (by simp [go_sem]) ?_
    refine (del1_idle _ _ _ _ _ _ hfe).mono ?_
    rintro e u' wb ⟨rfl, rfl, rfl⟩
    simp [Leaves, settle, results, Tryz.results74, go_sem, hfe, hfw]
    exact HGO
  | true =>
    rw [if_pos rfl] at he
    obtain ⟨S3, G3, u, b3, n3, r3⟩ := he
    have B3 := B2.out.trans b3
    have hloc : ∀ x, w.heap.size ≤ x → x < w.heap.size + 4 → ¬ G3 x := fun x hx hx2 e => by
      rcases B3.sub x e with e | e
      · have := HG.out x e; omega
      · have := SW.out; omega
    have L3 := LW.out.upd B3.up fun k h1 _ e => by have := HG.out k e; omega
    have N3 : RdN W0 w3 G3 q (nd hh u) := (n3.base B2.out.up.size).rd
    have SG := Lib.hid ((StG.of B3 BB.out).loc (x := w.heap.size + 1) (by omega) (hloc _ (by omega) (by omega)) 0 (.bool true))
    have hlu : Upd (fun k => k = w.heap.size + 1) w3 (w3.setCell ⟨w.heap.size + 1, 0, none⟩ (.bool true)) := Upd.setCell (S := fun k => k = w.heap.size + 1) (Upd.refl _ _) (p := ⟨w.heap.size + 1, 0, none⟩) (.inl rfl) (.bool true)
    have BL : TBase (w3.setCell ⟨w.heap.size + 1, 0, none⟩ (.bool true)) (w3.setCell ⟨w.heap.size + 1, 0, none⟩ (.bool true)) G3 G3 tb rb place n (m + 8 * (hh + 1)) S3 := TBase.start (B3.room.frame hlu fun k hk e => hloc k (by omega) (by omega) hk) (B3.blk.upd hlu fun e => by have := htl; omega) B3.gt
    have L4 := L3.setW true
    have N4 := N3.loc (x := w.heap.size + 1) (by have := SW.out; omega) 0 (.bool true)
    have RS := RootSt.start (n := n) r3 HR.out HT.out.pos
    have HDEL := Lib.hid r3.op.del
    obtain ⟨y0, y1, y2, y3, y4, y5⟩ := L3.cells
    obtain ⟨v0, v1, v2, v3, v4, v5⟩ := L4.cells
    have HBL := Lib.hid BL
    have HL4 := Lib.hid L4
    have HN4 := Lib.hid N4
    have HRS := Lib.hid RS
    have HLOC := Lib.hid hloc
    have HW01 : Hid (W0.heap.size ≤ (w3.setCell ⟨w.heap.size + 1, 0, none⟩ (.bool true)).heap.size) := Lib.hid (by rw [World.size_setCell]; exact B3.up.size)
    clear BL L4 N4 RS hloc hlu L3 N3 B3 b3 n3 r3 HE x0 x1 x2 x3 x4 x5
    go_wp2_with fail
    generalize w3.setCell ⟨w.heap.size + 1, 0, none⟩ (.bool true) = W1 at *
    go_loopg [8, 9] hh (fun gg s8 s9 wr => ∃ (h' p' q' : Nat) (u' : PT h') (S' : RS) (G' : Nat → Prop), gg = h' ∧ h' ≤ hh ∧ s8 = .pointer (some ⟨q', 0, none⟩) ∧ s9 = .int .i64 (p' : Int) ∧ Hid (TBase W1 wr G3 G' tb rb place n (m + 8 * (hh + 1) + 2 * (hh - h')) S' ∧ RdN W0 wr G' q' (nd h' u') ∧ RootSt place n (crO (some ⟨hh, p, t⟩)) (wtO (some ⟨hh, p, t⟩)) S S' (pgsO (some ⟨hh, p, t⟩)) (ents hh u) h' p' u'))
    case atStart => exact ⟨hh, p, q, u, S3, G3, rfl, Nat.le_refl _, rfl, rfl, Lib.hid ⟨HBL.out.more (by omega), HN4.out, HRS.out⟩⟩
    case round =>
      obtain ⟨h', p', q', u', S', G', hgk, hle, rfl, rfl, HI⟩ := hrel
      have HGK := Lib.hid hgk
      clear hgk
      have L5 := Lib.hid (HL4.out.upd HI.out.1.up fun k h1 h2 => HLOC.out k h1 (by omega))
      obtain ⟨e0, e1, e2, e3, e4, e5⟩ := L5.out.cells
      obtain ⟨ka, kc, k1⟩ := HI.out.2.1.keys
      clear v0 v1 v2 v3 v4 v5 y0 y1 y2 y3 y4 y5
      have HMM : Hid (m + 8 * (hh + 1) + 2 * (hh - h') ≤ 3998000) := Lib.hid (by have := HM.out; have := HH.out; omega)
      obtain ⟨t0, t1⟩ := HI.out.1.blk.cells
      have HLOC2 : Hid (∀ (wx : World) (Gx : Nat → Prop) (mx : Nat) (Sx : RS), TBase W1 wx G3 Gx tb rb place n mx Sx → ∀ x, w.heap.size ≤ x → x < w.heap.size + 4 → ¬ Gx x) := Lib.hid fun wx Gx mx Sx hb x hx hx2 e => by
        rcases hb.sub x e with e | e
        · exact HLOC.out x hx hx2 e
        · have := HW01.out; have := SW.out; omega
      by_cases hz : (nd h' u').len = 0
      · rw [hz] at k1
        have FR := Lib.hid (tail_free HI.out.1 (by have := HMM.out; omega) HI.out.2.2.use)
        obtain ⟨mg, me⟩ := HI.out.2.2.none (o := some ⟨hh, p, t⟩) hz
        have HMG := Lib.hid mg
        have HME := Lib.hid me
        have MU := must_c
        clear hz mg me
        go_wp2_with fail
        refine FR.out.mono ?_
        rintro e w5 ⟨rfl, HF⟩
        obtain ⟨G5, b5, tn5⟩ := HF.out
        have L6 := HL4.out.upd b5.up fun k h1 h2 => HLOC.out k h1 (by omega)
        obtain ⟨f0, f1, f2, f3, f4, f5⟩ := L6.cells
        have SR := setRoot_c G5 tb rb place n _ _ 0 w5 b5.room b5.blk b5.gt HP.out (by have := HMM.out; omega) (by omega)
        rw [show (((0 : Nat) : Int) - 1) = -1 from rfl] at SR
        have SR2 := Lib.hid SR
        have B5 := Lib.hid b5
        clear SR b5 tn5 HF FR e0 e1 e2 e3 e4 e5 t0 t1 k1 L6
        go_wp2_with (first
          | (go_at_call 131; refine (MU _).mono ?_; rintro e w6 ⟨rfl, rfl⟩)
          | (go_at_call 126; refine SR2.out.mono ?_; rintro e w7 ⟨rfl, HS⟩
             obtain ⟨G7, b7, tn7⟩ := B5.out.step HS.out
             have L7 := HL4.out.upd b7.up fun k h1 h2 => HLOC.out k h1 (by omega)
             obtain ⟨g0, g1, g2, g3, g4, g5⟩ := L7.cells
             have L9 := (L7.setW true).setE
             have hfe : ((w7.setCell ⟨w.heap.size + 1, 0, none⟩ (.bool true)).setCell ⟨w.heap.size + 1 + 1, 0, none⟩ (.int .i64 0)).cell? ⟨w.heap.size + 1 + 1, 0, none⟩ = some (.int .i64 0) := L9.cells.2.2.1
             have hfw : ((w7.setCell ⟨w.heap.size + 1, 0, none⟩ (.bool true)).setCell ⟨w.heap.size + 1 + 1, 0, none⟩ (.int .i64 0)).cell? ⟨w.heap.size + 1, 0, none⟩ = some (.bool true) := L9.cells.2.1
             have HGO : Hid (DelEnd w ((w7.setCell ⟨w.heap.size + 1, 0, none⟩ (.bool true)).setCell ⟨w.heap.size + 1 + 1, 0, none⟩ (.int .i64 0)) G rb n m place S (some ⟨hh, p, t⟩) key true) := Lib.hid (by
               unfold DelEnd
               rw [if_pos rfl]
               refine ⟨_, none, (((((SG.out.then b7).loc (x := w.heap.size + 1) (by omega) (HLOC2.out _ _ _ _ b7 _ (by omega) (by omega)) 0 (.bool true)).loc (x := w.heap.size + 1 + 1) (by omega) (HLOC2.out _ _ _ _ b7 _ (by omega) (by omega)) 0 (.int .i64 0)).more (by have := HH.out; omega)).go), HMG.out, ?_, Nat.zero_le _, fun c hc => (HI.out.2.2.spr c hc).freeS HI.out.2.2.use, Nat.succ_le_succ HI.out.2.2.crp, Nat.zero_le _⟩
               have := HDEL.out
               rw [HME.out] at this; exact this)
             clear b7 tn7 L7 L9 HS))
        refine leaves_cons (f := 124) (args := #[.pointer (some ⟨w.heap.size + 1 + 1, 0, none⟩)]) (by simp) (by simp [go_sem]) ?_
        refine (guard_idle _ _).mono ?_
        rintro e u' wa ⟨rfl, rfl, rfl⟩
        refine leaves_cons (f := 129) (args := #[.pointer (some ⟨w.heap.size + 1 + 1, 0, none⟩), .pointer (some ⟨w.heap.size, 0, none⟩), .pointer (some ⟨w.heap.size + 1, 0, none⟩), .pointer (some ⟨w.heap.size + 1 + 1 + 1, 0, none⟩)]) (by simp [settle]) (by simp [go_sem]) ?_
        refine (del1_idle _ _ _ _ _ _ hfe).mono ?_
        rintro e u' wb ⟨rfl, rfl, rfl⟩
        simp [Leaves, settle, results, Tryz.results74, go_sem, hfe, hfw]
        exact HGO
      · have hzp : 0 < (nd h' u').len := by omega
        have HZ := Lib.hid hzp
        have k1n : ¬ (((nd h' u').len : Nat) : Int) = 0 := by omega
        have k1m : ¬ (nd h' u').len = 0 := hz
        by_cases hone : ∃ (h2 : Nat) (x : Kid h2) (e : h' = h2 + 1), e ▸ u' = (show PT (h2 + 1) from [x])
        · obtain ⟨h2, x, e, hu⟩ := hone
          subst e
          have hu' : u' = (show PT (h2 + 1) from [x]) := hu
          subst hu'
          clear hu k1n k1m hz hzp HZ
          obtain ⟨d1, d2, d3⟩ := HI.out.2.2.down
          have HD := Lib.hid d3
          have hlf : wr.cell? ⟨q', 0, none⟩ = some (.bool false) := by
            obtain ⟨vk, vv, vi, a⟩ := HI.out.2.1.view
            exact cell_lit a.blk rfl
          have k1' : wr.cell? ⟨q', 1, none⟩ = some (.slice ka 1 kc) := k1
          have k3' : ∃ g o c, wr.cell? ⟨q', 3, none⟩ = some (.slice (some ⟨g, o, none⟩) 1 c) := by
            obtain ⟨g1, o1, c1, g2, o2, c2, -, e3, -⟩ := RdN.at (l := [(x.1, x.2.1)]) HI.out.2.1 (by simp)
            exact ⟨g2, o2, c2, e3⟩
          obtain ⟨ga, oa, ca, k3'⟩ := k3'
          have FR := Lib.hid (tail_free HI.out.1 (by have := HMM.out; omega) HI.out.2.2.use)
          have MU := must_c
          clear d1 d3 k1
          go_wp2_with fail
          refine FR.out.mono ?_
          rintro e w5 ⟨rfl, HF⟩
          obtain ⟨G5, b5, tn5⟩ := HF.out
          have L6 := HL4.out.upd b5.up fun k h1 h2 => HLOC.out k h1 (by omega)
          obtain ⟨f0, f1, f2, f3, f4, f5⟩ := L6.cells
          obtain ⟨g1, o1, c1, g2, o2, c2, -, m3, mc⟩ := RdN.at (l := [(x.1, x.2.1)]) (HI.out.2.1.turn tn5) (by simp)
          have mx := (mc 0 (by simp)).2
          have m3' : w5.cell? ⟨q', 3, none⟩ = some (.slice (some ⟨g2, o2, none⟩) 1 c2) := m3
          have mx' : w5.cell? ⟨g2, o2, none⟩ = some (.int .i64 (x.2.1 : Int)) := mx
          have SR := Lib.hid (setRoot_t b5 HP.out (by have := HMM.out; omega) x.2.1 d2)
          clear b5 tn5 HF FR e0 e1 e2 e3 e4 e5 t0 t1 L6 m3 mx mc hlf k1' k3'
          go_wp2_with (first
            | (go_at_call 131; refine (MU _).mono ?_; rintro e w6 ⟨rfl, rfl⟩)
            | (go_at_call 126; refine SR.out.mono ?_; rintro e w7 ⟨rfl, HS⟩
               obtain ⟨G7, b7, tn7⟩ := HS.out
               have L7 := HL4.out.upd b7.up fun k h1 h2 => HLOC.out k h1 (by omega)
               obtain ⟨i0, i1, i2, i3, i4, i5⟩ := L7.cells
               have hxs := (HI.out.2.2.wf.1 x (by simp))
               have ONX : On (setRootS (frS S' p') place (x.2.1 + 1)) h2 x.2.1 x.2.2 := on_iff.2 ⟨⟨HD.out.use, HD.out.cont hxs.2.2.1⟩, HD.out.kid⟩
               have RDX := Lib.hid (tail_read b7 (by have := HMM.out; omega) ONX hxs.2.2.2.1 (hxs.2.2.2.2.ok hxs.2.2.1 (Nat.le_trans hxs.2.2.2.1 (by decide))))
               have B7 := Lib.hid b7
               clear b7 tn7 L7 HS hxs ONX)
            | (go_at_call 133; refine RDX.out.mono ?_; rintro e w8 ⟨q1, rfl, HO⟩))
          go_roundg h2
          case measure => have := HGK.out; omega
          case rel =>
            obtain ⟨F, a, b, c⟩ := HO.out
            refine ⟨h2, x.2.1, q1, x.2.2, _, G7, rfl, by omega, rfl, rfl, Lib.hid ⟨(B7.out.below c).more (by omega), ⟨F, a.rdIn, fun k hk => ⟨?_, fun e => ?_⟩⟩, HD.out⟩⟩
            · have := b k hk; have := B7.out.up.size; have := HW01.out; omega
            · have := b k hk; have := B7.out.room.lt k e; omega
        · have hdone : (nd h' u').isLeaf = true ∨ ((nd h' u').isLeaf = false ∧ ∃ a c, wr.cell? ⟨q', 3, none⟩ = some (.slice a (nd h' u').len c) ∧ 1 < (nd h' u').len) := by
            cases h' with
            | zero => exact .inl rfl
            | succ h2 =>
              refine .inr ⟨rfl, ?_⟩
              obtain ⟨vk, vv, vi, a⟩ := HI.out.2.1.view
              obtain ⟨ai, ci, rfl⟩ := a.is.form
              have e3' := cell_lit (i := 3) a.blk rfl
              rw [List.length_map, Nd.kids_len (d := nd (h2 + 1) u') rfl] at e3'
              refine ⟨ai, ci, e3', ?_⟩
              rw [nd_lenS] at hzp ⊢
              cases u' with
              | nil => simp at hzp
              | cons x r =>
                cases r with
                | nil => exact absurd ⟨h2, x, rfl, rfl⟩ hone
                | cons y r => simp
          have hlf : wr.cell? ⟨q', 0, none⟩ = some (.bool (nd h' u').isLeaf) := by
            obtain ⟨vk, vv, vi, a⟩ := HI.out.2.1.view
            exact cell_lit a.blk rfl
          have b7 := HI.out.1
          have L9 := (L5.out.setW true).setE
          have hfe : ((wr.setCell ⟨w.heap.size + 1, 0, none⟩ (.bool true)).setCell ⟨w.heap.size + 1 + 1, 0, none⟩ (.int .i64 0)).cell? ⟨w.heap.size + 1 + 1, 0, none⟩ = some (.int .i64 0) := L9.cells.2.2.1
          have hfw : ((wr.setCell ⟨w.heap.size + 1, 0, none⟩ (.bool true)).setCell ⟨w.heap.size + 1 + 1, 0, none⟩ (.int .i64 0)).cell? ⟨w.heap.size + 1, 0, none⟩ = some (.bool true) := L9.cells.2.1
          have HGO : Hid (DelEnd w ((wr.setCell ⟨w.heap.size + 1, 0, none⟩ (.bool true)).setCell ⟨w.heap.size + 1 + 1, 0, none⟩ (.int .i64 0)) G rb n m place S (some ⟨hh, p, t⟩) key true) := Lib.hid (by
            unfold DelEnd
            rw [if_pos rfl]
            refine ⟨_, some ⟨h', p', u'⟩, (((((SG.out.then b7).loc (x := w.heap.size + 1) (by omega) (HLOC2.out _ _ _ _ b7 _ (by omega) (by omega)) 0 (.bool true)).loc (x := w.heap.size + 1 + 1) (by omega) (HLOC2.out _ _ _ _ b7 _ (by omega) (by omega)) 0 (.int .i64 0)).more (by have := HH.out; omega)).go), (HI.out.2.2.done (o := some ⟨hh, p, t⟩) HZ.out).1, ?_, hle, HI.out.2.2.spr, (HI.out.2.2.done (o := some ⟨hh, p, t⟩) HZ.out).2, HI.out.2.2.wtl⟩
            have := HDEL.out
            rw [← HI.out.2.2.ents] at this; exact this)
          clear b7 L9 hone hz hzp
          rcases hdone with hl | ⟨hl, ai, ci, k3, hl2⟩
          · rw [hl] at hlf
            clear hl
            generalize (nd h' u').len = kl at *
            go_wp2_with fail
            refine leaves_cons (f := 124) (args := #[.pointer (some ⟨w.heap.size + 1 + 1, 0, none⟩)]) (by simp) (by simp [go_sem]) ?_
            refine (guard_idle _ _).mono ?_
            rintro e u' wa ⟨rfl, rfl, rfl⟩
            refine leaves_cons (f := 129) (args := #[.pointer (some ⟨w.heap.size + 1 + 1, 0, none⟩), .pointer (some ⟨w.heap.size, 0, none⟩), .pointer (some ⟨w.heap.size + 1, 0, none⟩), .pointer (some ⟨w.heap.size + 1 + 1 + 1, 0, none⟩)]) (by simp [settle]) (by simp [go_sem]) ?_
            refine (del1_idle _ _ _ _ _ _ hfe).mono ?_
            rintro e u' wb ⟨rfl, rfl, rfl⟩
            simp [Leaves, settle, results, Tryz.results74, go_sem, hfe, hfw]
            exact HGO
          · rw [hl] at hlf
            have hl3 : (1 : Int) < (((nd h' u').len : Nat) : Int) := by omega
            clear hl hl2
            generalize (nd h' u').len = kl at *
            go_wp2_with fail
            refine leaves_cons (f := 124) (args := #[.pointer (some ⟨w.heap.size + 1 + 1, 0, none⟩)]) (by simp) (by simp [go_sem]) ?_
            refine (guard_idle _ _).mono ?_
            rintro e u' wa ⟨rfl, rfl, rfl⟩
            refine leaves_cons (f := 129) (args := #[.pointer (some ⟨w.heap.size + 1 + 1, 0, none⟩), .pointer (some ⟨w.heap.size, 0, none⟩), .pointer (some ⟨w.heap.size + 1, 0, none⟩), .pointer (some ⟨w.heap.size + 1 + 1 + 1, 0, none⟩)]) (by simp [settle]) (by simp [go_sem]) ?_
            refine (del1_idle _ _ _ _ _ _ hfe).mono ?_
            rintro e u' wb ⟨rfl, rfl, rfl⟩
            simp [Leaves, settle, results, Tryz.results74, go_sem, hfe, hfw]
            exact HGO
end Go.Proofs.YtdcjhpafipbpkaaGreatDoor
namespace Go.Proofs.YtdcjhpafipbpkaaGreatDoor
set_option linter.unusedVariables false
set_option maxRecDepth 100000
set_option maxHeartbeats 1000000
open Go.RowKit
theorem srt_o {S : RS} {place : Nat} {o : Option TT} (h : TreeSt S place o) : Srt (entsO o) := by
  cases o with
  | none => exact List.Pairwise.nil
  | some T => exact h.2.wf.srt
/-- The keys that are there: those of these numbers. -/
structure KeysAre (key : Nat → ByteArray) (P : Nat → Prop) (E : List (ByteArray × ByteArray)) : Prop where
  of : ∀ e ∈ E, ∃ j, P j ∧ e.1 = key j
  all : ∀ j, P j → ∃ v, (key j, v) ∈ E
theorem KeysAre.ins {key : Nat → ByteArray} {P : Nat → Prop} {E E' : List (ByteArray × ByteArray)} {i : Nat} {v : ByteArray} (h : KeysAre key P E) (hi : ∀ j, P j → key j ≠ key i) (hn : Ins (key i) v E E') : KeysAre key (fun j => P j ∨ j = i) E' ∧ E'.length = E.length + 1 := by
  obtain ⟨A, B, rfl, h', hA, hB⟩ := hn
  rcases h' with rfl | ⟨v', rfl⟩
  · refine ⟨⟨fun e he => ?_, fun j hj => ?_⟩, by simp; omega⟩
    · simp only [List.mem_append, List.mem_cons] at he
      rcases he with he | rfl | he
      · obtain ⟨j, a, b⟩ := h.of e (by simp [he]); exact ⟨j, .inl a, b⟩
      · exact ⟨i, .inr rfl, rfl⟩
      · obtain ⟨j, a, b⟩ := h.of e (by simp [he]); exact ⟨j, .inl a, b⟩
    · rcases hj with hj | rfl
      · obtain ⟨v', hv⟩ := h.all j hj
        refine ⟨v', ?_⟩
        simp only [List.mem_append, List.mem_cons] at hv ⊢
        rcases hv with hv | hv
        · exact .inl hv
        · exact .inr (.inr hv)
      · exact ⟨v, by simp⟩
  · obtain ⟨j, a, b⟩ := h.of (key i, v') (by simp)
    exact absurd b.symm (hi j a)
theorem KeysAre.del {key : Nat → ByteArray} {P : Nat → Prop} {E E' : List (ByteArray × ByteArray)} {i : Nat} (h : KeysAre key P E) (hs : Srt E) (hd : Del (key i) E E') (hij : ∀ j, P j → j ≠ i → key j ≠ key i) : KeysAre key (fun j => P j ∧ j ≠ i) E' ∧ E'.length + 1 = E.length := by
  obtain ⟨A, B, v, rfl, rfl⟩ := hd
  obtain ⟨s1, s2, s3⟩ := srt_of hs
  have hne : ∀ e ∈ A ++ B, e.1 ≠ key i := fun e he => by
    rcases List.mem_append.1 he with he | he
    · exact kless_ne (s2 e he)
    · exact fun e' => kless_ne (s3 e he) e'.symm
  refine ⟨⟨fun e he => ?_, fun j hj => ?_⟩, by simp; omega⟩
  · have : e ∈ A ++ (key i, v) :: B := by
      rcases List.mem_append.1 he with he | he <;> simp [he]
    obtain ⟨j, a, b⟩ := h.of e this
    exact ⟨j, ⟨a, fun e' => hne e he (by rw [b, e'])⟩, b⟩
  · obtain ⟨v', hv⟩ := h.all j hj.1
    refine ⟨v', ?_⟩
    simp only [List.mem_append, List.mem_cons] at hv ⊢
    rcases hv with hv | hv | hv
    · exact .inl hv
    · exact absurd (congrArg Prod.fst hv) (hij j hj.1 hj.2)
    · exact .inr hv
end Go.Proofs.YtdcjhpafipbpkaaGreatDoor
namespace Go.Proofs.YtdcjhpafipbpkaaGreatDoor
set_option linter.unusedVariables false
set_option maxRecDepth 100000
set_option maxHeartbeats 1000000
open Go.RowKit
/-- What is found at a key. -/
def Got (key : ByteArray) (E : List (ByteArray × ByteArray)) (v : ByteArray) (ok : Bool) : Prop := (ok = true ∧ (key, v) ∈ E) ∨ (ok = false ∧ v = ⟨#[]⟩ ∧ ∀ e ∈ E, e.1 ≠ key)
theorem Got.lift {key : ByteArray} {h : Nat} {A B : List (Kid h)} {x : Kid h} {v : ByteArray} {ok : Bool} (H : Seps h (A ++ x :: B)) (W : Way key A x B) (g : Got key (ents h x.2.2) v ok) : Got key (ents (h + 1) (A ++ x :: B : List (Kid h))) v ok := by
  obtain ⟨w1, w2⟩ := H.way W
  rw [ents_mid]
  rcases g with ⟨rfl, hm⟩ | ⟨rfl, rfl, hn⟩
  · exact .inl ⟨rfl, by simp [hm]⟩
  · refine .inr ⟨rfl, rfl, fun e he => ?_⟩
    rcases List.mem_append.1 he with he | he
    · obtain ⟨y, hy, he⟩ := (ents_mem h A e).1 he
      exact kless_ne (w1 y hy e he)
    · rcases List.mem_append.1 he with he | he
      · exact hn e he
      · obtain ⟨y, hy, he⟩ := (ents_mem h B e).1 he
        exact fun e' => kless_ne (w2 y hy e he) e'.symm
/-- What a reading call leaves. -/
theorem Get_none (G : Nat → Prop) (tb rb place n m : Nat) (S : RS) (key : ByteArray) (w : World) (h : RmS w G rb n m S) (ht : TB w tb rb place) (hg : ¬ G tb) (hp : place < 16) (hm : m ≤ 3900000) (hr : S.root place = 0) :
    Calls Tryz.prog 115 #[.pointer (some ⟨tb, 0, none⟩), .string key] w fun e w' => ∃ v ok, e = .returned (.tuple #[.string v, .bool ok, .int .i64 0]) ∧ Got key [] v ok ∧ Hid (StGo w w' G rb n m S) := by
  have hb0 : Below w.heap.size w (w.alloc (.cells #[.int .i64 0] 34)) := (Below.refl _ _).alloc (Nat.le_refl _) _
  have B0 := Lib.hid (TBase.start (h.below hb0) (ht.below hb0) hg)
  have HG := Lib.hid h.lt
  have RT := root_c G tb rb place n m S _ B0.out.room B0.out.blk hp (by omega) (by rw [hr]; omega)
  rw [hr] at RT
  have HB0 := Lib.hid hb0
  have l0 : (w.alloc (.cells #[.int .i64 0] 34)).heap[w.heap.size]? = some (.cells #[.int .i64 0] 34 (0, 0)) := heap_alloc_new _ _
  clear h ht hg hp hm hr hb0
  go_enter_defers Tryz.func115, Tryz.ntmps115
  go_wp2_with fail
  refine RT.mono ?_
  rintro e w2 ⟨rfl, hb⟩
  have B2 := B0.out.below hb.out
  have l2 := (hb.out.block _ (lt_of_heap l0)).trans l0
  have x1 : w2.cell? ⟨w.heap.size, 0, none⟩ = some (.int .i64 0) := cell_lit l2 rfl
  have x2 : w2.frozen? ⟨w.heap.size, 0, none⟩ = false := frozen_lit l2 0
  have hfe : (w2.setCell ⟨w.heap.size, 0, none⟩ (.int .i64 0)).cell? ⟨w.heap.size, 0, none⟩ = some (.int .i64 0) := cell_lit (heap_set_lit l2 _) rfl
  have HGO := Lib.hid ((StG.of B2 HB0.out).loc (x := w.heap.size) (Nat.le_refl _) (fun e => by have := HG.out _ e; omega) 0 (.int .i64 0)).go
  clear B2 l2 l0 B0 hb RT
  go_wp2_with fail
  go_loopg [7, 13] 1 (fun gg s7 s13 wr => s7 = .int .i64 (-1) ∧ s13 = .int .i64 0 ∧ wr = w2)
  case atStart => exact ⟨rfl, rfl, rfl⟩
  case round =>
    obtain ⟨rfl, rfl, rfl⟩ := hrel
    go_wp2_with fail
    refine leaves_cons (f := 124) (args := #[.pointer (some ⟨w.heap.size, 0, none⟩)]) (by simp) (by simp [go_sem]) ?_
    refine (guard_idle _ _).mono ?_
    rintro e u' wa ⟨rfl, rfl, rfl⟩
    simp [Leaves, settle, results, Tryz.results115, go_sem, hfe]
    exact ⟨.inr ⟨rfl, rfl, by simp⟩, HGO⟩
theorem vals_at {w0 W : World} {G : Nat → Prop} {q : Nat} {A B : List (ByteArray × ByteArray)} {x : ByteArray × ByteArray} (h : RdN w0 W G q (.leaf (A ++ x :: B))) :
    ∃ g o c, W.cell? ⟨q, 2, none⟩ = some (.slice (some ⟨g, o, none⟩) (A.length + 1 + B.length) c) ∧ W.cell? ⟨g, o + A.length, none⟩ = some (.string x.2) := by
  obtain ⟨vk, vv, vi, a⟩ := h.view
  have hl : ((Nd.leaf (A ++ x :: B)).vals.map Value.string).length = A.length + 1 + B.length := by simp [Nd.vals]; omega
  obtain ⟨g, off, cap, rfl, hcap, hc⟩ := a.vs.lit (by simp [Nd.vals]; omega)
  refine ⟨g, off, cap, ?_, ?_⟩
  · have := cell_lit (i := 2) a.blk rfl
    rw [← hl]; exact this
  · have := hc A.length (by simp [Nd.vals])
    rw [this]; simp [Nd.vals]
theorem OneNd.rdN {w0 W W' : World} {G : Nat → Prop} {p : Nat} {d : Nd} (h : OneNd W W' p d) (hs : w0.heap.size ≤ W.heap.size) (hG : ∀ k, G k → k < W.heap.size) : RdN w0 W' G p d := by
  obtain ⟨F, a, b, c⟩ := h
  exact ⟨F, a.rdIn, fun k hk => ⟨Nat.le_trans hs (b k hk), fun e => by have := b k hk; have := hG k e; omega⟩⟩
theorem OneNd.below {W W' : World} {p : Nat} {d : Nd} (h : OneNd W W' p d) : Below W.heap.size W W' := by obtain ⟨F, a, b, c⟩ := h; exact c
theorem Get_some (G : Nat → Prop) (tb rb place n m : Nat) (S : RS) (hh p : Nat) (t : PT hh) (key : ByteArray) (w : World) (h : RmS w G rb n m S) (ht : TB w tb rb place) (hg : ¬ G tb) (hp : place < 16) (hm : m ≤ 3900000) (hr : S.root place = p + 1) (hT : Tr S hh p t) (hh20 : hh ≤ 19) :
    Calls Tryz.prog 115 #[.pointer (some ⟨tb, 0, none⟩), .string key] w fun e w' => ∃ v ok, e = .returned (.tuple #[.string v, .bool ok, .int .i64 0]) ∧ Got key (ents hh t) v ok ∧ Hid (StGo w w' G rb n m S) := by
  have hp65 : p < 65536 := by
    have := h.lim p hT.on.top.1
    have := h.bounds
    unfold pagesN at *; omega
  have hb0 : Below w.heap.size w (w.alloc (.cells #[.int .i64 0] 34)) := (Below.refl _ _).alloc (Nat.le_refl _) _
  have B0 := Lib.hid (TBase.start (h.below hb0) (ht.below hb0) hg)
  have HG := Lib.hid h.lt
  have RT := root_c G tb rb place n m S _ B0.out.room B0.out.blk hp (by omega) (by rw [hr]; omega)
  rw [hr, show (((p + 1 : Nat) : Int) - 1) = (p : Int) by omega] at RT
  have HB0 := Lib.hid hb0
  have l0 : Hid ((w.alloc (.cells #[.int .i64 0] 34)).heap[w.heap.size]? = some (.cells #[.int .i64 0] 34 (0, 0))) := Lib.hid (heap_alloc_new _ _)
  have HGW : Hid (¬ G w.heap.size) := Lib.hid fun e => by have := HG.out _ e; omega
  have HT := Lib.hid hT
  have HM := Lib.hid hm
  have HH := Lib.hid hh20
  have hsz0 : Hid ((w.alloc (.cells #[.int .i64 0] 34)).heap.size = w.heap.size + 1) := Lib.hid (by simp)
  clear h ht hg hp hm hr hb0 hT hh20 hp65
  go_enter_defers Tryz.func115, Tryz.ntmps115
  go_wp2_with fail
  generalize w.alloc (.cells #[.int .i64 0] 34) = W0 at *
  refine RT.mono ?_
  rintro e w2 ⟨rfl, hb⟩
  have B2 := Lib.hid (B0.out.below hb.out)
  clear hb RT
  go_wp2_with fail
  go_loopg [7, 13] hh (fun gg s7 s13 wr => ∃ (h' p' c : Nat) (t' : PT h'), gg = h' ∧ c + h' ≤ 19 ∧ s7 = .int .i64 (p' : Int) ∧ s13 = .int .i64 (c : Int) ∧ Hid (TBase W0 wr G G tb rb place n m S ∧ Tr S h' p' t' ∧ ∀ v ok, Got key (ents h' t') v ok → Got key (ents hh t) v ok))
  case atStart => exact ⟨hh, p, 0, t, rfl, by have := HH.out; omega, rfl, rfl, Lib.hid ⟨B2.out, HT.out, fun _ _ g => g⟩⟩
  case round =>
    obtain ⟨h', p', c, t', hgk, hc19, rfl, rfl, HI⟩ := hrel
    have HGK := Lib.hid hgk
    clear hgk
    have hc20 : (c : Int) < 20 := by omega
    have hp0 : ¬ (p' : Int) < 0 := by omega
    have RD := Lib.hid (tail_read HI.out.1 (by have := HM.out; omega) HI.out.2.1.on HI.out.2.1.fit HI.out.2.1.ok)
    go_wp2_with fail
    refine RD.out.mono ?_
    rintro e w3 ⟨q, rfl, HO⟩
    have B3 := Lib.hid (HI.out.1.below HO.out.below)
    have N3 : Hid (RdN W0 w3 G q (nd h' t')) := Lib.hid (HO.out.rdN HI.out.1.up.size HI.out.1.room.lt)
    have l3 : Hid (w3.heap[w.heap.size]? = some (.cells #[.int .i64 0] 34 (0, 0))) := Lib.hid (B3.out.up.at l0.out HGW.out)
    obtain ⟨vk, vv, vi, hv⟩ := N3.out.view
    clear RD HO
    cases h' with
    | zero =>
      have c0 : w3.cell? ⟨q, 0, none⟩ = some (.bool true) := cell_lit hv.blk rfl
      obtain ⟨A, B, e1, hA, hB, hor⟩ := lb_split t' key HI.out.2.1.wf.srt
      subst e1
      have hpos : 0 < (Nd.leaf (A ++ B)).len := HI.out.2.1.pos
      have hl6 : (Nd.leaf (A ++ B)).len ≤ 1000000 := Nat.le_of_lt (Nat.lt_trans HI.out.2.1.ok.few (by decide))
      have hAB : ∀ a ∈ A.map Prod.fst, kless a key = true := fun a ha => by obtain ⟨e, he, rfl⟩ := List.mem_map.1 ha; exact hA e he
      rcases hor with ⟨v, B', rfl, hB'⟩ | hB'
      · have FD := find_c true q (.leaf (A ++ (key, v) :: B')) vk vv vi (A.map Prod.fst) (key :: B'.map Prod.fst) key w3 hv (by simp [Nd.keys]) hpos hl6 hAB (fun b hb => by
          rcases List.mem_cons.1 hb with rfl | hb
          · exact kless_irrefl _
          · obtain ⟨e, he, rfl⟩ := List.mem_map.1 hb; exact hB e (by simp [he])) ⟨fun _ => ⟨_, rfl⟩, fun _ => rfl⟩
        rw [List.length_map] at FD
        have FD2 := Lib.hid FD
        have HGOT := Lib.hid (HI.out.2.2 v true (.inl ⟨rfl, by simp [ents]⟩))
        clear FD hA hB hB' hpos hl6 hAB hv hc19
        go_wp2_with fail
        refine FD2.out.mono ?_
        rintro e w4 ⟨rfl, qn, rfl⟩
        have B4 := Lib.hid (B3.out.below (drewN_below w3 qn))
        have N4 := Lib.hid (N3.out.below (drewN_below w3 qn))
        have l4 : (w3.drewN qn).heap[w.heap.size]? = some (.cells #[.int .i64 0] 34 (0, 0)) := l3.out
        generalize w3.drewN qn = w4 at *
        obtain ⟨g, o, cp, k1, k2⟩ := vals_at N4.out
        have x1 : w4.cell? ⟨w.heap.size, 0, none⟩ = some (.int .i64 0) := cell_lit l4 rfl
        have x2 : w4.frozen? ⟨w.heap.size, 0, none⟩ = false := frozen_lit l4 0
        have hfe : (w4.setCell ⟨w.heap.size, 0, none⟩ (.int .i64 0)).cell? ⟨w.heap.size, 0, none⟩ = some (.int .i64 0) := cell_lit (heap_set_lit l4 _) rfl
        have HGO := Lib.hid ((StG.of B4.out HB0.out).loc (x := w.heap.size) (Nat.le_refl _) HGW.out 0 (.int .i64 0)).go
        have hlt : (A.length : Int) < ((A.length + 1 + B'.length : Nat) : Int) := by omega
        clear l4 N4 B4 N3 B3 FD2 c0
        go_wp2_with fail
        refine leaves_cons (f := 124) (args := #[.pointer (some ⟨w.heap.size, 0, none⟩)]) (by simp) (by simp [go_sem]) ?_
        refine (guard_idle _ _).mono ?_
        rintro e u' wa ⟨rfl, rfl, rfl⟩
        simp [Leaves, settle, results, Tryz.results115, go_sem, hfe]
        exact ⟨HGOT.out, HGO⟩
      · have FD := find_c false q (.leaf (A ++ B)) vk vv vi (A.map Prod.fst) (B.map Prod.fst) key w3 hv (by simp [Nd.keys]) hpos hl6 hAB (fun b hb => by obtain ⟨e, he, rfl⟩ := List.mem_map.1 hb; exact hB e he) ⟨(fun e => by cases e), (fun ⟨B', e⟩ => by
          have hm : key ∈ B.map Prod.fst := by rw [e]; simp
          obtain ⟨e', he, he2⟩ := List.mem_map.1 hm
          have := hB' e' he
          rw [he2, kless_irrefl] at this; cases this)⟩
        rw [List.length_map] at FD
        have FD2 := Lib.hid FD
        have HGOT := Lib.hid (HI.out.2.2 ⟨#[]⟩ false (.inr ⟨rfl, rfl, fun e he => by
          rcases List.mem_append.1 (show e ∈ A ++ B from he) with he | he
          · exact kless_ne (hA e he)
          · exact fun e' => kless_ne (hB' e he) e'.symm⟩))
        clear FD hA hB hB' hpos hl6 hAB hv hc19
        go_wp2_with fail
        refine FD2.out.mono ?_
        rintro e w4 ⟨rfl, qn, rfl⟩
        have B4 := Lib.hid (B3.out.below (drewN_below w3 qn))
        have l4 : (w3.drewN qn).heap[w.heap.size]? = some (.cells #[.int .i64 0] 34 (0, 0)) := l3.out
        generalize w3.drewN qn = w4 at *
        have x1 : w4.cell? ⟨w.heap.size, 0, none⟩ = some (.int .i64 0) := cell_lit l4 rfl
        have x2 : w4.frozen? ⟨w.heap.size, 0, none⟩ = false := frozen_lit l4 0
        have hfe : (w4.setCell ⟨w.heap.size, 0, none⟩ (.int .i64 0)).cell? ⟨w.heap.size, 0, none⟩ = some (.int .i64 0) := cell_lit (heap_set_lit l4 _) rfl
        have HGO := Lib.hid ((StG.of B4.out HB0.out).loc (x := w.heap.size) (Nat.le_refl _) HGW.out 0 (.int .i64 0)).go
        clear l4 B4 N3 B3 FD2 c0
        go_wp2_with fail
        refine leaves_cons (f := 124) (args := #[.pointer (some ⟨w.heap.size, 0, none⟩)]) (by simp) (by simp [go_sem]) ?_
        refine (guard_idle _ _).mono ?_
        rintro e u' wa ⟨rfl, rfl, rfl⟩
        simp [Leaves, settle, results, Tryz.results115, go_sem, hfe]
        exact ⟨HGOT.out, HGO⟩
    | succ h2 =>
      have c0 : w3.cell? ⟨q, 0, none⟩ = some (.bool false) := cell_lit hv.blk rfl
      have hpos := HI.out.2.1.pos
      rw [nd_lenS] at hpos
      have hwf := HI.out.2.1.wf
      obtain ⟨A, x, B, e1, hW, hA⟩ := way_split t' key (hwf.2.keys fun x hx => ents_pos (hwf.1 x hx).2.2.2.2 (hwf.1 x hx).2.2.1) hpos
      subst e1
      have hN3 := N3.out
      rw [show nd (h2 + 1) (A ++ x :: B : List (Kid h2)) = .inner (A.map (fun x : Kid h2 => (x.1, x.2.1)) ++ (x.1, x.2.1) :: B.map (fun x : Kid h2 => (x.1, x.2.1))) by simp [nd]] at hN3
      obtain ⟨g3, off, cap3, k1, k2⟩ := kids_at hN3
      rw [List.length_map, List.length_map] at k1
      rw [List.length_map] at k2
      have hlt : (A.length : Int) < ((A.length + 1 + B.length : Nat) : Int) := by omega
      have hd := (Below.refl w3.heap.size w3).drew
      have WN : Hid (Calls Tryz.prog 166 #[.pointer (some ⟨q, 0, none⟩), .string key] w3.drew fun e w' => e = .returned (.int .i64 (A.length : Nat)) ∧ (w'.cell? ⟨q, 3, none⟩ = some (.slice (some ⟨g3, off, none⟩) (A.length + 1 + B.length) cap3) ∧ w'.cell? ⟨g3, off + A.length, none⟩ = some (.int .i64 (x.2.1 : Int))) ∧ Hid (Below w3.heap.size w3 w')) := Lib.hid (by
        refine (way_nd (N3.out.below hd) (Nat.le_of_lt (Nat.lt_trans HI.out.2.1.ok.few (by decide))) hW hA).mono ?_
        rintro e w' ⟨rfl, hb⟩
        have hb' : Below w3.heap.size w3 w' := hd.trans hb.out
        exact ⟨rfl, ⟨(World.cell?_of_block (hb'.block _ (World.block_lt_of_cell? _ _ k1))).trans k1, (World.cell?_of_block (hb'.block _ (World.block_lt_of_cell? _ _ k2))).trans k2⟩, hb'⟩)
      have HW := Lib.hid hW
      generalize A.length + 1 + B.length = NN at *
      clear hN3 hv hwf hpos hA hW hd
      go_wp2_with fail
      go_region_held3 (fun w' => w'.cell? ⟨q, 3, none⟩ = some (.slice (some ⟨g3, off, none⟩) NN cap3) ∧ w'.cell? ⟨g3, off + A.length, none⟩ = some (.int .i64 (x.2.1 : Int))) (go_keep) ((go_at_call 166; refine Calls.at_args WN.out (by with_reducible rfl) ?_; rintro e w4 ⟨rfl, hkk, HB4⟩))
      all_goals (
        go_wp2_with fail
        go_roundg h2)
      all_goals (first
        | (case measure => have := HGK.out; omega)
        | (case rel => exact ⟨h2, x.2.1, c + 1, x.2.2, rfl, by omega, rfl, by congr 1, Lib.hid ⟨B3.out.below HB4.out, HI.out.2.1.kid (by simp), fun v ok g => HI.out.2.2 v ok (g.lift HI.out.2.1.wf.2 HW.out)⟩⟩))
end Go.Proofs.YtdcjhpafipbpkaaGreatDoor
namespace Go.Proofs.YtdcjhpafipbpkaaGreatDoor
set_option linter.unusedVariables false
set_option maxRecDepth 100000
set_option maxHeartbeats 1000000
open Go.RowKit
/-- Pairs one by one: until there are enough, or past the end. -/
def sRun (tt : ByteArray) (limit : Nat) : List (ByteArray × ByteArray) → List (ByteArray × ByteArray) → List (ByteArray × ByteArray) × Bool
  | [], L => (L, true)
  | e :: r, L => if L.length = limit ∨ (tt.size ≠ 0 ∧ kless e.1 tt = false) then (L, false) else sRun tt limit r (L ++ [e])
theorem sRun_cons (tt : ByteArray) (limit : Nat) (e : ByteArray × ByteArray) (r L : List (ByteArray × ByteArray)) : sRun tt limit (e :: r) L = if L.length = limit ∨ (tt.size ≠ 0 ∧ kless e.1 tt = false) then (L, false) else sRun tt limit r (L ++ [e]) := rfl
theorem sRun_true {tt : ByteArray} {limit : Nat} {F1 F2 L L1 : List (ByteArray × ByteArray)} (h : sRun tt limit F1 L = (L1, true)) : sRun tt limit (F1 ++ F2) L = sRun tt limit F2 L1 := by
  induction F1 generalizing L with
  | nil => cases h; rfl
  | cons e r ih =>
    rw [List.cons_append, sRun_cons]
    rw [sRun_cons] at h
    by_cases hc : L.length = limit ∨ (tt.size ≠ 0 ∧ kless e.1 tt = false)
    · rw [if_pos hc] at h; cases h
    · rw [if_neg hc] at h ⊢; exact ih h
theorem sRun_false {tt : ByteArray} {limit : Nat} {F1 F2 L L1 : List (ByteArray × ByteArray)} (h : sRun tt limit F1 L = (L1, false)) : sRun tt limit (F1 ++ F2) L = (L1, false) := by
  induction F1 generalizing L with
  | nil => cases h
  | cons e r ih =>
    rw [List.cons_append, sRun_cons]
    rw [sRun_cons] at h
    by_cases hc : L.length = limit ∨ (tt.size ≠ 0 ∧ kless e.1 tt = false)
    · rw [if_pos hc] at h ⊢; exact h
    · rw [if_neg hc] at h ⊢; exact ih h
theorem sRun_len {tt : ByteArray} {limit : Nat} {F L L1 : List (ByteArray × ByteArray)} {ok : Bool} (h : sRun tt limit F L = (L1, ok)) : L1.length ≤ L.length + F.length := by
  induction F generalizing L with
  | nil => cases h; simp
  | cons e r ih =>
    rw [sRun_cons] at h
    by_cases hc : L.length = limit ∨ (tt.size ≠ 0 ∧ kless e.1 tt = false)
    · rw [if_pos hc] at h; cases h; simp
    · rw [if_neg hc] at h; have := ih h; simp at this ⊢; omega
def from_ (key : ByteArray) (E : List (ByteArray × ByteArray)) : List (ByteArray × ByteArray) := E.filter fun e => !kless e.1 key
theorem from_none {key : ByteArray} {E : List (ByteArray × ByteArray)} (h : ∀ e ∈ E, kless e.1 key = true) : from_ key E = [] := by
  unfold from_
  rw [List.filter_eq_nil_iff]
  intro e he; simp [h e he]
theorem from_all {key : ByteArray} {E : List (ByteArray × ByteArray)} (h : ∀ e ∈ E, kless e.1 key = false) : from_ key E = E := by
  unfold from_
  rw [List.filter_eq_self]
  intro e he; simp [h e he]
theorem from_app (key : ByteArray) (A B : List (ByteArray × ByteArray)) : from_ key (A ++ B) = from_ key A ++ from_ key B := by simp [from_]
def pairC (L : List (ByteArray × ByteArray)) : List Value := L.flatMap fun e => [.string e.1, .string e.2]
theorem pairC_snoc (L : List (ByteArray × ByteArray)) (e : ByteArray × ByteArray) : pairC (L ++ [e]) = pairC L ++ [.string e.1, .string e.2] := by simp [pairC]
/-- The list that is collected. -/
structure Acc (base : Nat) (W : World) (lb : Nat) (L : List (ByteArray × ByteArray)) (v : Value) : Prop where
  blk : W.heap[lb]? = some (.cells #[v] 166 (0, 0))
  row : W.ownsRow base 170 2 v L.length (pairC L)
  ne : v.ownBlock ≠ some lb
  few : L.length ≤ 40000000
/-- .. goes on. -/
structure AccGo (base : Nat) (W W' : World) (lb : Nat) (v : Value) (L' : List (ByteArray × ByteArray)) : Prop where
  acc : ∃ v', Acc base W' lb L' v' ∧ ∀ k, v'.ownBlock = some k → v.ownBlock = some k ∨ W.heap.size ≤ k
  up : Upd (fun k => k = lb ∨ v.ownBlock = some k) W W'
theorem ownsRow_of2 {w w' : World} {base : Nat} {e : TypeId} {s : Nat} {v : Value} {n : Nat} {xs : List Value} (h : w.ownsRow base e s v n xs) (hk : ∀ k, v.ownBlock = some k → w'.heap[k]? = w.heap[k]?) : w'.ownsRow base e s v n xs := by
  refine ⟨h.1, ?_⟩
  rcases h.2 with hn | ⟨g, cap, cur, rfl, hb, hg, rest⟩
  · exact .inl hn
  · exact .inr ⟨g, cap, cur, rfl, hb, (hk g rfl).trans hg, rest⟩
theorem Acc.below {base : Nat} {W W' : World} {lb : Nat} {L : List (ByteArray × ByteArray)} {v : Value} (h : Acc base W lb L v) (hb : Below W.heap.size W W') : Acc base W' lb L v :=
  ⟨(hb.block lb (lt_of_heap h.blk)).trans h.blk, ownsRow_of2 h.row fun k e => hb.block k (h.row.lt k e).2, h.ne, h.few⟩
theorem AccGo.refl {base : Nat} {W : World} {lb : Nat} {L : List (ByteArray × ByteArray)} {v : Value} (h : Acc base W lb L v) : AccGo base W W lb v L := ⟨⟨v, h, fun k e => .inl e⟩, Upd.refl _ _⟩
theorem AccGo.below {base : Nat} {W W1 W2 : World} {lb : Nat} {L' : List (ByteArray × ByteArray)} {v : Value} (h : AccGo base W W1 lb v L') (hb : Below W1.heap.size W1 W2) : AccGo base W W2 lb v L' := by
  obtain ⟨⟨v', a, b⟩, c⟩ := h
  exact ⟨⟨v', a.below hb, b⟩, c.trans' (hb.upd' (Nat.le_refl _)) fun _ _ e => False.elim e⟩
theorem AccGo.trans {base : Nat} {W W1 W2 : World} {lb : Nat} {L2 : List (ByteArray × ByteArray)} {v v1 : Value} (hu : Upd (fun k => k = lb ∨ v.ownBlock = some k) W W1) (hn : ∀ k, v1.ownBlock = some k → v.ownBlock = some k ∨ W.heap.size ≤ k) (h : AccGo base W1 W2 lb v1 L2) : AccGo base W W2 lb v L2 := by
  obtain ⟨⟨v2, a, b⟩, c⟩ := h
  refine ⟨⟨v2, a, fun k hk => ?_⟩, hu.trans' c fun j hj e => ?_⟩
  · rcases b k hk with e | e
    · exact hn k e
    · have := hu.size; exact .inr (by omega)
  · rcases e with e | e
    · exact .inl e
    · exact .inr ((hn j e).resolve_right (by omega))
theorem AccGo.below_left {base : Nat} {W W1 W2 : World} {lb : Nat} {L2 : List (ByteArray × ByteArray)} {v : Value} (hb : Below W.heap.size W W1) (h : AccGo base W1 W2 lb v L2) : AccGo base W W2 lb v L2 :=
  AccGo.trans ((hb.upd' (Nat.le_refl _)).mono fun _ _ e => False.elim e) (fun k e => .inl e) h
/-- The state of a reading call behind a change of the list. -/
theorem TBase.acc {w0 W W' : World} {G0 G : Nat → Prop} {tb rb place n m : Nat} {S : RS} (h : TBase w0 W G0 G tb rb place n m S) {lb base : Nat} {v : Value} {L L' : List (ByteArray × ByteArray)} (ha : Acc base W lb L v) (hl : w0.heap.size ≤ lb) (hb : w0.heap.size ≤ base) (hG : ∀ k, G k → k < w0.heap.size) (hg : AccGo base W W' lb v L') : TBase w0 W' G0 G tb rb place n m S := by
  refine h.node hg.up fun k hk => ?_
  rcases hk with e | e
  · exact ⟨by omega, fun e' => by have := hG k e'; omega⟩
  · have := (ha.row.lt k e).1
    exact ⟨by omega, fun e' => by have := hG k e'; omega⟩
/-- A pair more. -/
theorem acc_push {base : Nat} {wr Wb W5 : World} {lb : Nat} {Lj : List (ByteArray × ByteArray)} {vj v' : Value} {e : ByteArray × ByteArray} (ha : Acc base wr lb Lj vj) (hb : Below wr.heap.size wr Wb) (ho : W5.ownsRow base 170 2 v' (Lj.length + 1) (pairC Lj ++ [.string e.1, .string e.2])) (hg : Wb.grownBy W5 vj.ownBlock) (hv : v'.ownBlock = vj.ownBlock ∨ v'.ownBlock = some Wb.heap.size) (hf : Lj.length + 1 ≤ 40000000) :
    (W5.cell? ⟨lb, 0, none⟩ = some vj ∧ W5.frozen? ⟨lb, 0, none⟩ = false) ∧ Acc base (W5.setCell ⟨lb, 0, none⟩ v') lb (Lj ++ [e]) v' ∧ (∀ k, v'.ownBlock = some k → vj.ownBlock = some k ∨ wr.heap.size ≤ k) ∧ Upd (fun k => k = lb ∨ vj.ownBlock = some k) wr (W5.setCell ⟨lb, 0, none⟩ v') := by
  have hA := ha.below hb
  have hu : Upd (fun k => vj.ownBlock = some k) Wb W5 := (Upd.refl _ _).grown hg fun k e => .inl e
  have h5 := hu.at hA.blk ha.ne
  have hs := hb.size
  have hlt := lt_of_heap ha.blk
  have hne : v'.ownBlock ≠ some lb := fun e => by
    rcases hv with h | h
    · exact ha.ne (by rw [← h]; exact e)
    · rw [h] at e; cases e; omega
  refine ⟨⟨cell_lit h5 rfl, frozen_lit h5 0⟩, ⟨heap_set_lit h5 v', ?_, hne, by simp; omega⟩, fun k hk => ?_, ?_⟩
  · rw [pairC_snoc, List.length_append]
    exact ownsRow_of2 ho fun k hk => heap_set_ne _ fun e => hne (by rw [← e]; exact hk)
  · rcases hv with h | h
    · exact .inl (by rw [← h]; exact hk)
    · rw [h] at hk; cases hk; exact .inr hs
  · have u1 : Upd (fun k => k = lb ∨ vj.ownBlock = some k) wr Wb := (hb.upd' (Nat.le_refl _)).mono fun _ _ e => False.elim e
    exact (u1.trans (hu.mono fun k _ e => .inr e)).setCell (p := ⟨lb, 0, none⟩) (.inl (.inl rfl)) v'
end Go.Proofs.YtdcjhpafipbpkaaGreatDoor
namespace Go.Proofs.YtdcjhpafipbpkaaGreatDoor
set_option linter.unusedVariables false
set_option maxRecDepth 100000
set_option maxHeartbeats 20000000
open Go.RowKit
theorem infoP : (Tryz.prog.info? 170).map (fun i => (i.zero, i.size, i.bytes)) = some (some (.agg #[.string ⟨#[]⟩, .string ⟨#[]⟩]), 2, 32) := by kernel_rfl
/-- What a scan below a page leaves. -/
def ScanEnd (base : Nat) (W w' : World) (lb : Nat) (v : Value) (frm tt : ByteArray) (limit : Nat) (E L : List (ByteArray × ByteArray)) (ok : Bool) : Prop := ∃ L', sRun tt limit (from_ frm E) L = (L', ok) ∧ AccGo base W w' lb v L'
theorem leaf_cells {W : World} {F : Nat → Prop} {q : Nat} {l : List (ByteArray × ByteArray)} (h : RdIn W q (.leaf l) F) (hp : 0 < l.length) :
    ∃ g1 o1 c1 g2 o2 c2, W.cell? ⟨q, 1, none⟩ = some (.slice (some ⟨g1, o1, none⟩) l.length c1) ∧ W.cell? ⟨q, 2, none⟩ = some (.slice (some ⟨g2, o2, none⟩) l.length c2) ∧ (F q ∧ F g1 ∧ F g2) ∧ ∀ i (hi : i < l.length), W.cell? ⟨g1, o1 + i, none⟩ = some (.string l[i].1) ∧ W.cell? ⟨g2, o2 + i, none⟩ = some (.string l[i].2) := by
  obtain ⟨vk, vv, vi, a, b⟩ := h
  obtain ⟨g1, o1, c1, e1, h1, k1⟩ := a.ks.lit (by simpa [Nd.keys] using hp)
  obtain ⟨g2, o2, c2, e2, h2, k2⟩ := a.vs.lit (by simpa [Nd.vals] using hp)
  subst e1 e2
  refine ⟨g1, o1, c1, g2, o2, c2, ?_, ?_, ⟨(b q (.inl rfl)).2, (b g1 (.inr (.inl rfl))).2, (b g2 (.inr (.inr (.inl rfl)))).2⟩, fun i hi => ⟨?_, ?_⟩⟩
  · have := cell_lit (i := 1) a.blk rfl
    simpa [Nd.keys] using this
  · have := cell_lit (i := 2) a.blk rfl
    simpa [Nd.vals] using this
  · have := k1 i (by simpa [Nd.keys] using hi)
    rw [this]; simp [Nd.keys]
  · have := k2 i (by simpa [Nd.vals] using hi)
    rw [this]; simp [Nd.vals]
theorem scan_leaf (w0 W : World) (G : Nat → Prop) (tb rb place n m : Nat) (S : RS) (p : Nat) (t : PT 0) (frm tt : ByteArray) (limit lb deep base : Nat) (L : List (ByteArray × ByteArray)) (v : Value) (hB : TBase w0 W G G tb rb place n m S) (hA : Acc base W lb L v) (hl : w0.heap.size ≤ lb) (hb : w0.heap.size ≤ base) (hbW : base ≤ W.heap.size) (hG : ∀ k, G k → k < w0.heap.size) (hT : Tr S 0 p t) (hd : deep ≤ 20) (hm : m ≤ 3900000) (hcap : L.length + (ents 0 t).length ≤ 40000000) (hlim : limit ≤ 4611686018427387904) (htt : tt.size = 0) :
    Calls Tryz.prog 142 #[.pointer (some ⟨tb, 0, none⟩), .int .i64 (p : Int), .string frm, .string tt, .int .i64 (limit : Int), .pointer (some ⟨lb, 0, none⟩), .int .i64 (deep : Int)] W fun e w' => ∃ ok, e = .returned (.bool ok) ∧ Hid (ScanEnd base W w' lb v frm tt limit (ents 0 t) L ok) := by
  have hnot : ∀ (x : Bool) (w : World), (Op.unary .not (.bool x)).run Tryz.prog w = .ok (.bool (!x)) w := fun _ _ => rfl
  have RD := Lib.hid (tail_read hB (by omega) hT.on hT.fit hT.ok)
  have hd1 : ¬ (20 : Int) < (deep : Int) := by omega
  obtain ⟨A, B, rfl, hA1, hB1, -⟩ := lb_split t frm hT.wf.srt
  have HF : Hid (from_ frm (ents 0 (A ++ B)) = B) := Lib.hid (by
    show from_ frm (A ++ B) = B
    rw [from_app, from_none hA1, from_all hB1, List.nil_append])
  have hpos : 0 < (A ++ B).length := by have := hT.pos; rw [nd_len0] at this; exact this
  have hl6 : (Nd.leaf (A ++ B)).len ≤ 1000000 := Nat.le_of_lt (Nat.lt_trans hT.ok.few (by decide))
  have hlab : (A ++ B).length ≤ 65536 := by have := hT.ok.few; rw [nd_len0] at this; exact Nat.le_of_lt this
  have HTH : ∃ there : Bool, there = true ↔ ∃ B', B.map Prod.fst = frm :: B' := by
    by_cases h : ∃ B', B.map Prod.fst = frm :: B'
    · exact ⟨true, ⟨fun _ => h, fun _ => rfl⟩⟩
    · exact ⟨false, ⟨(fun e => by cases e), fun e => absurd e h⟩⟩
  obtain ⟨there, hth⟩ := HTH
  have FD : Hid (∀ W' q, RdN w0 W' G q (nd 0 (A ++ B)) → Calls Tryz.prog 165 #[.pointer (some ⟨q, 0, none⟩), .string frm] W' fun e w' => e = .returned (.tuple #[.int .i64 (A.length : Nat), .bool there]) ∧ ∃ q, w' = W'.drewN q) := Lib.hid fun W' q hr => by
    obtain ⟨vk, vv, vi, hv⟩ := hr.view
    have := find_c there q (.leaf (A ++ B)) vk vv vi (A.map Prod.fst) (B.map Prod.fst) frm W' hv (by simp [Nd.keys]) hT.pos hl6 (fun a ha => by obtain ⟨e, he, rfl⟩ := List.mem_map.1 ha; exact hA1 e he) (fun b hb => by obtain ⟨e, he, rfl⟩ := List.mem_map.1 hb; exact hB1 e he) hth
    rw [List.length_map] at this; exact this
  have HB := Lib.hid hB
  have HAcc := Lib.hid hA
  have HG := Lib.hid hG
  have HLB : Hid (lb < W.heap.size) := Lib.hid (lt_of_heap hA.blk)
  have HCAP := Lib.hid hcap
  have HBW := Lib.hid hbW
  have HBB := Lib.hid hb
  clear hB hA hG hT hA1 hB1 hm hcap hth hl6 hd hbW hb
  go_enter Tryz.func142, Tryz.ntmps142
  go_wp2_with fail
  refine RD.out.mono ?_
  rintro e w3 ⟨q, rfl, HO⟩
  have N3 : Hid (RdN w0 w3 G q (nd 0 (A ++ B))) := Lib.hid (HO.out.rdN HB.out.up.size HB.out.room.lt)
  have HFN : Hid (∀ k, w3.heap.size ≤ k → W.heap.size ≤ k) := Lib.hid fun k hk => Nat.le_trans HO.out.below.size hk
  have FD3 := Lib.hid (FD.out w3 q N3.out)
  obtain ⟨vk, vv, vi, hv⟩ := N3.out.view
  have c0 : w3.cell? ⟨q, 0, none⟩ = some (.bool true) := cell_lit hv.blk rfl
  have HO2 := HO
  clear RD FD hv
  go_wp2_with fail
  refine FD3.out.mono ?_
  rintro e w4 ⟨rfl, qn, rfl⟩
  have HO4 : Hid (∃ F, IsNd (w3.drewN qn) F q (nd 0 (A ++ B)) ∧ ∀ k, F k → W.heap.size ≤ k) := Lib.hid (by
    obtain ⟨F, a, b, c⟩ := HO2.out
    exact ⟨F, a.below (drewN_below w3 qn) (Nat.le_refl _), b⟩)
  have A4 := Lib.hid ((HAcc.out.below HO2.out.below).below (drewN_below w3 qn))
  have BL4 : Hid (Below W.heap.size W (w3.drewN qn)) := Lib.hid (HO2.out.below.trans (Below.drewN (Below.refl _ _) qn))
  generalize w3.drewN qn = w4 at *
  clear FD3 N3 HO HO2 c0
  go_wp2_with fail
  go_loopg [18] B.length (fun gg s18 wr => ∃ (j : Nat), gg = B.length - j ∧ j ≤ B.length ∧ s18 = .int .i64 ((A.length + j : Nat) : Int) ∧ Hid (∃ Lj vj, sRun tt limit (B.take j) L = (Lj, true) ∧ Lj.length ≤ L.length + j ∧ Acc base wr lb Lj vj ∧ (∀ k, vj.ownBlock = some k → v.ownBlock = some k ∨ w4.heap.size ≤ k) ∧ Upd (fun k => k = lb ∨ v.ownBlock = some k) w4 wr))
  case atStart => exact ⟨0, rfl, Nat.zero_le _, rfl, Lib.hid ⟨L, v, by simp [sRun], Nat.le_refl _, A4.out, fun k e => .inl e, Upd.refl _ _⟩⟩
  case round =>
    obtain ⟨j, hgk, hj, rfl, HI⟩ := hrel
    obtain ⟨Lj, vj, hs, hll, ha, hn, hu⟩ := HI.out
    obtain ⟨F5, f1, f2⟩ := HO4.out
    have N5 : RdIn wr q (.leaf (A ++ B)) F5 := (f1.upd hu fun k hk e => by
      have := f2 k hk
      rcases e with e | e
      · have := HLB.out; omega
      · have := (HAcc.out.row.lt k e).2; omega).rdIn
    have HF5 : Hid (∀ k, F5 k → W.heap.size ≤ k ∧ k < w4.heap.size) := Lib.hid fun k hk => ⟨f2 k hk, f1.lt k hk⟩
    obtain ⟨g1, o1, c1, g2, o2, c2, k1, k2, hFF, kc⟩ := leaf_cells N5 hpos
    have HFF := Lib.hid hFF
    clear hFF f1 f2
    obtain ⟨la, lc, hvj⟩ : ∃ a c, vj = .slice a Lj.length c := by
      rcases ha.row.2 with ⟨rfl, h0⟩ | ⟨g, cap, cur, rfl, -⟩
      · exact ⟨none, 0, by rw [h0]⟩
      · exact ⟨_, _, rfl⟩
    subst hvj
    have m0 : wr.cell? ⟨lb, 0, none⟩ = some (.slice la Lj.length lc) := cell_lit ha.blk rfl
    have m1 : wr.frozen? ⟨lb, 0, none⟩ = false := frozen_lit ha.blk 0
    have hlbl := lt_of_heap ha.blk
    by_cases hjl : j < B.length
    · obtain ⟨kx, ky⟩ := kc (A.length + j) (by simp; omega)
      rw [List.getElem_append_right (by omega)] at kx ky
      simp only [Nat.add_sub_cancel_left] at kx ky
      have hlt : ((A.length + j : Nat) : Int) < (((A ++ B).length : Nat) : Int) := by simp; omega
      have hixb : A.length + j ≤ 65536 := by simp at hlab; omega
      obtain ⟨LN, hLN⟩ : ∃ LN, Lj.length = LN := ⟨_, rfl⟩
      obtain ⟨e, he⟩ : ∃ e, B[j] = e := ⟨_, rfl⟩
      have HE : Hid (B[j]? = some e) := Lib.hid (by rw [List.getElem?_eq_getElem hjl, he])
      rw [he] at kx ky
      rw [hLN] at m0
      have HLN := Lib.hid hLN
      have HJ := Lib.hid hj
      have HJL := Lib.hid hjl
      have HS := Lib.hid hs
      have HLL := Lib.hid hll
      have HA2 := Lib.hid ha
      have HN2 := Lib.hid hn
      have HU2 := Lib.hid hu
      have QC : Hid (∀ W5, Upd (fun k => k = lb ∨ (Value.slice la Lj.length lc).ownBlock = some k) wr W5 → W5.cell? ⟨q, 1, none⟩ = some (.slice (some ⟨g1, o1, none⟩) (A ++ B).length c1) ∧ W5.cell? ⟨q, 2, none⟩ = some (.slice (some ⟨g2, o2, none⟩) (A ++ B).length c2) ∧ W5.cell? ⟨g1, o1 + (A.length + j), none⟩ = some (.string e.1) ∧ W5.cell? ⟨g2, o2 + (A.length + j), none⟩ = some (.string e.2)) := Lib.hid fun W5 hU5 => by
        have nn : ∀ k, F5 k → k < wr.heap.size → W5.heap[k]? = wr.heap[k]? := fun k hk hlt => hU5.block k hlt fun e => by
          obtain ⟨h1, h2⟩ := HF5.out k hk
          rcases e with e | e
          · have := HLB.out; omega
          · rcases hn k e with e | e
            · have := (HAcc.out.row.lt k e).2; omega
            · omega
        exact ⟨(World.cell?_of_block (nn q HFF.out.1 (World.block_lt_of_cell? _ _ k1))).trans k1, (World.cell?_of_block (nn q HFF.out.1 (World.block_lt_of_cell? _ _ k2))).trans k2, (World.cell?_of_block (nn g1 HFF.out.2.1 (World.block_lt_of_cell? _ _ kx))).trans kx, (World.cell?_of_block (nn g2 HFF.out.2.2 (World.block_lt_of_cell? _ _ ky))).trans ky⟩
      have HGK := Lib.hid hgk
      clear kc
      obtain ⟨ix, hix⟩ : ∃ ix, A.length + j = ix := ⟨_, rfl⟩
      have HIX := Lib.hid hix
      rw [hix] at kx ky hlt hixb QC ⊢
      clear hix
      generalize (A ++ B).length = NN at *
      clear hj hjl hs hll ha hn hu N5 hgk he hLN HI hlab hpos
      have hb' : B = B.take j ++ e :: B.drop (j + 1) := by
        have h1 := HE.out
        obtain ⟨h2, h3⟩ := List.getElem?_eq_some_iff.1 h1
        rw [← h3]; exact (List.take_append_drop j B).symm.trans (by rw [List.drop_eq_getElem_cons h2])
      have HSTOP : Hid (LN = limit ∨ (tt.size ≠ 0 ∧ kless e.1 tt = false) → ScanEnd base W wr lb v frm tt limit (ents 0 (A ++ B)) L false) := Lib.hid fun hst => by
        refine ⟨Lj, ?_, (AccGo.below_left BL4.out ⟨⟨_, HA2.out, HN2.out⟩, HU2.out⟩)⟩
        rw [HF.out, hb', sRun_true HS.out, sRun_cons, if_pos (by rw [HLN.out]; exact hst)]
      have HGO : Hid (¬ (LN = limit ∨ (tt.size ≠ 0 ∧ kless e.1 tt = false)) → sRun tt limit (B.take (j + 1)) L = (Lj ++ [e], true)) := Lib.hid fun hst => by
        have h1 := HE.out
        obtain ⟨h2, h3⟩ := List.getElem?_eq_some_iff.1 h1
        rw [List.take_succ_eq_append_getElem h2, h3, sRun_true HS.out, sRun_cons, if_neg (by rw [HLN.out]; exact hst)]; rfl
      have hfew : LN + 1 ≤ 40000000 := by
        have h1 := HLL.out
        have h2 := HCAP.out
        have h3 : (ents 0 (A ++ B)).length = (A ++ B).length := rfl
        have h4 := HJL.out
        rw [HLN.out] at h1
        rw [h3, List.length_append] at h2; omega
      clear hb'
      have htl : tt.toList = [] ↔ tt.size = 0 := by rw [Lib.toList_data, Lib.size_eq]; exact List.length_eq_zero_iff.symm
      by_cases hst : LN = limit ∨ (tt.size ≠ 0 ∧ kless e.1 tt = false)
      · have HE2 := Lib.hid (HSTOP.out hst)
        have hc1 : LN = limit := by rcases hst with h | ⟨h, -⟩; exact h; exact absurd htt h
        have q1 : ((LN : Int) == (limit : Int)) = true := by simp; omega
        have q0 := htl.2 htt
        clear HSTOP HGO hfew htl
        go_wp2_with fail
        all_goals (go_ret; exact ⟨false, rfl, HE2⟩)
      · have HR := Lib.hid (HGO.out hst)
        have q1 : ((LN : Int) == (limit : Int)) = false := by simp; exact fun h => hst (.inl (by omega))
        have q0 := htl.2 htt
        obtain ⟨jP, hjP, hP0, hP1, hP2⟩ := info_parts infoP
        have hdr := (Below.refl wr.heap.size wr).drew
        have AD := Lib.hid (HA2.out.below hdr)
        have UD := Lib.hid (HU2.out.trans' (hdr.upd' (Nat.le_refl _)) fun _ _ e => False.elim e)
        have HBS : Hid (base ≤ wr.drew.heap.size) := Lib.hid (by
          have h1 := HU2.out.size; have h2 := BL4.out.size; have h3 := HBW.out
          show base ≤ wr.heap.size; omega)
        have d0 : wr.drew.cell? ⟨lb, 0, none⟩ = some (.slice la Lj.length lc) := by rw [← HLN.out] at m0; exact m0
        have dl : lb < wr.drew.heap.size := hlbl
        have HN5' : Hid (wr.drew.heap.size = wr.heap.size) := Lib.hid rfl
        have HFEW : Hid (Lj.length + 1 ≤ maxLen ∧ (Lj.length + 1) * 32 ≤ 140737488355328 ∧ Lj.length + 1 ≤ 40000000) := Lib.hid (by have := HLN.out; unfold maxLen; omega)
        clear HSTOP HGO htl hst hfew htt
        rw [← HLN.out] at m0 q1
        have w1 : IntKind.i64.wrap ((ix : Int) + 1) = (ix : Int) + 1 := wrap_small (by omega) (by omega)
        go_wp2_with fail
        all_goals (
          have AW := Lib.hid (HA2.out.below (((Below.refl wr.heap.size wr).alloc (Nat.le_refl _) (.cells #[.string e.1, .string e.2] 170)).drew))
          have hbW : Below wr.heap.size wr ((wr.alloc (.cells #[.string e.1, .string e.2] 170)).drew) := ((Below.refl wr.heap.size wr).alloc (Nat.le_refl _) _).drew
          go_region_law ((first
            | (refine step_append_y (by rfl) _ _ _ (by rfl) base 170 jP _ 2 32 Tryz.underlying166 hjP hP0 hP1 hP2 rfl (by decide) _ _ _ (by rfl) AW.out.row _ 1 _ (by rfl) (show Yields ((wr.alloc (.cells #[.string e.1, .string e.2] 170)).drew) (.slice (some ⟨wr.heap.size, 0, none⟩) 1 1) 1 [.string e.1, .string e.2] from yields_boxL wr #[.string e.1, .string e.2] 170 1 1) rfl (one2 _ _ rfl rfl) HFEW.out.1 HFEW.out.2.1 (by have := HBS.out; show base ≤ (wr.alloc _).heap.size; rw [World.size_alloc]; have := HN5'.out; omega) ?_
               intro v5 W5 ho5 hg5 ha5
               have PU := Lib.hid (acc_push (e := e) HA2.out (((Below.refl wr.heap.size wr).alloc (Nat.le_refl _) (.cells #[.string e.1, .string e.2] 170)).drew) ho5 hg5 ha5 HFEW.out.2.2)
               obtain ⟨xa, xm, xc, rfl⟩ : ∃ a b c, v5 = .slice a b c := by
                 rcases ho5.2 with ⟨rfl, _⟩ | ⟨g, cap, cur, rfl, _⟩
                 · exact ⟨_, _, _, rfl⟩
                 · exact ⟨_, _, _, rfl⟩
               have p0 := PU.out.1.1
               have p1 := PU.out.1.2
               clear ho5 hg5 ha5)))
          all_goals (
            go_wp2_with fail
            go_roundg (B.length - (j + 1))))
        all_goals (first
          | (case measure => have := HGK.out; have := HJL.out; omega)
          | (case rel =>
              refine ⟨j + 1, rfl, HJL.out, by have := HIX.out; congr 1; omega, Lib.hid ⟨Lj ++ [e], _, HR.out, by have := HLL.out; simp; omega, PU.out.2.1, fun k hk => ?_, HU2.out.trans' PU.out.2.2.2 fun k hk e => ?_⟩⟩
              · rcases PU.out.2.2.1 k hk with e | e
                · exact HN2.out k e
                · have := HU2.out.size; have := HN5'.out; exact .inr (by omega)
              · rcases e with e | e
                · exact .inl e
                · exact .inr ((HN2.out k e).resolve_right (by omega))))
    · obtain rfl : j = B.length := by omega
      rw [List.take_length] at hs
      have HE2 : Hid (ScanEnd base W wr lb v frm tt limit (ents 0 (A ++ B)) L true) := Lib.hid ⟨Lj, by rw [HF.out]; exact hs, AccGo.below_left BL4.out ⟨⟨_, ha, hn⟩, hu⟩⟩
      have hlt : ¬ ((A.length + B.length : Nat) : Int) < (((A ++ B).length : Nat) : Int) := by simp
      clear kc
      generalize (A ++ B).length = NN at *
      clear HI ha hn hu N5 hgk
      clear hs hll
      go_wp2_with fail
      go_ret
      first | exact ⟨true, rfl, HE2⟩ | exact .inr ⟨rfl, HE2⟩
end Go.Proofs.YtdcjhpafipbpkaaGreatDoor
namespace Go.Proofs.YtdcjhpafipbpkaaGreatDoor
set_option linter.unusedVariables false
set_option maxRecDepth 100000
set_option maxHeartbeats 20000000
open Go.RowKit
theorem geq_of {k tt : ByteArray} (h : kless k tt = false) : Op.bytesLess k.toList tt.toList = false ∧ (Op.bytesLess tt.toList k.toList = true ∨ (Op.bytesLess tt.toList k.toList = false ∧ (k.toList == tt.toList) = true ∧ (tt.toList == k.toList) = true ∧ (k.toList = tt.toList) = True ∧ (tt.toList = k.toList) = True)) := by
  refine ⟨h, ?_⟩
  cases g : kless tt k with
  | true => exact .inl g
  | false =>
    have e : tt = k := kless_total g h
    subst e
    exact .inr ⟨g, by simp⟩
theorem geq_no {k tt : ByteArray} (h : kless k tt = true) : Op.bytesLess k.toList tt.toList = true ∧ Op.bytesLess tt.toList k.toList = false ∧ (k.toList == tt.toList) = false ∧ (tt.toList == k.toList) = false ∧ (¬ k.toList = tt.toList ∧ ¬ tt.toList = k.toList) := by
  have h1 : kless tt k = false := kless_asymm h
  have h2 : k.toList ≠ tt.toList := fun e => by
    have : Op.bytesLess k.toList tt.toList = true := h
    rw [e] at this
    have h3 : kless tt tt = true := this
    rw [kless_irrefl] at h3; cases h3
  exact ⟨h, h1, by simpa using h2, by simpa using fun e => h2 e.symm, h2, fun e => h2 e.symm⟩
theorem scan_leaf2 (w0 W : World) (G : Nat → Prop) (tb rb place n m : Nat) (S : RS) (p : Nat) (t : PT 0) (frm tt : ByteArray) (limit lb deep base : Nat) (L : List (ByteArray × ByteArray)) (v : Value) (hB : TBase w0 W G G tb rb place n m S) (hA : Acc base W lb L v) (hl : w0.heap.size ≤ lb) (hb : w0.heap.size ≤ base) (hbW : base ≤ W.heap.size) (hG : ∀ k, G k → k < w0.heap.size) (hT : Tr S 0 p t) (hd : deep ≤ 20) (hm : m ≤ 3900000) (hcap : L.length + (ents 0 t).length ≤ 40000000) (hlim : limit ≤ 4611686018427387904) (htt : tt.size ≠ 0) :
    Calls Tryz.prog 142 #[.pointer (some ⟨tb, 0, none⟩), .int .i64 (p : Int), .string frm, .string tt, .int .i64 (limit : Int), .pointer (some ⟨lb, 0, none⟩), .int .i64 (deep : Int)] W fun e w' => ∃ ok, e = .returned (.bool ok) ∧ Hid (ScanEnd base W w' lb v frm tt limit (ents 0 t) L ok) := by
  have hnot : ∀ (x : Bool) (w : World), (Op.unary .not (.bool x)).run Tryz.prog w = .ok (.bool (!x)) w := fun _ _ => rfl
  have RD := Lib.hid (tail_read hB (by omega) hT.on hT.fit hT.ok)
  have hd1 : ¬ (20 : Int) < (deep : Int) := by omega
  obtain ⟨A, B, rfl, hA1, hB1, -⟩ := lb_split t frm hT.wf.srt
  have HF : Hid (from_ frm (ents 0 (A ++ B)) = B) := Lib.hid (by
    show from_ frm (A ++ B) = B
    rw [from_app, from_none hA1, from_all hB1, List.nil_append])
  have hpos : 0 < (A ++ B).length := by have := hT.pos; rw [nd_len0] at this; exact this
  have hl6 : (Nd.leaf (A ++ B)).len ≤ 1000000 := Nat.le_of_lt (Nat.lt_trans hT.ok.few (by decide))
  have hlab : (A ++ B).length ≤ 65536 := by have := hT.ok.few; rw [nd_len0] at this; exact Nat.le_of_lt this
  have HTH : ∃ there : Bool, there = true ↔ ∃ B', B.map Prod.fst = frm :: B' := by
    by_cases h : ∃ B', B.map Prod.fst = frm :: B'
    · exact ⟨true, ⟨fun _ => h, fun _ => rfl⟩⟩
    · exact ⟨false, ⟨(fun e => by cases e), fun e => absurd e h⟩⟩
  obtain ⟨there, hth⟩ := HTH
  have FD : Hid (∀ W' q, RdN w0 W' G q (nd 0 (A ++ B)) → Calls Tryz.prog 165 #[.pointer (some ⟨q, 0, none⟩), .string frm] W' fun e w' => e = .returned (.tuple #[.int .i64 (A.length : Nat), .bool there]) ∧ ∃ q, w' = W'.drewN q) := Lib.hid fun W' q hr => by
    obtain ⟨vk, vv, vi, hv⟩ := hr.view
    have := find_c there q (.leaf (A ++ B)) vk vv vi (A.map Prod.fst) (B.map Prod.fst) frm W' hv (by simp [Nd.keys]) hT.pos hl6 (fun a ha => by obtain ⟨e, he, rfl⟩ := List.mem_map.1 ha; exact hA1 e he) (fun b hb => by obtain ⟨e, he, rfl⟩ := List.mem_map.1 hb; exact hB1 e he) hth
    rw [List.length_map] at this; exact this
  have HB := Lib.hid hB
  have HAcc := Lib.hid hA
  have HG := Lib.hid hG
  have HLB : Hid (lb < W.heap.size) := Lib.hid (lt_of_heap hA.blk)
  have HCAP := Lib.hid hcap
  have HBW := Lib.hid hbW
  have HBB := Lib.hid hb
  clear hB hA hG hT hA1 hB1 hm hcap hth hl6 hd hbW hb
  go_enter Tryz.func142, Tryz.ntmps142
  go_wp2_with fail
  refine RD.out.mono ?_
  rintro e w3 ⟨q, rfl, HO⟩
  have N3 : Hid (RdN w0 w3 G q (nd 0 (A ++ B))) := Lib.hid (HO.out.rdN HB.out.up.size HB.out.room.lt)
  have HFN : Hid (∀ k, w3.heap.size ≤ k → W.heap.size ≤ k) := Lib.hid fun k hk => Nat.le_trans HO.out.below.size hk
  have FD3 := Lib.hid (FD.out w3 q N3.out)
  obtain ⟨vk, vv, vi, hv⟩ := N3.out.view
  have c0 : w3.cell? ⟨q, 0, none⟩ = some (.bool true) := cell_lit hv.blk rfl
  have HO2 := HO
  clear RD FD hv
  go_wp2_with fail
  refine FD3.out.mono ?_
  rintro e w4 ⟨rfl, qn, rfl⟩
  have HO4 : Hid (∃ F, IsNd (w3.drewN qn) F q (nd 0 (A ++ B)) ∧ ∀ k, F k → W.heap.size ≤ k) := Lib.hid (by
    obtain ⟨F, a, b, c⟩ := HO2.out
    exact ⟨F, a.below (drewN_below w3 qn) (Nat.le_refl _), b⟩)
  have A4 := Lib.hid ((HAcc.out.below HO2.out.below).below (drewN_below w3 qn))
  have BL4 : Hid (Below W.heap.size W (w3.drewN qn)) := Lib.hid (HO2.out.below.trans (Below.drewN (Below.refl _ _) qn))
  generalize w3.drewN qn = w4 at *
  clear FD3 N3 HO HO2 c0
  go_wp2_with fail
  go_loopg [18] B.length (fun gg s18 wr => ∃ (j : Nat), gg = B.length - j ∧ j ≤ B.length ∧ s18 = .int .i64 ((A.length + j : Nat) : Int) ∧ Hid (∃ Lj vj, sRun tt limit (B.take j) L = (Lj, true) ∧ Lj.length ≤ L.length + j ∧ Acc base wr lb Lj vj ∧ (∀ k, vj.ownBlock = some k → v.ownBlock = some k ∨ w4.heap.size ≤ k) ∧ Upd (fun k => k = lb ∨ v.ownBlock = some k) w4 wr))
  case atStart => exact ⟨0, rfl, Nat.zero_le _, rfl, Lib.hid ⟨L, v, by simp [sRun], Nat.le_refl _, A4.out, fun k e => .inl e, Upd.refl _ _⟩⟩
  case round =>
    obtain ⟨j, hgk, hj, rfl, HI⟩ := hrel
    obtain ⟨Lj, vj, hs, hll, ha, hn, hu⟩ := HI.out
    obtain ⟨F5, f1, f2⟩ := HO4.out
    have N5 : RdIn wr q (.leaf (A ++ B)) F5 := (f1.upd hu fun k hk e => by
      have := f2 k hk
      rcases e with e | e
      · have := HLB.out; omega
      · have := (HAcc.out.row.lt k e).2; omega).rdIn
    have HF5 : Hid (∀ k, F5 k → W.heap.size ≤ k ∧ k < w4.heap.size) := Lib.hid fun k hk => ⟨f2 k hk, f1.lt k hk⟩
    obtain ⟨g1, o1, c1, g2, o2, c2, k1, k2, hFF, kc⟩ := leaf_cells N5 hpos
    have HFF := Lib.hid hFF
    clear hFF f1 f2
    obtain ⟨la, lc, hvj⟩ : ∃ a c, vj = .slice a Lj.length c := by
      rcases ha.row.2 with ⟨rfl, h0⟩ | ⟨g, cap, cur, rfl, -⟩
      · exact ⟨none, 0, by rw [h0]⟩
      · exact ⟨_, _, rfl⟩
    subst hvj
    have m0 : wr.cell? ⟨lb, 0, none⟩ = some (.slice la Lj.length lc) := cell_lit ha.blk rfl
    have m1 : wr.frozen? ⟨lb, 0, none⟩ = false := frozen_lit ha.blk 0
    have hlbl := lt_of_heap ha.blk
    by_cases hjl : j < B.length
    · obtain ⟨kx, ky⟩ := kc (A.length + j) (by simp; omega)
      rw [List.getElem_append_right (by omega)] at kx ky
      simp only [Nat.add_sub_cancel_left] at kx ky
      have hlt : ((A.length + j : Nat) : Int) < (((A ++ B).length : Nat) : Int) := by simp; omega
      have hixb : A.length + j ≤ 65536 := by simp at hlab; omega
      obtain ⟨LN, hLN⟩ : ∃ LN, Lj.length = LN := ⟨_, rfl⟩
      obtain ⟨e, he⟩ : ∃ e, B[j] = e := ⟨_, rfl⟩
      have HE : Hid (B[j]? = some e) := Lib.hid (by rw [List.getElem?_eq_getElem hjl, he])
      rw [he] at kx ky
      rw [hLN] at m0
      have HLN := Lib.hid hLN
      have HJ := Lib.hid hj
      have HJL := Lib.hid hjl
      have HS := Lib.hid hs
      have HLL := Lib.hid hll
      have HA2 := Lib.hid ha
      have HN2 := Lib.hid hn
      have HU2 := Lib.hid hu
      have QC : Hid (∀ W5, Upd (fun k => k = lb ∨ (Value.slice la Lj.length lc).ownBlock = some k) wr W5 → W5.cell? ⟨q, 1, none⟩ = some (.slice (some ⟨g1, o1, none⟩) (A ++ B).length c1) ∧ W5.cell? ⟨q, 2, none⟩ = some (.slice (some ⟨g2, o2, none⟩) (A ++ B).length c2) ∧ W5.cell? ⟨g1, o1 + (A.length + j), none⟩ = some (.string e.1) ∧ W5.cell? ⟨g2, o2 + (A.length + j), none⟩ = some (.string e.2)) := Lib.hid fun W5 hU5 => by
        have nn : ∀ k, F5 k → k < wr.heap.size → W5.heap[k]? = wr.heap[k]? := fun k hk hlt => hU5.block k hlt fun e => by
          obtain ⟨h1, h2⟩ := HF5.out k hk
          rcases e with e | e
          · have := HLB.out; omega
          · rcases hn k e with e | e
            · have := (HAcc.out.row.lt k e).2; omega
            · omega
        exact ⟨(World.cell?_of_block (nn q HFF.out.1 (World.block_lt_of_cell? _ _ k1))).trans k1, (World.cell?_of_block (nn q HFF.out.1 (World.block_lt_of_cell? _ _ k2))).trans k2, (World.cell?_of_block (nn g1 HFF.out.2.1 (World.block_lt_of_cell? _ _ kx))).trans kx, (World.cell?_of_block (nn g2 HFF.out.2.2 (World.block_lt_of_cell? _ _ ky))).trans ky⟩
      have HGK := Lib.hid hgk
      clear kc
      obtain ⟨ix, hix⟩ : ∃ ix, A.length + j = ix := ⟨_, rfl⟩
      have HIX := Lib.hid hix
      rw [hix] at kx ky hlt hixb QC ⊢
      clear hix
      generalize (A ++ B).length = NN at *
      clear hj hjl hs hll ha hn hu N5 hgk he hLN HI hlab hpos
      have hb' : B = B.take j ++ e :: B.drop (j + 1) := by
        have h1 := HE.out
        obtain ⟨h2, h3⟩ := List.getElem?_eq_some_iff.1 h1
        rw [← h3]; exact (List.take_append_drop j B).symm.trans (by rw [List.drop_eq_getElem_cons h2])
      have HSTOP : Hid (LN = limit ∨ (tt.size ≠ 0 ∧ kless e.1 tt = false) → ScanEnd base W wr lb v frm tt limit (ents 0 (A ++ B)) L false) := Lib.hid fun hst => by
        refine ⟨Lj, ?_, (AccGo.below_left BL4.out ⟨⟨_, HA2.out, HN2.out⟩, HU2.out⟩)⟩
        rw [HF.out, hb', sRun_true HS.out, sRun_cons, if_pos (by rw [HLN.out]; exact hst)]
      have HGO : Hid (¬ (LN = limit ∨ (tt.size ≠ 0 ∧ kless e.1 tt = false)) → sRun tt limit (B.take (j + 1)) L = (Lj ++ [e], true)) := Lib.hid fun hst => by
        have h1 := HE.out
        obtain ⟨h2, h3⟩ := List.getElem?_eq_some_iff.1 h1
        rw [List.take_succ_eq_append_getElem h2, h3, sRun_true HS.out, sRun_cons, if_neg (by rw [HLN.out]; exact hst)]; rfl
      have hfew : LN + 1 ≤ 40000000 := by
        have h1 := HLL.out
        have h2 := HCAP.out
        have h3 : (ents 0 (A ++ B)).length = (A ++ B).length := rfl
        have h4 := HJL.out
        rw [HLN.out] at h1
        rw [h3, List.length_append] at h2; omega
      clear hb'
      have htl : tt.toList = [] ↔ tt.size = 0 := by rw [Lib.toList_data, Lib.size_eq]; exact List.length_eq_zero_iff.symm
      by_cases hst : LN = limit ∨ (tt.size ≠ 0 ∧ kless e.1 tt = false)
      · have HE2 := Lib.hid (HSTOP.out hst)
        by_cases hc1 : LN = limit
        · have q1 : ((LN : Int) == (limit : Int)) = true := by simp; omega
          clear HSTOP HGO hfew htl hst htt
          go_wp2_with fail
          all_goals (go_ret; exact ⟨false, rfl, HE2⟩)
        · have hc2 : kless e.1 tt = false := by rcases hst with h | ⟨-, h⟩; exact absurd h hc1; exact h
          have q1 : ((LN : Int) == (limit : Int)) = false := by simp; omega
          have q0 : tt.toList.isEmpty = false := by cases h : tt.toList with | nil => exact absurd (htl.1 h) htt | cons a r => rfl
          obtain ⟨r1, r2⟩ := geq_of hc2
          clear HSTOP HGO hfew htl hst htt hc1 hc2
          rcases r2 with r2 | ⟨r2, r3, r4, r5, r6⟩
          · go_wp2_with fail
            all_goals (go_ret; exact ⟨false, rfl, HE2⟩)
          · go_wp2_with fail
            all_goals (go_ret; exact ⟨false, rfl, HE2⟩)
      · have HR := Lib.hid (HGO.out hst)
        have q1 : ((LN : Int) == (limit : Int)) = false := by simp; exact fun h => hst (.inl (by omega))
        have q0 : tt.toList.isEmpty = false := by cases h : tt.toList with | nil => exact absurd (htl.1 h) htt | cons a r => rfl
        have hc2 : kless e.1 tt = true := by
          cases h : kless e.1 tt with
          | true => rfl
          | false => exact absurd (.inr ⟨htt, h⟩) hst
        obtain ⟨r1, r2, r3, r4, r5⟩ := geq_no hc2
        obtain ⟨jP, hjP, hP0, hP1, hP2⟩ := info_parts infoP
        have hdr := (Below.refl wr.heap.size wr).drew
        have AD := Lib.hid (HA2.out.below hdr)
        have UD := Lib.hid (HU2.out.trans' (hdr.upd' (Nat.le_refl _)) fun _ _ e => False.elim e)
        have HBS : Hid (base ≤ wr.drew.heap.size) := Lib.hid (by
          have h1 := HU2.out.size; have h2 := BL4.out.size; have h3 := HBW.out
          show base ≤ wr.heap.size; omega)
        have d0 : wr.drew.cell? ⟨lb, 0, none⟩ = some (.slice la Lj.length lc) := by rw [← HLN.out] at m0; exact m0
        have dl : lb < wr.drew.heap.size := hlbl
        have HN5' : Hid (wr.drew.heap.size = wr.heap.size) := Lib.hid rfl
        have HFEW : Hid (Lj.length + 1 ≤ maxLen ∧ (Lj.length + 1) * 32 ≤ 140737488355328 ∧ Lj.length + 1 ≤ 40000000) := Lib.hid (by have := HLN.out; unfold maxLen; omega)
        clear HSTOP HGO htl hst hfew htt hc2
        rw [← HLN.out] at m0 q1
        have w1 : IntKind.i64.wrap ((ix : Int) + 1) = (ix : Int) + 1 := wrap_small (by omega) (by omega)
        go_wp2_with fail
        all_goals (
          have AW := Lib.hid (HA2.out.below (((Below.refl wr.heap.size wr).alloc (Nat.le_refl _) (.cells #[.string e.1, .string e.2] 170)).drew))
          have hbW : Below wr.heap.size wr ((wr.alloc (.cells #[.string e.1, .string e.2] 170)).drew) := ((Below.refl wr.heap.size wr).alloc (Nat.le_refl _) _).drew
          go_region_law ((first
            | (refine step_append_y (by rfl) _ _ _ (by rfl) base 170 jP _ 2 32 Tryz.underlying166 hjP hP0 hP1 hP2 rfl (by decide) _ _ _ (by rfl) AW.out.row _ 1 _ (by rfl) (show Yields ((wr.alloc (.cells #[.string e.1, .string e.2] 170)).drew) (.slice (some ⟨wr.heap.size, 0, none⟩) 1 1) 1 [.string e.1, .string e.2] from yields_boxL wr #[.string e.1, .string e.2] 170 1 1) rfl (one2 _ _ rfl rfl) HFEW.out.1 HFEW.out.2.1 (by have := HBS.out; show base ≤ (wr.alloc _).heap.size; rw [World.size_alloc]; have := HN5'.out; omega) ?_
               intro v5 W5 ho5 hg5 ha5
               have PU := Lib.hid (acc_push (e := e) HA2.out (((Below.refl wr.heap.size wr).alloc (Nat.le_refl _) (.cells #[.string e.1, .string e.2] 170)).drew) ho5 hg5 ha5 HFEW.out.2.2)
               obtain ⟨xa, xm, xc, rfl⟩ : ∃ a b c, v5 = .slice a b c := by
                 rcases ho5.2 with ⟨rfl, _⟩ | ⟨g, cap, cur, rfl, _⟩
                 · exact ⟨_, _, _, rfl⟩
                 · exact ⟨_, _, _, rfl⟩
               have p0 := PU.out.1.1
               have p1 := PU.out.1.2
               clear ho5 hg5 ha5)))
          all_goals (
            go_wp2_with fail
            go_roundg (B.length - (j + 1))))
        all_goals (first
          | (case measure => have := HGK.out; have := HJL.out; omega)
          | (case rel =>
              refine ⟨j + 1, rfl, HJL.out, by have := HIX.out; congr 1; omega, Lib.hid ⟨Lj ++ [e], _, HR.out, by have := HLL.out; simp; omega, PU.out.2.1, fun k hk => ?_, HU2.out.trans' PU.out.2.2.2 fun k hk e => ?_⟩⟩
              · rcases PU.out.2.2.1 k hk with e | e
                · exact HN2.out k e
                · have := HU2.out.size; have := HN5'.out; exact .inr (by omega)
              · rcases e with e | e
                · exact .inl e
                · exact .inr ((HN2.out k e).resolve_right (by omega))))
    · obtain rfl : j = B.length := by omega
      rw [List.take_length] at hs
      have HE2 : Hid (ScanEnd base W wr lb v frm tt limit (ents 0 (A ++ B)) L true) := Lib.hid ⟨Lj, by rw [HF.out]; exact hs, AccGo.below_left BL4.out ⟨⟨_, ha, hn⟩, hu⟩⟩
      have hlt : ¬ ((A.length + B.length : Nat) : Int) < (((A ++ B).length : Nat) : Int) := by simp
      clear kc
      generalize (A ++ B).length = NN at *
      clear HI ha hn hu N5 hgk
      clear hs hll
      go_wp2_with fail
      go_ret
      first | exact ⟨true, rfl, HE2⟩ | exact .inr ⟨rfl, HE2⟩
end Go.Proofs.YtdcjhpafipbpkaaGreatDoor
