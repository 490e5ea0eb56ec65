/- Parts of the proof of ChunksRuns,joined: RfsD,RfsE,RfsF,RfsG,RfsH. No condition. -/
import Derived.Test.YtdcjhpafipbpkaaGreatDoorCx16
set_option linter.unusedSimpArgs false
set_option linter.unusedVariables false
set_option linter.unusedSectionVars false
namespace Go.Proofs.YtdcjhpafipbpkaaGreatDoor
set_option maxRecDepth 100000
set_option maxHeartbeats 8000000
open Go.RowKit
def insK (C:List RCk) (c:RCk) (k:Nat):List RCk:=if doneR (C.take k) c then insR (C.take k) c else C.take k
theorem insK_yes {C:List RCk} {c:RCk} {k:Nat} (h:k < C.length) (hd:doneR (C.take k) c=true):insK C c (k + 1)=insK C c k ++ [C[k]] /\ doneR (C.take (k + 1)) c=true:=by
 have h2:doneR (C.take (k + 1)) c=true:=by rw [List.take_succ_eq_append_getElem h,done_snoc,hd]; rfl
 refine ⟨?_,h2⟩
 unfold insK
 rw [if_pos h2,if_pos hd,List.take_succ_eq_append_getElem h,ins_done hd]
theorem insK_new {C:List RCk} {c:RCk} {k:Nat} (h:k < C.length) (hd:doneR (C.take k) c=false) (hl:kless c.1 C[k].1=true):insK C c (k + 1)=insK C c k ++ [c] ++ [C[k]] /\ doneR (C.take (k + 1)) c=true:=by
 have h2:doneR (C.take (k + 1)) c=true:=by rw [List.take_succ_eq_append_getElem h,done_snoc,hd,hl]; rfl
 refine ⟨?_,h2⟩
 unfold insK
 rw [if_pos h2,if_neg (by rw [hd]; simp),List.take_succ_eq_append_getElem h,ins_first hd hl]
 simp
theorem insK_no {C:List RCk} {c:RCk} {k:Nat} (h:k < C.length) (hd:doneR (C.take k) c=false) (hl:kless c.1 C[k].1=false):insK C c (k + 1)=insK C c k ++ [C[k]] /\ doneR (C.take (k + 1)) c=false:=by
 have h2:doneR (C.take (k + 1)) c=false:=by rw [List.take_succ_eq_append_getElem h,done_snoc,hd,hl]; rfl
 refine ⟨?_,h2⟩
 unfold insK
 rw [if_neg (by rw [h2]; simp),if_neg (by rw [hd]; simp),List.take_succ_eq_append_getElem h]
theorem insK_len (C:List RCk) (c:RCk) (k:Nat):(insK C c k).length <= k + 1:=by
 unfold insK
 split
 ·rw [ins_len,List.length_take]; omega
 ·rw [List.length_take]; omega
theorem insK_end {C:List RCk} {c:RCk}:(doneR (C.take C.length) c=true -> insK C c C.length=insR C c) /\ (doneR (C.take C.length) c=false -> insK C c C.length ++ [c]=insR C c):=by
 unfold insK
 rw [List.take_length]
 exact ⟨fun h=>by rw [if_pos h],fun h=>by rw [if_neg (by rw [h]; simp),ins_not h]⟩
structure InsAt (w:World) (va vl:Value) (B:Nat) (C:List RCk) (v:Value) (l:List RCk) (wr:World):Prop where
 row:wr.ownsRow B 175 3 v l.length (ckC l)
 box:BoxW w va vl wr
 lo:w.heap.size + 2 <= B /\ B <= wr.heap.size
theorem InsAt.snoc {w wr W5:World} {va vl v v5:Value} {B:Nat} {C l:List RCk} {c:RCk} (h:InsAt w va vl B C v l wr) (o:Obj) (hg:(wr.alloc o).grownBy W5 v.ownBlock) (h5:W5.ownsRow B 175 3 v5 (l.length + 1) (ckC l ++ [.string c.1,.string c.2.1,.int .i64 c.2.2])):InsAt w va vl B C v5 (l ++ [c]) W5:=by
 have hb:=h.box.below ((Below.refl _ _).alloc (Nat.le_refl _) o)
 refine ⟨by rw [List.length_append,List.length_singleton,ckC_snoc]; exact h5,hb.grown hg fun j e=>Nat.le_trans h.lo.1 (h.row.lt j e).1,h.lo.1,?_⟩
 have h1:=hg.size
 have h2:=h.lo.2
 rw [World.size_alloc] at h1
 omega
theorem ckC_one (l:List RCk):∀ u ∈ ckC l,u.oneCell'=true:=by
 intro u hu
 obtain ⟨x,-,hx⟩:=List.mem_flatMap.1 hu
 simp only [List.mem_cons,List.not_mem_nil,or_false] at hx
 rcases hx with rfl | rfl | rfl <;> rfl
theorem StR.put5 {w W:World} {vl:Value} {C:List RCk} {L:List REn} {g5 c5:Nat} {x y X:Value} (hl:RdRow (((W.setCell ⟨w.heap.size,0,none⟩ X).setCell ⟨w.heap.size + 1,0,none⟩ x).setCell ⟨w.heap.size + 1,1,none⟩ y) vl L.length 2 (enC L)) (ha:RdRow W (.slice (some ⟨g5,0,none⟩) C.length c5) C.length 3 (ckC C)) (hg:w.heap.size + 2 <= g5) :
 StR (((W.setCell ⟨w.heap.size,0,none⟩ X).setCell ⟨w.heap.size + 1,0,none⟩ x).setCell ⟨w.heap.size + 1,1,none⟩ y) (.agg #[.slice (some ⟨g5,0,none⟩) C.length c5,vl]) C L :=
 ⟨_,_,rfl,((ha.setNe (by omega) _).setNe (by omega) _).setNe (by omega) _,hl⟩
theorem putR_new' {C:List RCk} {t:ByteArray} {k:Nat} (h1:1 <= t.size) (h2:t.size <= 128) (hno:∀ j,j < 256 -> hitR C (prB t) t j=false) (hk:k < 256) (hf:freeR C (prB t) k=true) (hb:∀ j,j < k -> freeR C (prB t) j=false):putR C t=(insR C (nameB (prB t) k,t,0),nameB (prB t) k,true,0):=by
 unfold putR
 rw [if_neg (by omega),range_none hno,range_first hk hf hb]
theorem putR_hit' {C:List RCk} {t:ByteArray} {k:Nat} (h1:1 <= t.size) (h2:t.size <= 128) (hno:∀ j,j < k -> hitR C (prB t) t j=false) (hk:k < 256) (hf:hitR C (prB t) t k=true):putR C t=(C,nameB (prB t) k,false,0):=by
 unfold putR
 rw [if_neg (by omega),range_first hk hf hno]
theorem putR_full {C:List RCk} {t:ByteArray} (h1:1 <= t.size) (h2:t.size <= 128) (hno:∀ j,j < 256 -> hitR C (prB t) t j=false) (hb:∀ j,j < 256 -> freeR C (prB t) j=false):putR C t=(C,⟨#[]⟩,false,4):=by
 unfold putR
 rw [if_neg (by omega),range_none hno,range_none hb]
theorem Put_rc (v:Value) (C:List RCk) (L:List REn) (t:ByteArray) (w:World) (h:StR w v C L) (hC:C.length <= 100000) (ht1:1 <= t.size) (ht2:t.size <= 128) :
 Calls Tryz.prog 97 #[v,.string t] w fun e w'=>∃ v',e=.returned (.tuple #[v',.string (putR C t).2.1,.bool (putR C t).2.2.1,.int .i64 (putR C t).2.2.2]) /\ Hid ((StR w' v' (putR C t).1 L /\ Below w.heap.size w w') /\ ∀ D,StLoc D v -> StLoc (fun b=>D b \/ w.heap.size <= b) v'):=by
 obtain ⟨jC,hjC,hC0,hC1,hC2⟩:=info_parts infoCk
 have HST:=Hd h
 obtain ⟨va,vl,rfl,h2,h3⟩:=h
 obtain ⟨aA,cA,rfl,-⟩:=h2.form
 obtain ⟨aL,cL,rfl,-⟩:=h3.form
 have B0:=BoxW.start w (.slice aA C.length cA) (.slice aL L.length cL)
 obtain ⟨wb,hwb⟩:=exE ((w.alloc (.cells #[.slice aA C.length cA,.slice aL L.length cL] 52)).alloc (.cells #[.slice none 0 0,.slice none 0 0] 52))
 rw [hwb] at B0
 have HB0:=Hd B0
 have PR:=fun W=>RefPrint_c t W (by omega)
 obtain ⟨p,hp⟩:=exE (prB t)
 have HPP:=Hd hp
 have hps:p.size=32:=by rw [<- hp,prB_size]
 have HV:Hid (RdRow w (.slice aA C.length cA) C.length 3 (ckC C)):=Hd h2
 have HVL:Hid (RdRow w (.slice aL L.length cL) L.length 2 (enC L)):=Hd h3
 have HCL:=Hd hC
 have HT:=Hd (And.intro ht1 ht2)
 have d0:decide ((t.size:Int) < 1)=false:=decide_eq_false (by omega)
 have d1:decide ((t.size:Int) > 128)=false:=decide_eq_false (by omega)
 rw [hp] at PR
 have AT:Hid (∀ nm W,BoxW w (.slice aA C.length cA) (.slice aL L.length cL) W -> Calls Tryz.prog 102 #[.agg #[.slice aA C.length cA,.slice aL L.length cL],.string nm] W fun e w'=>e=.returned (.int .i64 (ixR C nm)) /\ Hid (Below W.heap.size W w')):=Hd fun nm W hW =>
  At_rc (.agg #[.slice aA C.length cA,.slice aL L.length cL]) C L nm W (HST.out.below hW.bel) (by omega)
 clear B0 h2 h3 hp hC ht1 ht2
 go_enter Tryz.func97,Tryz.ntmps97
 go_wp2_with fail
 refine (PR _).mono ?_
 rintro e w2 ⟨rfl,H2⟩
 have R1:Hid ((∀ j,j < 0 -> hitR C p t j=false) /\ BoxW w (.slice aA C.length cA) (.slice aL L.length cL) w2):=Hd ⟨fun j hj=>absurd hj (by omega),HB0.out.below H2.out⟩
 clear PR H2 hwb d0 d1 HB0
 go_wp2_with fail
 go_loopg [9] 256 (fun g s9 wr=>∃ (k:Nat),g=256 - k /\ k <= 256 /\ s9=.int .i64 (k:Int) /\ Hid ((∀ j,j < k -> hitR C p t j=false) /\ BoxW w (.slice aA C.length cA) (.slice aL L.length cL) wr))
 case atStart=>exact ⟨0,rfl,Nat.zero_le _,rfl,R1⟩
 case round =>
  obtain ⟨k,rfl,hk,rfl,HI⟩:=hrel
  clear R1
  by_cases hlt:k < 256
  ·-- part 1 begins
   have k0:IntKind.u8.wrap (k:Int)=(k:Int):=by
    simp [IntKind.wrap,IntKind.bits,IntKind.signed]; omega
   have cv:=conv_k k hlt (wr.alloc (.cells #[.int .u8 (k:Int)] 5)) wr.heap.size (cell_lit (heap_alloc_new _ _) rfl)
   obtain ⟨X,hX⟩:∃ X:ByteArray,(⟨#[UInt8.ofNat k]⟩:ByteArray)=X:=⟨_,rfl⟩
   have hxs:X.size=1:=by rw [<- hX]; rfl
   have hb1:(p.size + X.size > 9223372036854775807)=False:=by simp; omega
   have hb2:¬ (9223372036854775807 < p.size + X.size):=by omega
   obtain ⟨nm,hnm⟩:=exE (p ++ X)
   have HNM:Hid (nm=nameB p k):=Hd (by rw [<- hnm,<- hX]; rfl)
   rw [hX] at cv
   have HB2:=Hd (HI.out.2.below ((Below.refl _ _).alloc (Nat.le_refl _) (.cells #[.int .u8 (k:Int)] 5)))
   have A2:=AT.out nm _ HB2.out
   obtain ⟨x0,x1,x2,x3,x4⟩:=HI.out.2.cells
   obtain ⟨y0,y1,y2,y3,y4⟩:=HB2.out.cells
   clear hX hxs
   have HLT:=Hd hlt
   cases hf:fndR C nm with
   | none =>
     rw [(ixR_none hf).1] at A2
     have HNX:Hid (∀ j,j < k + 1 -> hitR C p t j=false):=Hd fun j hj=>by
      by_cases e:j=k
      ·subst e; unfold hitR; rw [<- HNM.out,hf]
      ·exact HI.out.1 j (by omega)
     clear hf HI
     go_wp2_with fail
     refine A2.mono ?_
     rintro e w3 ⟨rfl,H3⟩
     have HB3:=Hd (HB2.out.below H3.out)
     clear A2 H3 HB2 cv x0 x1 x2 x3 x4 y0 y1 y2 y3 y4 hlt hk
     obtain ⟨x0,x1,x2,x3,x4⟩:=HB3.out.cells
     go_wp2_with fail
     go_roundg (256 - (k + 1))
     case measure=>have:=HLT.out; omega
     case rel=>exact ⟨k + 1,rfl,HLT.out,by congr 1,Hd ⟨HNX.out,HB3.out⟩⟩
   | some c =>
     obtain ⟨i,hi,hc,hx,-⟩:=ixR_some hf
     rw [hx] at A2
     obtain ⟨-,c1,-⟩:=ckC_get hi
     obtain ⟨b,off,rfl,hb,hcell⟩:=HV.out.get c1
     have ck:=hcell _ _ c1
     rw [hc] at ck
     have HCK:Hid (∀ W,Below w.heap.size w W -> W.cell? ⟨b,off + i * 3 + 1,none⟩=some (.string c.2.1)):=Hd fun W hW=>(hW.cell (p:=⟨b,off + i * 3 + 1,none⟩) hb).trans ck
     have hi0:decide ((i:Int) >= 0)=true:=decide_eq_true (by omega)
     have hcl:C.length <= 100000:=HCL.out
     by_cases he:c.2.1=t
     ·have HE:=Hd (show putR C t=(C,nm,false,0) by
       have hh:hitR C (prB t) t k=true:=by rw [HPP.out]; unfold hitR; rw [<- HNM.out,hf]; simp [he]
       rw [HNM.out,<- HPP.out]
       exact putR_hit' HT.out.1 HT.out.2 (by rw [HPP.out]; exact HI.out.1) hlt hh)
      have heq:(c.2.1.toList == t.toList)=true:=by rw [he]; simp
      clear hf hx hc c1 hcell ck hb he HI
      generalize c.2.1=ct at *
      go_wp2_with fail
      refine A2.mono ?_
      rintro e w3 ⟨rfl,H3⟩
      have HB3:=Hd (HB2.out.below H3.out)
      clear A2 H3 HB2 cv x0 x1 x2 x3 x4 y0 y1 y2 y3 y4 hlt hk
      obtain ⟨x0,x1,x2,x3,x4⟩:=HB3.out.cells
      obtain ⟨r0,r1,r2,r3,r4⟩:=HB3.out.res
      obtain ⟨o1,o2,o3,o4,o5⟩:=HB3.out.out (.slice (some ⟨b,off,none⟩) C.length cA) (.slice aL L.length cL)
      have cc:=HCK.out _ HB3.out.bel
      have HG:=Hd (And.intro (And.intro (HST.out.below o5) o5) (fun D (hD:StLoc D (.agg #[.slice (some ⟨b,off,none⟩) C.length cA,.slice aL L.length cL]))=>hD.mono (D':=fun b=>D b \/ w.heap.size <= b) fun b hb=>Or.inl hb))
      clear o5 HCK
      go_wp2_with fail
      (try simp only [Exit.inBlock,Exit.then])
      refine bodyPost_ret (v:=.tuple #[.agg #[.slice (some ⟨b,off,none⟩) C.length cA,.slice aL L.length cL],.string nm,.bool false,.int .i64 0]) ?_ rfl ⟨_,by rw [HE.out],by rw [HE.out]; exact HG⟩
      rw [results_cell_tmp3 rfl]
      go_simp
     ·have HNX:Hid (∀ j,j < k + 1 -> hitR C p t j=false):=Hd fun j hj=>by
       by_cases e:j=k
       ·subst e; unfold hitR; rw [<- HNM.out,hf]; simp [he]
       ·exact HI.out.1 j (by omega)
      have heq:=ba_neR he
      clear hf hx hc c1 hcell ck hb he HI
      generalize c.2.1=ct at *
      go_wp2_with fail
      refine A2.mono ?_
      rintro e w3 ⟨rfl,H3⟩
      have HB3:=Hd (HB2.out.below H3.out)
      clear A2 H3 HB2 cv x0 x1 x2 x3 x4 y0 y1 y2 y3 y4 hlt hk
      obtain ⟨x0,x1,x2,x3,x4⟩:=HB3.out.cells
      have cc:=HCK.out _ HB3.out.bel
      clear HCK
      go_wp2_with fail
      go_roundg (256 - (k + 1))
      case measure=>have:=HLT.out; omega
      case rel=>exact ⟨k + 1,rfl,HLT.out,by congr 1,Hd ⟨HNX.out,HB3.out⟩⟩
   -- part 1 ends
  ·obtain rfl:k=256:=by omega
   have HNH:=Hd HI.out.1
   have R2:Hid ((∀ j,j < 0 -> freeR C p j=false) /\ BoxW w (.slice aA C.length cA) (.slice aL L.length cL) wr):=Hd ⟨fun j hj=>absurd hj (by omega),HI.out.2⟩
   clear HI hlt hk
   go_wp2_with fail
   go_loopg [12] 256 (fun g s12 wr=>∃ (k:Nat),g=256 - k /\ k <= 256 /\ s12=.int .i64 (k:Int) /\ Hid ((∀ j,j < k -> freeR C p j=false) /\ BoxW w (.slice aA C.length cA) (.slice aL L.length cL) wr))
   case atStart=>exact ⟨0,rfl,Nat.zero_le _,rfl,R2⟩
   case round =>
    obtain ⟨k,rfl,hk,rfl,HI⟩:=hrel
    clear R2
    by_cases hlt:k < 256
    ·have HLT:=Hd hlt
     have k0:IntKind.u8.wrap (k:Int)=(k:Int):=by
      simp [IntKind.wrap,IntKind.bits,IntKind.signed]; omega
     have cv:=conv_k k hlt (wr.alloc (.cells #[.int .u8 (k:Int)] 5)) wr.heap.size (cell_lit (heap_alloc_new _ _) rfl)
     obtain ⟨X,hX⟩:∃ X:ByteArray,(⟨#[UInt8.ofNat k]⟩:ByteArray)=X:=⟨_,rfl⟩
     have hxs:X.size=1:=by rw [<- hX]; rfl
     have hb1:(p.size + X.size > 9223372036854775807)=False:=by simp; omega
     have hb2:¬ (9223372036854775807 < p.size + X.size):=by omega
     obtain ⟨nm,hnm⟩:=exE (p ++ X)
     have HNM:Hid (nm=nameB p k):=Hd (by rw [<- hnm,<- hX]; rfl)
     rw [hX] at cv
     have HB2:=Hd (HI.out.2.below ((Below.refl _ _).alloc (Nat.le_refl _) (.cells #[.int .u8 (k:Int)] 5)))
     have A2:=AT.out nm _ HB2.out
     obtain ⟨x0,x1,x2,x3,x4⟩:=HI.out.2.cells
     obtain ⟨y0,y1,y2,y3,y4⟩:=HB2.out.cells
     clear hX hxs
     cases hf:fndR C nm with
     | some c =>
       -- part 2 begins
       obtain ⟨i,hi,hc,hx,-⟩:=ixR_some hf
       rw [hx] at A2
       have hi0:decide ((i:Int) >= 0)=true:=decide_eq_true (by omega)
       have HNX:Hid (∀ j,j < k + 1 -> freeR C p j=false):=Hd fun j hj=>by
        by_cases e:j=k
        ·subst e; unfold freeR; rw [<- HNM.out,hf]; rfl
        ·exact HI.out.1 j (by omega)
       clear hf hx hc HI
       go_wp2_with fail
       refine A2.mono ?_
       rintro e w3 ⟨rfl,H3⟩
       have HB3:=Hd (HB2.out.below H3.out)
       clear A2 H3 HB2 cv x0 x1 x2 x3 x4 y0 y1 y2 y3 y4 hlt hk
       go_wp2_with fail
       go_roundg (256 - (k + 1))
       case measure=>have:=HLT.out; omega
       case rel=>exact ⟨k + 1,rfl,HLT.out,by congr 1,Hd ⟨HNX.out,HB3.out⟩⟩
       -- part 2 ends
     | none =>
       rw [(ixR_none hf).1] at A2
       have HE:=Hd (show putR C t=(insR C (nm,t,0),nm,true,0) by
        rw [HNM.out,<- HPP.out]
        exact putR_new' HT.out.1 HT.out.2 (by rw [HPP.out]; exact HNH.out) hlt (by rw [HPP.out]; unfold freeR; rw [<- HNM.out,hf]; rfl) (by rw [HPP.out]; exact HI.out.1))
       clear hf HI
       go_wp2_with fail
       refine A2.mono ?_
       rintro e w3 ⟨rfl,H3⟩
       have HB3:=Hd (HB2.out.below H3.out)
       clear A2 H3 HB2 cv x0 x1 x2 x3 x4 y0 y1 y2 y3 y4 hlt hk
       have HBz:=Hd (show w.heap.size + 2 <= w3.heap.size from lt_of_heap HB3.out.r)
       have R3:Hid (InsAt w (.slice aA C.length cA) (.slice aL L.length cL) w3.heap.size C (.slice none 0 0) (insK C (nm,t,0) 0) w3):=Hd ⟨World.ownsRow_nil _ _ _ _,HB3.out,HBz.out,Nat.le_refl _⟩
       clear HB3
       go_wp2_with fail
       go_loopg [14,15,16] C.length (fun g s14 s15 s16 wr=>∃ (q:Nat) (v:Value),g=C.length - q /\ q <= C.length /\ s16=.int .i64 (q:Int) /\ s15=.bool (doneR (C.take q) (nm,t,0)) /\ v=s14 /\ Hid (InsAt w (.slice aA C.length cA) (.slice aL L.length cL) w3.heap.size C v (insK C (nm,t,0) q) wr))
       case atStart=>exact ⟨0,_,rfl,Nat.zero_le _,rfl,rfl,rfl,R3⟩
       case round =>
        obtain ⟨q,v,rfl,hq,rfl,rfl,rfl,HI⟩:=hrel
        clear R3
        have hcl:C.length <= 100000:=HCL.out
        obtain ⟨x0,x1,x2,x3,x4⟩:=HI.out.box.cells
        by_cases hlt3:q < C.length
        ·-- part 3 begins
         obtain ⟨e0,e1,e2⟩:=ckC_get hlt3
         obtain ⟨b,off,rfl,hb,hcell⟩:=HV.out.get e0
         have HCK:Hid (∀ W,Below w.heap.size w W -> W.cell? ⟨b,off + q * 3,none⟩=some (.string C[q].1) /\ W.cell? ⟨b,off + q * 3 + 1,none⟩=some (.string C[q].2.1) /\ W.cell? ⟨b,off + q * 3 + 2,none⟩=some (.int .i64 C[q].2.2)):=Hd fun W hW =>
          ⟨(hW.cell (p:=⟨b,off + q * 3,none⟩) hb).trans (hcell _ _ e0),(hW.cell (p:=⟨b,off + q * 3 + 1,none⟩) hb).trans (hcell _ _ e1),(hW.cell (p:=⟨b,off + q * 3 + 2,none⟩) hb).trans (hcell _ _ e2)⟩
         have HQ:=Hd hlt3
         have HLN:Hid ((insK C (nm,t,0) q).length <= 100001):=Hd (by have:=insK_len C (nm,t,0) q; omega)
         have HYS:=Hd fun hd=>insK_yes (c:=(nm,t,0)) hlt3 hd
         have HNW:=Hd fun hd hl=>insK_new (c:=(nm,t,0)) hlt3 hd hl
         have HNO:=Hd fun hd hl=>insK_no (c:=(nm,t,0)) hlt3 hd hl
         obtain ⟨d,hd⟩:=exE (C[q]'hlt3)
         rw [hd] at HCK HYS HNW HNO
         obtain ⟨lq,hlq⟩:=exE (insK C (nm,t,0) q)
         rw [hlq] at HI HYS HNW HNO HLN
         obtain ⟨nx,hnx⟩:=exE (insK C (nm,t,0) (q + 1))
         have HNX:=Hd hnx
         rw [hnx] at HYS HNW HNO
         obtain ⟨dn,hdn⟩:=exE (doneR (C.take (q + 1)) (nm,t,0))
         have HDN:=Hd hdn
         rw [hdn] at HYS HNW HNO
         obtain ⟨ck0,ck1,ck2⟩:=HCK.out wr HI.out.box.bel
         have HO:=Hd HI.out.row
         have HZ:Hid (∀ o:Obj,w3.heap.size <= (wr.alloc o).heap.size):=Hd fun o=>by have:=HI.out.lo.2; simp; omega
         have L1:=Hd (show lq.length + 1 <= maxLen /\ (lq.length + 1) * 40 <= 140737488355328 from ⟨by have:=HLN.out; unfold maxLen; omega,by have:=HLN.out; omega⟩)
         have L2:=Hd (show lq.length + 1 + 1 <= maxLen /\ (lq.length + 1 + 1) * 40 <= 140737488355328 from ⟨by have:=HLN.out; unfold maxLen; omega,by have:=HLN.out; omega⟩)
         clear e0 e1 e2 hcell hb hd hlq hnx hdn
         obtain ⟨i1,i2,n3⟩:=d
         simp only at ck0 ck1 ck2 HCK HYS HNW HNO
         cases hdq:doneR (C.take q) (nm,t,0) with
         | true =>
           obtain ⟨n1,n2⟩:=HYS.out hdq
           have HSN:Hid (∀ o W5 v5,(wr.alloc o).grownBy W5 v.ownBlock -> W5.ownsRow w3.heap.size 175 3 v5 (lq.length + 1) (ckC lq ++ [.string i1,.string i2,.int .i64 n3]) -> InsAt w (.slice (some ⟨b,off,none⟩) C.length cA) (.slice aL L.length cL) w3.heap.size C v5 nx W5):=Hd fun o W5 v5 hg h5=>by
            rw [n1]; exact InsAt.snoc (c:=(i1,i2,n3)) HI.out o hg h5
           clear n1 HI HYS HNW HNO hdq
           go_wp2_with (first
            | (refine chkA 49 49 ⟨_,_,by with_reducible rfl⟩ ?_
               refine wpList_append_y (by rfl) _ _ _ rfl w3.heap.size 175 jC _ 3 40 Tryz.underlying49 hjC hC0 hC1 hC2 rfl (by decide) _ _ _ (by rfl) (HO.out.alloc _) _ 1 _ (by rfl) (yields_boxL _ #[.string i1,.string i2,.int .i64 n3] _ 1 1) rfl (one3 _ _ _ rfl rfl rfl) L1.out.1 L1.out.2 (HZ.out _) ?_
               intro v5 W5 ho5 hg5 ha5
               have HN5:=Hd (HSN.out _ W5 v5 hg5 ho5)
               clear ho5 hg5 ha5))
           go_roundg (C.length - (q + 1))
           case measure=>have:=HQ.out; omega
           case rel=>exact ⟨q + 1,_,rfl,HQ.out,by congr 1,by rw [HDN.out,n2],rfl,by rw [HNX.out]; exact HN5⟩
         | false =>
           cases hl:kless nm i1 with
           | false =>
             obtain ⟨n1,n2⟩:=HNO.out hdq hl
             have HSN:Hid (∀ o W5 v5,(wr.alloc o).grownBy W5 v.ownBlock -> W5.ownsRow w3.heap.size 175 3 v5 (lq.length + 1) (ckC lq ++ [.string i1,.string i2,.int .i64 n3]) -> InsAt w (.slice (some ⟨b,off,none⟩) C.length cA) (.slice aL L.length cL) w3.heap.size C v5 nx W5):=Hd fun o W5 v5 hg h5=>by
              rw [n1]; exact InsAt.snoc (c:=(i1,i2,n3)) HI.out o hg h5
             have hlb:Op.bytesLess nm.toList i1.toList=false:=hl
             clear n1 HI HYS HNW HNO hdq hl
             go_wp2_with (first
              | (refine chkA 49 49 ⟨_,_,by with_reducible rfl⟩ ?_
                 refine wpList_append_y (by rfl) _ _ _ rfl w3.heap.size 175 jC _ 3 40 Tryz.underlying49 hjC hC0 hC1 hC2 rfl (by decide) _ _ _ (by rfl) (HO.out.alloc _) _ 1 _ (by rfl) (yields_boxL _ #[.string i1,.string i2,.int .i64 n3] _ 1 1) rfl (one3 _ _ _ rfl rfl rfl) L1.out.1 L1.out.2 (HZ.out _) ?_
                 intro v5 W5 ho5 hg5 ha5
                 have HN5:=Hd (HSN.out _ W5 v5 hg5 ho5)
                 clear ho5 hg5 ha5))
             go_roundg (C.length - (q + 1))
             case measure=>have:=HQ.out; omega
             case rel=>exact ⟨q + 1,_,rfl,HQ.out,by congr 1,by rw [HDN.out,n2],rfl,by rw [HNX.out]; exact HN5⟩
           | true =>
             obtain ⟨n1,n2⟩:=HNW.out hdq hl
             have HSA:Hid (∀ o W5 v5,(wr.alloc o).grownBy W5 v.ownBlock -> W5.ownsRow w3.heap.size 175 3 v5 (lq.length + 1) (ckC lq ++ [.string nm,.string t,.int .i64 0]) -> InsAt w (.slice (some ⟨b,off,none⟩) C.length cA) (.slice aL L.length cL) w3.heap.size C v5 (lq ++ [(nm,t,0)]) W5):=Hd fun o W5 v5 hg h5=>InsAt.snoc (c:=(nm,t,0)) HI.out o hg h5
             have HSN:Hid (∀ Y v0 o W5 v5,InsAt w (.slice (some ⟨b,off,none⟩) C.length cA) (.slice aL L.length cL) w3.heap.size C v0 (lq ++ [(nm,t,0)]) Y -> (Y.alloc o).grownBy W5 v0.ownBlock -> W5.ownsRow w3.heap.size 175 3 v5 (lq.length + 1 + 1) (ckC (lq ++ [(nm,t,0)]) ++ [.string i1,.string i2,.int .i64 n3]) -> InsAt w (.slice (some ⟨b,off,none⟩) C.length cA) (.slice aL L.length cL) w3.heap.size C v5 nx W5):=Hd fun Y v0 o W5 v5 hY hg h5=>by
              rw [n1]
              refine InsAt.snoc (c:=(i1,i2,n3)) hY o hg ?_
              rw [List.length_append,List.length_singleton]; exact h5
             have hlb:Op.bytesLess nm.toList i1.toList=true:=hl
             clear n1 HI HYS HNW HNO hdq hl
             go_wp2_with (first
              | (refine chkA 49 49 ⟨_,_,by with_reducible rfl⟩ ?_
                 refine wpList_append_y (by rfl) _ _ _ rfl w3.heap.size 175 jC _ 3 40 Tryz.underlying49 hjC hC0 hC1 hC2 rfl (by decide) _ _ _ (by rfl) (HO6.out.alloc _) _ 1 _ (by rfl) (yields_boxL _ #[.string i1,.string i2,.int .i64 n3] _ 1 1) rfl (one3 _ _ _ rfl rfl rfl) L2.out.1 L2.out.2 (HZ6.out _) ?_
                 intro v5 W5 ho5 hg5 ha5
                 have HN5:=Hd (HSN.out _ _ _ W5 v5 HI6.out hg5 ho5)
                 clear ho5 hg5 ha5)
              | (refine chkA 49 49 ⟨_,_,by with_reducible rfl⟩ ?_
                 refine wpList_append_y (by rfl) _ _ _ rfl w3.heap.size 175 jC _ 3 40 Tryz.underlying49 hjC hC0 hC1 hC2 rfl (by decide) _ _ _ (by rfl) (HO.out.alloc _) _ 1 _ (by rfl) (yields_boxL _ #[.string nm,.string t,.int .i64 0] _ 1 1) rfl (one3 _ _ _ rfl rfl rfl) L1.out.1 L1.out.2 (HZ.out _) ?_
                 intro v6 W6 ho6 hg6 ha6
                 have HI6:=Hd (HSA.out _ W6 v6 hg6 ho6)
                 have HO6:Hid (W6.ownsRow w3.heap.size 175 3 v6 (lq.length + 1) (ckC (lq ++ [(nm,t,0)]))):=Hd (by have:=HI6.out.row; rwa [List.length_append,List.length_singleton] at this)
                 have HZ6:Hid (∀ o:Obj,w3.heap.size <= (W6.alloc o).heap.size):=Hd fun o=>by have:=HI6.out.lo.2; simp; omega
                 obtain ⟨cl0,cl1,cl2⟩:=HCK.out W6 HI6.out.box.bel
                 obtain ⟨y0,y1,y2,y3,y4⟩:=HI6.out.box.cells
                 clear ho6 hg6 ha6))
             go_roundg (C.length - (q + 1))
             case measure=>have:=HQ.out; omega
             case rel=>exact ⟨q + 1,_,rfl,HQ.out,by congr 1,by rw [HDN.out,n2],rfl,by rw [HNX.out]; exact HN5⟩
         -- part 3 ends
        ·obtain rfl:q=C.length:=by omega
         have HEN:=insK_end (C:=C) (c:=(nm,t,0))
         have HNP:Hid (0 < (insR C (nm,t,0)).length /\ (insR C (nm,t,0)).length <= 100001):=Hd (by rw [ins_len]; omega)
         obtain ⟨lf,hlf⟩:=exE (insR C (nm,t,0))
         rw [hlf] at HE HEN HNP
         obtain ⟨lq,hlq⟩:=exE (insK C (nm,t,0) C.length)
         rw [hlq] at HI HEN
         cases hdq:doneR (C.take C.length) (nm,t,0) with
         | true =>
           obtain rfl:=HEN.1 hdq
           obtain ⟨g5,c5,rfl,k5⟩:=own_form HI.out.row HNP.out.1
           have hB6:=HI.out.box.set (.slice (some ⟨g5,0,none⟩) lq.length c5)
           obtain ⟨z0,z1,z2,z3,z4⟩:=hB6.cells
           obtain ⟨r0,r1,r2,r3,r4⟩:=hB6.res
           obtain ⟨o1,o2,o3,o4,o5⟩:=hB6.out (.slice (some ⟨g5,0,none⟩) lq.length c5) (.slice aL L.length cL)
           have HG:=Hd (And.intro (And.intro (StR.put5 (HVL.out.below o5) (RdRow.own HI.out.row) (Nat.le_trans HI.out.lo.1 k5)) o5) (fun D (hD:StLoc D (.agg #[.slice aA C.length cA,.slice aL L.length cL]))=>StLoc.newA (n:=lq.length) (c5:=c5) hD (Nat.le_trans (Nat.le_add_right _ 2) (Nat.le_trans HI.out.lo.1 k5))))
           clear hB6 o5 k5 HI HEN hlf hlq HNP hq hlt3
           go_wp2_with fail
           (try simp only [Exit.inBlock,Exit.then])
           refine bodyPost_ret (v:=.tuple #[.agg #[.slice (some ⟨g5,0,none⟩) lq.length c5,.slice aL L.length cL],.string nm,.bool true,.int .i64 0]) ?_ rfl ⟨_,by rw [HE.out],by rw [HE.out]; exact HG⟩
           rw [results_cell_tmp3 rfl]
           go_simp
         | false =>
           have HLF:=Hd (HEN.2 hdq)
           have HO:=Hd HI.out.row
           have HZ:Hid (∀ o:Obj,w3.heap.size <= (wr.alloc o).heap.size):=Hd fun o=>by have:=HI.out.lo.2; simp; omega
           have HL1:lf.length=lq.length + 1:=by rw [<- HLF.out]; simp
           have L1:=Hd (show lq.length + 1 <= maxLen /\ (lq.length + 1) * 40 <= 140737488355328 from ⟨by have:=HNP.out; unfold maxLen; omega,by have:=HNP.out; omega⟩)
           have HSA:Hid (∀ o W5 v5,(wr.alloc o).grownBy W5 v.ownBlock -> W5.ownsRow w3.heap.size 175 3 v5 (lq.length + 1) (ckC lq ++ [.string nm,.string t,.int .i64 0]) -> InsAt w (.slice aA C.length cA) (.slice aL L.length cL) w3.heap.size C v5 lf W5):=Hd fun o W5 v5 hg h5=>by
            rw [<- HLF.out]; exact InsAt.snoc (c:=(nm,t,0)) HI.out o hg h5
           have HLO:=Hd HI.out.lo.1
           clear HI HEN hlf hlq HL1 hdq
           go_wp2_with (first
            | (refine chkA 49 49 ⟨_,_,by with_reducible rfl⟩ ?_
               refine wpList_append_y (by rfl) _ _ _ rfl w3.heap.size 175 jC _ 3 40 Tryz.underlying49 hjC hC0 hC1 hC2 rfl (by decide) _ _ _ (by rfl) (HO.out.alloc _) _ 1 _ (by rfl) (yields_boxL _ #[.string nm,.string t,.int .i64 0] _ 1 1) rfl (one3 _ _ _ rfl rfl rfl) L1.out.1 L1.out.2 (HZ.out _) ?_
               intro v5 W5 ho5 hg5 ha5
               have hI5:=HSA.out _ W5 v5 hg5 ho5
               clear ho5 hg5 ha5
               obtain ⟨g5,c5,rfl,k5⟩:=own_form hI5.row HNP.out.1
               obtain ⟨y0,y1,y2,y3,y4⟩:=hI5.box.cells
               have hB6:=hI5.box.set (.slice (some ⟨g5,0,none⟩) lf.length c5)
               obtain ⟨z0,z1,z2,z3,z4⟩:=hB6.cells
               obtain ⟨r0,r1,r2,r3,r4⟩:=hB6.res
               obtain ⟨o1,o2,o3,o4,o5⟩:=hB6.out (.slice (some ⟨g5,0,none⟩) lf.length c5) (.slice aL L.length cL)
               have HG:=Hd (And.intro (And.intro (StR.put5 (HVL.out.below o5) (RdRow.own hI5.row) (Nat.le_trans HLO.out k5)) o5) (fun D (hD:StLoc D (.agg #[.slice aA C.length cA,.slice aL L.length cL]))=>StLoc.newA (n:=lf.length) (c5:=c5) hD (Nat.le_trans (Nat.le_add_right _ 2) (Nat.le_trans HLO.out k5))))
               clear hB6 o5 k5 hI5))
           (try simp only [Exit.inBlock,Exit.then])
           refine bodyPost_ret (v:=.tuple #[.agg #[.slice (some ⟨g5,0,none⟩) lf.length c5,.slice aL L.length cL],.string nm,.bool true,.int .i64 0]) ?_ rfl ⟨_,by rw [HE.out],by rw [HE.out]; exact HG⟩
           rw [results_cell_tmp3 rfl]
           go_simp
    ·obtain rfl:k=256:=by omega
     have HE:=Hd (show putR C t=(C,⟨#[]⟩,false,4) by
      exact putR_full HT.out.1 HT.out.2 (by rw [HPP.out]; exact HNH.out) (by rw [HPP.out]; exact HI.out.1))
     obtain ⟨x0,x1,x2,x3,x4⟩:=HI.out.2.cells
     obtain ⟨r0,r1,r2,r3,r4⟩:=HI.out.2.res
     obtain ⟨o1,o2,o3,o4,o5⟩:=HI.out.2.out (.slice aA C.length cA) (.slice aL L.length cL)
     have HG:=Hd (And.intro (And.intro (HST.out.below o5) o5) (fun D (hD:StLoc D (.agg #[.slice aA C.length cA,.slice aL L.length cL]))=>hD.mono (D':=fun b=>D b \/ w.heap.size <= b) fun b hb=>Or.inl hb))
     clear o5 HI hk hlt
     go_wp2_with fail
     (try simp only [Exit.inBlock,Exit.then])
     refine bodyPost_ret (v:=.tuple #[.agg #[.slice aA C.length cA,.slice aL L.length cL],.string ⟨#[]⟩,.bool false,.int .i64 4]) ?_ rfl ⟨_,by rw [HE.out],by rw [HE.out]; exact HG⟩
     rw [results_cell_tmp3 rfl]
     go_simp
set_option maxHeartbeats 4000000
theorem StR.form {w:World} {v:Value} {C:List RCk} {L:List REn} (h:StR w v C L):∃ a c b d,v=.agg #[.slice a C.length c,.slice b L.length d]:=by
 obtain ⟨va,vl,rfl,h2,h3⟩:=h
 obtain ⟨a,c,rfl,-⟩:=h2.form
 obtain ⟨b,d,rfl,-⟩:=h3.form
 exact ⟨a,c,b,d,rfl⟩
end Go.Proofs.YtdcjhpafipbpkaaGreatDoor
