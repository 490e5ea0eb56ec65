/- Parts of the proof of ChunksRuns,joined: RfsI,RcpS,RcpT,RcpU,RcpX,RcpY,RcpN,RcpO,RcpP,RcpZ,BldA,BldP,CrnS,CrnA,RfmA,RfmB. No condition. -/
import Derived.Test.YtdcjhpafipbpkaaGreatDoorCx17
import Derived.Deep.RegionHeld3
set_option linter.unusedSimpArgs false
set_option linter.unusedVariables false
set_option linter.unusedSectionVars false
namespace Go.Proofs.YtdcjhpafipbpkaaGreatDoor
set_option maxRecDepth 100000
set_option maxHeartbeats 4000000
open Go.RowKit
theorem rC_len (C:List Ck):(rC C).length=C.length:=by unfold rC; simp
theorem rL_len (L:List Lg):(rL L).length=L.length:=by unfold rL; simp
theorem rC_get {C:List Ck} {i:Nat} (h:i < C.length):(rC C)[i]'(by rw [rC_len]; exact h)=(C[i].id,C[i].text,C[i].cnt):=by simp [rC]
theorem chkC_get:∀ {C:List Ck} {k:Nat} (h:k < C.length),(chkC C)[k * 3]?=some (.string C[k].id) /\ (chkC C)[k * 3 + 1]?=some (.int .i64 (C[k].text.size:Int)) /\ (chkC C)[k * 3 + 2]?=some (.int .i64 C[k].cnt)
 | [],k,h=>by simp at h
 | c :: C,0,h=>⟨rfl,rfl,rfl⟩
 | c :: C,k + 1,h=>by
   have ih:=chkC_get (C:=C) (k:=k) (by simpa using h)
   have e:chkC (c :: C)=.string c.id :: .int .i64 (c.text.size:Int) :: .int .i64 c.cnt :: chkC C:=rfl
   rw [e,show (k + 1) * 3=k * 3 + 1 + 1 + 1 by omega]
   simp only [List.getElem?_cons_succ,List.getElem_cons_succ]
   exact ih
theorem Kept.cell {K:Nat -> Prop} {w w':World} (h:Kept K w w') {b:Nat} (hb:K b) {i:Nat} {v:Value} (hc:w.cell? ⟨b,i,none⟩=some v):w'.cell? ⟨b,i,none⟩=some v:=by
 rw [<- hc]; simp only [World.cell?,h b hb]
section
variable (w1 w w0:World) (K:Nat -> Prop) (sb rb ti tl n N a nx:Nat) (C:List Ck) (L:List Lg) (X:List (Nat × ByteArray))
theorem Holds_k (v:Value) (h:Hid (Chs w1 w0 w K sb rb ti tl n N a C L nx X)) (hN:a <= N /\ N <= 1000) (hC:C.length <= 100000) (hL:L.length <= 100000) (hx:∀ c ∈ C,(c.page,c.text) ∈ X) (hst:StR w v (rC C) (rL L)) (hloc:StLoc K v) :
 Calls Tryz.prog 37 #[.pointer (some ⟨sb,0,none⟩),v] w fun e w'=>e=.returned (.bool true) /\ Hid (Chs w1 w0 w' K sb rb ti tl n N a C L nx X):=by
 obtain ⟨va,vl,rfl,hA,hLg⟩:=hst
 obtain ⟨aA,cA,rfl,-⟩:=hA.form
 obtain ⟨aL,cL,rfl,-⟩:=hLg.form
 rw [rC_len,rL_len] at *
 obtain ⟨wb,hwb⟩:=exE (w.alloc (.cells #[.slice aA C.length cA,.slice aL L.length cL] 52))
 have hB:Below w.heap.size w wb:=by rw [<- hwb]; exact (Below.refl _ _).alloc (Nat.le_refl _) _
 have hbl:wb.heap[w.heap.size]?=some (.cells #[.slice aA C.length cA,.slice aL L.length cL] 52 (0,0)):=by rw [<- hwb]; exact heap_alloc_new _ _
 have M0:=Hd (h.out.new hB w.heap.size (Nat.le_refl _) (lt_of_heap hbl))
 have AL:=All_k w1 wb wb _ sb rb ti tl n N a nx C L X M0 hN (by omega)
 have HK0:=Hd (h.out.keep hB)
 have HBL:=Hd hbl
 have HHK:=Hd h.out.kept
 have HRA:Hid (∀ i (hi:i < C.length),∃ b off,aA=some ⟨b,off,none⟩ /\ K b /\ ∀ W,Kept K w W -> W.cell? ⟨b,off + i * 3,none⟩=some (.string C[i].id) /\ W.cell? ⟨b,off + i * 3 + 1,none⟩=some (.string C[i].text) /\ W.cell? ⟨b,off + i * 3 + 2,none⟩=some (.int .i64 C[i].cnt)):=Hd fun i hi=>by
  obtain ⟨c0,c1,c2⟩:=ckC_get (C:=rC C) (k:=i) (by rw [rC_len]; exact hi)
  rw [rC_get hi] at c0 c1 c2
  obtain ⟨b,off,rfl,hb,hc⟩:=hA.get c0
  obtain ⟨va',vl',e',hl1,-⟩:=hloc
  cases e'
  have hKb:=hl1 b rfl
  exact ⟨b,off,rfl,hKb,fun W hW=>⟨hW.cell hKb (hc _ _ c0),hW.cell hKb (hc _ _ c1),hW.cell hKb (hc _ _ c2)⟩⟩
 have HSR:=Hd h.out.ok.2.1
 have HNN:=Hd hN
 have HXX:=Hd hx
 have HCL:=Hd hC
 have HLL:=Hd hL
 have HOK:=Hd h.out.ok.1
 clear hA hLg hB hbl hN hx hloc hC hL
 go_enter Tryz.func37,Tryz.ntmps37
 go_wp2_with fail
 refine AL.mono ?_
 rintro e w2 ⟨vr,rfl,H2⟩
 have M2:=Hd H2.out.2.1
 have WT:=Waits_k w1 w2 w2 _ sb rb ti tl n N a nx C L X M2 HNN.out (by have:=HLL.out; omega)
 have HK2:=Hd H2.out.2.2
 have HRO:=Hd H2.out.1
 obtain ⟨ra,rc,rfl⟩:∃ ra rc,vr=.slice ra C.length rc:=by
  rcases H2.out.1.2 with ⟨rfl,h0⟩ | ⟨g,cap,cur,rfl,-⟩
  ·exact ⟨_,_,by rw [h0]⟩
  ·exact ⟨_,_,rfl⟩
 clear AL H2 M0 hwb
 go_wp2_with fail
 refine WT.mono ?_
 rintro e w3 ⟨rfl,H3⟩
 have hk3:=HK2.out.trans (H3.out.kept.mono fun k hk=>Or.inl hk)
 have x0:=hk3.cell (.inr rfl) (cell_lit HBL.out (i:=0) rfl)
 have x1:=hk3.cell (.inr rfl) (cell_lit HBL.out (i:=1) rfl)
 have hcl:C.length <= 100000:=HCL.out
 have hll:L.length <= 100000:=HLL.out
 have HK3:=Hd hk3
 have HRR:Hid (∀ i (hi:i < C.length),∃ g,ra=some ⟨g,0,none⟩ /\ ∀ W,Kept (fun k=>(K k \/ k=w.heap.size) \/ (Value.slice ra C.length rc).ownBlock=some k) w3 W -> W.cell? ⟨g,i * 3,none⟩=some (.string C[i].id) /\ W.cell? ⟨g,i * 3 + 1,none⟩=some (.int .i64 (C[i].text.size:Int)) /\ W.cell? ⟨g,i * 3 + 2,none⟩=some (.int .i64 C[i].cnt)):=Hd fun i hi=>by
  obtain ⟨g,rfl⟩:∃ g,ra=some ⟨g,0,none⟩:=by
   rcases HRO.out.2 with ⟨e,h0⟩ | ⟨g,cap,cur,e,-⟩
   ·omega
   ·cases e; exact ⟨g,rfl⟩
  obtain ⟨c0,c1,c2⟩:=chkC_get hi
  have d0:=HRO.out.cells rfl _ _ c0
  have d1:=HRO.out.cells rfl _ _ c1
  have d2:=HRO.out.cells rfl _ _ c2
  rw [addr_addO,Nat.zero_add] at d0 d1 d2
  refine ⟨g,rfl,fun W hW=>?_⟩
  have hh:=H3.out.kept.trans hW
  exact ⟨hh.cell (.inr rfl) d0,hh.cell (.inr rfl) d1,hh.cell (.inr rfl) d2⟩
 have R0:Hid (Chs w1 w3 w3 (fun k=>(K k \/ k=w.heap.size) \/ (Value.slice ra C.length rc).ownBlock=some k) sb rb ti tl n N a C L nx X):=Hd H3.out.reset
 clear WT H3 M2 hk3
 go_wp2_with fail
 go_loopg [47] C.length (fun g s47 wr=>∃ i:Nat,g=C.length - i /\ i <= C.length /\ s47=.int .i64 (i:Int) /\ Hid (Chs w1 w3 wr (fun k=>(K k \/ k=w.heap.size) \/ (Value.slice ra C.length rc).ownBlock=some k) sb rb ti tl n N a C L nx X))
 case atStart=>exact ⟨0,rfl,Nat.zero_le _,rfl,R0⟩
 case round =>
  obtain ⟨i,rfl,hi,rfl,HI⟩:=hrel
  clear R0 x0 x1
  have hkr:=HI.out.kept
  have hx0:=hkr.cell (.inl (.inr rfl)) (HK3.out.cell (.inr rfl) (cell_lit HBL.out (i:=0) rfl))
  by_cases hlt:i < C.length
  ·obtain ⟨b,off,rfl,hb,hA⟩:=HRA.out i hlt
   obtain ⟨g,rfl,hR⟩:=HRR.out i hlt
   obtain ⟨r0,r1,r2⟩:=hR wr hkr
   obtain ⟨wy,hwy⟩:=exE (wr.alloc (.cells #[.string C[i].id,.int .i64 (C[i].text.size:Int),.int .i64 C[i].cnt] 106))
   obtain ⟨wx,hwx⟩:=exE (wy.alloc (.cells #[.string C[i].id,.string C[i].text,.int .i64 C[i].cnt] 175))
   have hby:Below wr.heap.size wr wy:=by rw [<- hwy]; exact (Below.refl _ _).alloc (Nat.le_refl _) _
   have hys:wy.heap.size=wr.heap.size + 1:=by rw [<- hwy]; simp
   have hbx:Below wr.heap.size wr wx:=by rw [<- hwx]; exact hby.alloc hby.size _
   have hxs:wx.heap.size=wr.heap.size + 1 + 1:=by rw [<- hwx,<- hys]; simp
   have hky:Kept K w wy:=((HK0.out.trans (HK3.out.mono fun k hk=>.inl hk)).trans (hkr.mono fun k hk=>.inl (.inl hk))).trans ((HI.out.mono (K':=K) fun k hk=>.inl (.inl hk)).keep hby)
   obtain ⟨a0,a1,a2⟩:=hA wy hky
   have hxy:=(HI.out.keep hby).cell (.inl (.inr rfl)) hx0
   have hy:wy.heap[wr.heap.size]?=some (.cells #[.string C[i].id,.int .i64 (C[i].text.size:Int),.int .i64 C[i].cnt] 106 (0,0)):=by rw [<- hwy]; exact heap_alloc_new _ _
   have hyx:wx.heap[wr.heap.size]?=some (.cells #[.string C[i].id,.int .i64 (C[i].text.size:Int),.int .i64 C[i].cnt] 106 (0,0)):=by rw [<- hy,<- hwx]; exact ((Below.refl wy.heap.size wy).alloc (Nat.le_refl _) _).block _ (by omega)
   have hxx:wx.heap[wr.heap.size + 1]?=some (.cells #[.string C[i].id,.string C[i].text,.int .i64 C[i].cnt] 175 (0,0)):=by rw [<- hwx,<- hys]; exact heap_alloc_new _ _
   have HX:Hid (Chs w1 wx wx (fun k=>((K k \/ k=w.heap.size) \/ (Value.slice (some ⟨g,0,none⟩) C.length rc).ownBlock=some k) \/ (wr.heap.size <= k /\ k < wx.heap.size)) sb rb ti tl n N a C L nx X):=Hd (HI.out.updN (F:=fun _=>False) ⟨hbx.os,hbx.tape,hbx.output,hbx.size,fun k hk _=>hbx.block k hk⟩ fun _ h=>h.elim)
   have GT:=Get_yes w1 wx wx _ sb rb ti tl n N a nx C L X C[i].id C[i] HX HNN.out (by have:=(HOK.out C[i] (List.getElem_mem hlt)).id; omega) (cAt_of HSR.out (List.getElem_mem hlt)) (HXX.out C[i] (List.getElem_mem hlt))
   have z0:=cell_lit hyx (i:=0) rfl
   have HYX:=Hd (And.intro hyx hxx)
   have HKX:=Hd (hkr.trans (HI.out.keep hbx))
   have HGO:Hid (∀ w6,Chs w1 wx w6 (fun k=>((K k \/ k=w.heap.size) \/ (Value.slice (some ⟨g,0,none⟩) C.length rc).ownBlock=some k) \/ (wr.heap.size <= k /\ k < wx.heap.size)) sb rb ti tl n N a C L nx X -> Chs w1 w3 w6 (fun k=>(K k \/ k=w.heap.size) \/ (Value.slice (some ⟨g,0,none⟩) C.length rc).ownBlock=some k) sb rb ti tl n N a C L nx X):=Hd fun w6 h6=>(h6.mono fun k hk=>.inl hk).to HKX.out
   have HB2:=Hd (And.intro hys hxs)
   clear HI hkr hA hR hky hby hbx hy hyx hxx HX hb
   go_wp2_with fail
   refine GT.mono ?_
   rintro e w6 ⟨rfl,H6⟩
   have hk6:=H6.out.kept
   have hin:∀ j,j < 2 -> (wr.heap.size <= wr.heap.size + j /\ wr.heap.size + j < wx.heap.size):=fun j hj=>by have:=HB2.out.2; omega
   have y0:w6.cell? ⟨wr.heap.size,0,none⟩=some (.string C[i].id):=hk6.cell (.inr (hin 0 (by omega))) (cell_lit HYX.out.1 (i:=0) rfl)
   have y1:w6.cell? ⟨wr.heap.size,1,none⟩=some (.int .i64 (C[i].text.size:Int)):=hk6.cell (.inr (hin 0 (by omega))) (cell_lit HYX.out.1 (i:=1) rfl)
   have y2:w6.cell? ⟨wr.heap.size,2,none⟩=some (.int .i64 C[i].cnt):=hk6.cell (.inr (hin 0 (by omega))) (cell_lit HYX.out.1 (i:=2) rfl)
   have v0:w6.cell? ⟨wr.heap.size + 1,0,none⟩=some (.string C[i].id):=hk6.cell (.inr (hin 1 (by omega))) (cell_lit HYX.out.2 (i:=0) rfl)
   have v1:w6.cell? ⟨wr.heap.size + 1,1,none⟩=some (.string C[i].text):=hk6.cell (.inr (hin 1 (by omega))) (cell_lit HYX.out.2 (i:=1) rfl)
   have v2:w6.cell? ⟨wr.heap.size + 1,2,none⟩=some (.int .i64 C[i].cnt):=hk6.cell (.inr (hin 1 (by omega))) (cell_lit HYX.out.2 (i:=2) rfl)
   have HE:=Hd (HGO.out w6 H6.out)
   have hts:C[i].text.size <= 128:=(HOK.out C[i] (List.getElem_mem hlt)).t2
   have HLT:=Hd hlt
   clear GT H6 hk6 hin r0 r1 r2 a0 a1 a2 hxy hwx hwy hx0 z0
   generalize C[i].id=ky at *
   generalize C[i].text=tx at *
   generalize C[i].cnt=ct at *
   go_wp2_with fail
   go_roundg (C.length - (i + 1))
   case measure=>have:=HLT.out; omega
   case rel=>exact ⟨i + 1,rfl,HLT.out,by congr 1,HE⟩
  ·have hie:i=C.length:=by omega
   subst hie
   go_wp2_with fail
   have HE:Hid (Chs w1 w0 wr K sb rb ti tl n N a C L nx X):=Hd ((HI.out.mono fun k hk=>.inl (.inl hk)).to ((HHK.out.trans HK0.out).trans (HK3.out.mono fun k hk=>.inl hk)))
   go_ret
   exact ⟨rfl,HE⟩
end
set_option maxHeartbeats 1000000
set_option maxHeartbeats 4000000
theorem StR.keepW {w w':World} {K:Nat -> Prop} {v:Value} {C:List RCk} {L:List REn} (h:StR w v C L) (hl:StLoc K v) (hk:Kept K w w') (hs:∀ k,K k -> k < w'.heap.size):StR w' v C L:=by
 obtain ⟨va,vl,rfl,h1,h2⟩:=h
 obtain ⟨va',vl',e,g1,g2⟩:=hl
 cases e
 have:∀ {v:Value} {n sz:Nat} {xs:List Value},RdRow w v n sz xs -> (∀ g,v.ownBlock=some g -> K g) -> RdRow w' v n sz xs:=fun h hg=>by
  obtain ⟨a,c,rfl,h1,h2,h3,h4⟩:=h
  refine ⟨_,_,rfl,h1,h2,h3,fun ad e=>?_⟩
  obtain ⟨b,off,e1,h5,h6⟩:=h4 ad e
  subst e e1
  have hb:=hg b rfl
  refine ⟨b,off,rfl,hs b hb,fun j u hu=>?_⟩
  rw [<- h6 j u hu]
  simp only [World.cell?,hk b hb]
 exact ⟨va,vl,rfl,this h1 g1,this h2 g2⟩
theorem Chs.newK {w1 w0 w w':World} {K:Nat -> Prop} {sb rb ti tl n N a nx:Nat} {C:List Ck} {L:List Lg} {X:List (Nat × ByteArray)} (h:Chs w1 w0 w K sb rb ti tl n N a C L nx X) (hb:Below w.heap.size w w'):Chs w1 w' w' (fun k=>K k \/ (w.heap.size <= k /\ k < w'.heap.size)) sb rb ti tl n N a C L nx X :=
 h.updN (F:=fun _=>False) ⟨hb.os,hb.tape,hb.output,hb.size,fun k hk _=>hb.block k hk⟩ fun _ h=>h.elim
def RBud (k a:Nat) (C:List Ck) (L:List Lg):Prop:=a + 2 * L.length + 2 * C.length <= 4 * k /\ L.length <= k /\ ∀ c ∈ C,-(k:Int) <= c.cnt - L.length /\ c.cnt + L.length <= k
structure RnL (w1:World) (B sb rb ti tl k:Nat) (v0 v1:Value) (K:Nat -> Prop) (C:List Ck) (L:List Lg) (nx a:Nat) (wr:World):Prop where
 st:Chs w1 wr wr K sb rb ti tl 30000 1000 a C L nx (cpg C)
 box:wr.heap[B]?=some (.cells #[v0,v1] 52 (0,0))
 kb:K B
 ref:StR wr (.agg #[v0,v1]) (rC C) (rL L)
 loc:StLoc (fun j=>K j /\ j ≠ B) (.agg #[v0,v1])
 lo:w1.heap.size <= B /\ B ≠ sb /\ B ≠ ti /\ B ≠ tl
 bud:RBud k a C L
section
variable {w1 wr w4 w5 w':World} {B sb rb ti tl k a a' nx nx':Nat} {v0 v1 v0' v1':Value} {K:Nat -> Prop} {C C':List Ck} {L L':List Lg}
theorem RBud.same {k a:Nat} {C:List Ck} {L:List Lg} (h:RBud k a C L):RBud (k + 1) a C L:=⟨by have:=h.1; omega,by have:=h.2.1; omega,fun c hc=>by have:=h.2.2 c hc; omega⟩
theorem RnL.below (h:RnL w1 B sb rb ti tl k v0 v1 K C L nx a wr) (hb:Below wr.heap.size wr w'):RnL w1 B sb rb ti tl k v0 v1 K C L nx a w' :=
 ⟨(h.st.below hb).reset,(hb.block _ (lt_of_heap h.box)).trans h.box,h.kb,h.ref.below hb,h.loc,h.lo,h.bud⟩
theorem RnL.next (h:RnL w1 B sb rb ti tl k v0 v1 K C L nx a wr) (q:Chs w1 wr w4 K sb rb ti tl 30000 1000 a' C' L' nx' (cpg C')) (b5:Below w4.heap.size w4 w5) (r5:StR w5 (.agg #[v0',v1']) (rC C') (rL L')) (l5:∀ D,StLoc D (.agg #[v0,v1]) -> StLoc (fun b=>D b \/ w4.heap.size <= b) (.agg #[v0',v1']))
 (hb:RBud (k + 1) a' C' L') :
 ∃ K',RnL w1 B sb rb ti tl (k + 1) v0' v1' K' C' L' nx' a' ((w5.setCell ⟨B,0,none⟩ v0').setCell ⟨B,1,none⟩ v1'):=by
 have hBlt:B < w4.heap.size:=q.klt h.kb
 have hU:Upd (fun k=>k=B) w5 ((w5.setCell ⟨B,0,none⟩ v0').setCell ⟨B,1,none⟩ v1'):=Upd.setCell (S:=fun k=>k=B) (Upd.setCell (S:=fun k=>k=B) (Upd.refl _ w5) (p:=⟨B,0,none⟩) (.inl rfl) v0') (p:=⟨B,1,none⟩) (.inl rfl) v1'
 have hrest:=(q.below b5).reset
 have hbx5:w5.heap[B]?=some (.cells #[v0,v1] 52 (0,0)):=(b5.block B hBlt).trans ((q.kept B h.kb).trans h.box)
 have hbx8:=heap_set_lit (i:=1) (heap_set_lit (i:=0) hbx5 v0') v1'
 have hlt5:=r5.lt
 have hloc5:=(l5 _ h.loc).and hlt5
 have s45:=b5.size
 have hn:Chs w1 w5 w5 (fun j=>K j \/ (w4.heap.size <= j /\ j < w5.heap.size)) sb rb ti tl 30000 1000 a' C' L' nx' (cpg C'):=q.newK b5
 have hset:=hn.updN hU fun j e=>by
  subst e
  exact ⟨.inl h.kb,h.lo⟩
 have hD:∀ j,((K j /\ j ≠ B) \/ w4.heap.size <= j) /\ j < w5.heap.size -> (K j \/ (w4.heap.size <= j /\ j < w5.heap.size)) /\ j ≠ B:=fun j hj=>by
  rcases hj.1 with h2 | h2
  ·exact ⟨.inl h2.1,h2.2⟩
  ·exact ⟨.inr ⟨h2,hj.2⟩,by omega⟩
 have hl:=hloc5.mono hD
 exact ⟨_,hset.mono fun j hj=>.inl hj,hbx8,.inl h.kb,(r5.setLoc hl (fun hj=>hj.2 rfl) v0').setLoc hl (fun hj=>hj.2 rfl) v1',hl,h.lo,hb⟩
end
abbrev AcT:=Int × Int × Int × ByteArray × Bool
def I64 (n:Int):Prop:=-9223372036854775808 <= n /\ n < 9223372036854775808
def AcOk (p:AcT):Prop:=I64 p.1 /\ I64 p.2.1 /\ I64 p.2.2.1
def actV (p:AcT):Value:=.agg #[.int .i64 p.1,.int .i64 p.2.1,.int .i64 p.2.2.1,.string p.2.2.2.1,.bool p.2.2.2.2]
theorem readsC_act {w:World} {es:List Value} (h:ReadsC w 96 es):∃ p:AcT,es=[.int .i64 p.1,.int .i64 p.2.1,.int .i64 p.2.2.1,.string p.2.2.2.1,.bool p.2.2.2.2] /\ AcOk p:=by
 obtain ⟨hl,hf⟩:=readsC_struct Tryz.underlying96 h
 have hl:es.length=5:=hl.trans (by kernel_rfl)
 have c1:Tryz.prog.cellsOf 9=1:=by kernel_rfl
 have c2:Tryz.prog.cellsOf 3=1:=by kernel_rfl
 have c3:Tryz.prog.cellsOf 4=1:=by kernel_rfl
 match es,hl with
 | [a,b,c,d,e],_ =>
   have f0:ReadsC w 3 (([a,b,c,d,e].drop 0).take (Tryz.prog.cellsOf 3)):=hf 0 _ rfl
   have f1:ReadsC w 3 (([a,b,c,d,e].drop 1).take (Tryz.prog.cellsOf 3)):=hf 1 _ rfl
   have f2:ReadsC w 3 (([a,b,c,d,e].drop 2).take (Tryz.prog.cellsOf 3)):=hf 2 _ rfl
   have f3:ReadsC w 9 (([a,b,c,d,e].drop 3).take (Tryz.prog.cellsOf 9)):=hf 3 _ rfl
   have f4:ReadsC w 4 (([a,b,c,d,e].drop 4).take (Tryz.prog.cellsOf 4)):=hf 4 _ rfl
   rw [c2] at f0 f1 f2
   rw [c1] at f3
   rw [c3] at f4
   obtain ⟨n0,e0,h0⟩:=readsC_int Tryz.underlying3 f0
   obtain ⟨n1,e1,h1⟩:=readsC_int Tryz.underlying3 f1
   obtain ⟨n2,e2,h2⟩:=readsC_int Tryz.underlying3 f2
   obtain ⟨t,e3,h3⟩:=readsC_string Tryz.underlying9 f3
   obtain ⟨bb,e4⟩:=readsC_bool Tryz.underlying4 f4
   simp at e0 e1 e2 e3 e4
   subst e0 e1 e2 e3 e4
   have b0:=bounds_i64 h0
   have b1:=bounds_i64 h1
   have b2:=bounds_i64 h2
   exact ⟨(n0,n1,n2,t,bb),rfl,by unfold AcOk I64; simp only; omega⟩
def ActsIn (w:World) (v:Value) (l:List AcT):Prop:=∃ a cap,v=.slice a l.length cap /\ ∀ i (hi:i < l.length),∃ b off,a=some ⟨b,off,none⟩ /\ b < w.heap.size /\ (w.cell? ⟨b,off + i * 5,none⟩=some (.int .i64 l[i].1) /\ w.cell? ⟨b,off + i * 5 + 1,none⟩=some (.int .i64 l[i].2.1) /\ w.cell? ⟨b,off + i * 5 + 2,none⟩=some (.int .i64 l[i].2.2.1) /\ w.cell? ⟨b,off + i * 5 + 3,none⟩=some (.string l[i].2.2.2.1) /\ w.cell? ⟨b,off + i * 5 + 4,none⟩=some (.bool l[i].2.2.2.2)) /\ AcOk l[i]
theorem reads_acts {w:World} {v:Value} (h:Reads w 93 v):∃ l:List AcT,ActsIn w v l:=by
 have c2:Tryz.prog.cellsOf 96=5:=by kernel_rfl
 obtain ⟨a,len,cap,rfl,hlc,hcm,hel⟩:=reads_slice Tryz.underlying93 (by rw [c2]; decide) h
 rw [c2] at hel
 obtain ⟨l,hl,hp⟩:=choose_list (n:=len) (p:=fun i (f:AcT)=>(∃ b off,a=some ⟨b,off,none⟩ /\ b < w.heap.size /\ (w.cell? ⟨b,off + i * 5,none⟩=some (.int .i64 f.1) /\ w.cell? ⟨b,off + i * 5 + 1,none⟩=some (.int .i64 f.2.1) /\ w.cell? ⟨b,off + i * 5 + 2,none⟩=some (.int .i64 f.2.2.1) /\ w.cell? ⟨b,off + i * 5 + 3,none⟩=some (.string f.2.2.2.1) /\ w.cell? ⟨b,off + i * 5 + 4,none⟩=some (.bool f.2.2.2.2)) /\ AcOk f)) (fun k hk=>by
  obtain ⟨b,off,es,rfl,hes,hb,hc,hr⟩:=hel k hk
  obtain ⟨p,rfl,hp⟩:=readsC_act hr
  exact ⟨p,b,off,rfl,hb,⟨hc 0 (by simp),hc 1 (by simp),hc 2 (by simp),hc 3 (by simp),hc 4 (by simp)⟩,hp⟩)
 subst hl
 exact ⟨l,a,cap,rfl,fun i hi=>hp i hi⟩
theorem ActsIn.below {w w':World} {v:Value} {l:List AcT} (h:ActsIn w v l) (hb:Below w.heap.size w w'):ActsIn w' v l:=by
 obtain ⟨a,cap,rfl,hc⟩:=h
 refine ⟨a,cap,rfl,fun i hi=>?_⟩
 obtain ⟨b,off,e,h1,⟨c0,c1,c2,c3,c4⟩,h3⟩:=hc i hi
 have k:∀ j,w'.cell? ⟨b,j,none⟩=w.cell? ⟨b,j,none⟩:=fun j=>hb.cell (p:=⟨b,j,none⟩) h1
 exact ⟨b,off,e,Nat.lt_of_lt_of_le h1 hb.size,⟨(k _).trans c0,(k _).trans c1,(k _).trans c2,(k _).trans c3,(k _).trans c4⟩,h3⟩
def smallA (l:List AcT):Bool:=decide (l.length <= 80) && l.all fun p=>decide (p.2.2.2.1.size <= 200)
theorem Small_c (v:Value) (l:List AcT) (w:World) (h:ActsIn w v l) :
 Calls Tryz.prog 46 #[v] w fun e w'=>e=.returned (.bool (smallA l)) /\ Hid (Below w.heap.size w w'):=by
 obtain ⟨a,cap,rfl,hc⟩:=h
 have HC:=Hd hc
 clear hc
 by_cases h80:l.length <= 80
 ·have d0:decide ((l.length:Int) > 80)=false:=decide_eq_false (by omega)
  go_enter Tryz.func46,Tryz.ntmps46
  go_wp2_with fail
  go_loopg [10] l.length (fun g s10 wr=>∃ i:Nat,g=l.length - i /\ i <= l.length /\ s10=.int .i64 (i:Int) /\ Hid ((∀ p ∈ l.take i,p.2.2.2.1.size <= 200) /\ Below w.heap.size w wr))
  case atStart=>exact ⟨0,rfl,Nat.zero_le _,rfl,Hd ⟨by simp,Below.refl _ _⟩⟩
  case round =>
   obtain ⟨i,rfl,hi,rfl,HI⟩:=hrel
   by_cases hlt:i < l.length
   ·obtain ⟨b,off,rfl,hb,⟨c0,c1,c2,c3,c4⟩,-⟩:=HC.out i hlt
    have k:∀ j,wr.cell? ⟨b,j,none⟩=w.cell? ⟨b,j,none⟩:=fun j=>HI.out.2.cell (p:=⟨b,j,none⟩) hb
    replace c0:=(k _).trans c0
    replace c1:=(k _).trans c1
    replace c2:=(k _).trans c2
    replace c3:=(k _).trans c3
    replace c4:=(k _).trans c4
    have HTK:Hid (l.take (i + 1)=l.take i ++ [l[i]]):=Hd (List.take_succ_eq_append_getElem hlt)
    have HM:=Hd (List.getElem_mem hlt)
    have HB2:=Hd fun o=>HI.out.2.alloc HI.out.2.size o
    have HA:=Hd HI.out.1
    clear k HI hb
    generalize l[i]=p at *
    obtain ⟨p0,p1,p2,t,rw_⟩:=p
    simp only at c0 c1 c2 c3 c4
    by_cases hs:t.size <= 200
    ·have d1:decide ((t.size:Int) > 200)=false:=decide_eq_false (by omega)
     have HN:Hid (∀ q ∈ l.take (i + 1),q.2.2.2.1.size <= 200):=Hd fun q hq=>by
      rw [HTK.out] at hq
      rcases List.mem_append.1 hq with h | h
      ·exact HA.out q h
      ·simp at h; subst h; exact hs
     clear hs
     go_wp2_with fail
     go_roundg (l.length - (i + 1))
     case measure=>omega
     case rel=>exact ⟨i + 1,rfl,by omega,by congr 1,Hd ⟨HN.out,HB2.out _⟩⟩
    ·have d1:decide ((t.size:Int) > 200)=true:=decide_eq_true (by omega)
     have HE:=Hd (show smallA l=false by
      unfold smallA
      rw [Bool.and_eq_false_iff]; right
      rw [List.all_eq_false]
      exact ⟨_,HM.out,by simpa using hs⟩)
     clear hs
     go_wp2_with fail
     go_ret
     exact ⟨ret_bool HE.out.symm,Hd (HB2.out _)⟩
   ·obtain rfl:i=l.length:=by omega
    have HE:=Hd (show smallA l=true by
     unfold smallA
     have:=HI.out.1
     rw [List.take_length] at this
     simp only [Bool.and_eq_true,decide_eq_true_eq,List.all_eq_true]
     exact ⟨h80,this⟩)
    have HB2:=Hd HI.out.2
    clear HI hlt hi
    go_wp2_with fail
    go_ret
    exact ⟨ret_bool HE.out.symm,HB2⟩
 ·have d0:decide ((l.length:Int) > 80)=true:=decide_eq_true (by omega)
  have HE:=Hd (show smallA l=false by unfold smallA; simp [h80])
  clear h80
  go_enter Tryz.func46,Tryz.ntmps46
  go_wp2_with fail
  go_ret
  exact ⟨ret_bool HE.out.symm,Hd (Below.refl _ _)⟩
theorem Pending_rc (v:Value) (C:List RCk) (L:List REn) (id:ByteArray) (w:World) (h:StR w v C L) (hL:L.length <= 100000) (hb:∀ e ∈ L,-1 <= e.2 /\ e.2 <= 1) :
 Calls Tryz.prog 101 #[v,.string id] w fun e w'=>e=.returned (.tuple #[.int .i64 (pendR L id).1,.int .i64 ((pendR L id).2:Int)]) /\ Hid (Below w.heap.size w w'):=by
 obtain ⟨va,vl,rfl,-,h1⟩:=h
 obtain ⟨wb,hwb⟩:=exE (w.alloc (.cells #[va,vl] 52))
 have HB:Hid (Below w.heap.size w wb):=Hd (by rw [<- hwb]; exact (Below.refl _ _).alloc (Nat.le_refl _) _)
 have HR:=Hd (h1.below HB.out)
 have cb:wb.cell? ⟨w.heap.size,1,none⟩=some vl:=by rw [<- hwb]; exact cell_lit (heap_alloc_new _ _) rfl
 obtain ⟨a,cap,rfl,hcap⟩:=h1.form
 have HLL:=Hd hL
 have HBB:=Hd hb
 clear h1 hcap hL hb
 go_enter Tryz.func101,Tryz.ntmps101
 go_wp2_with fail
 clear hwb
 go_loopg [6,7,8] L.length (fun g s6 s7 s8 wr=>∃ (k:Nat) (q:Int × Nat),g=L.length - k /\ k <= L.length /\ s6=.int .i64 q.1 /\ s7=.int .i64 (q.2:Int) /\ s8=.int .i64 (k:Int) /\ Hid (pendR (L.take k) id=q) /\ wb=wr)
 case atStart=>exact ⟨0,(0,0),rfl,Nat.zero_le _,rfl,rfl,rfl,Hd rfl,rfl⟩
 case round =>
  obtain ⟨k,⟨q1,q2⟩,rfl,hk,rfl,rfl,rfl,HQ,rfl⟩:=hrel
  simp only
  by_cases hlt:k < L.length
  ·obtain ⟨c1,c2⟩:=enC_get hlt
   obtain ⟨b,off,rfl,hb,hc⟩:=HR.out.get c1
   have ck:=hc _ _ c1
   have ck2:wb.cell? ⟨b,off + k * 2 + 1,none⟩=some (.int .i64 L[k].2):=hc _ _ c2
   have HLT:=Hd hlt
   have hsm:L.length <= 100000:=HLL.out
   have hpn:pendR (L.take (k + 1)) id=if L[k].1=id then ((pendR (L.take k) id).1 + L[k].2,(pendR (L.take k) id).2 + 1) else pendR (L.take k) id:=by
    rw [List.take_succ_eq_append_getElem hlt]; exact pendR_snoc (L.take k) L[k] id
   rw [HQ.out] at hpn
   have hpa:=pendR_abs (L:=L.take k) id (fun e he=>HBB.out e (List.mem_of_mem_take he))
   have hpl:=pendR_len (L.take k) id
   rw [HQ.out,List.length_take] at hpa hpl
   have hby:=HBB.out _ (List.getElem_mem hlt)
   simp only at hpa hpl
   have HWR:=Hd (wrap_up hlt (by omega))
   by_cases he:L[k].1=id
   ·rw [if_pos he] at hpn
    have heq:(L[k].1.toList == id.toList)=true:=by rw [he]; simp
    have e1:Hid (wrap64 (q1 + L[k].2)=q1 + L[k].2):=Hd (by unfold wrap64; omega)
    have e2:Hid (wrap64 ((q2:Int) + 1)=((q2 + 1:Nat):Int)):=Hd (by unfold wrap64; push_cast; omega)
    have HP:=Hd hpn
    clear hc he hpn hpa hpl hby HQ c1 c2
    generalize L[k].1=i at *
    generalize L[k].2=y at *
    go_wp2_with fail
    go_roundg (L.length - (k + 1))
    case measure=>have:=HLT.out; omega
    case rel=>exact ⟨k + 1,_,rfl,HLT.out,congrArg (Value.int .i64) e1.out,congrArg (Value.int .i64) e2.out,by congr 1,HP,rfl⟩
   ·rw [if_neg he] at hpn
    have heq:(L[k].1.toList == id.toList)=false:=ba_neR he
    have HP:=Hd hpn
    clear hc he hpn hpa hpl hby HQ c1 c2
    generalize L[k].1=i at *
    generalize L[k].2=y at *
    go_wp2_with fail
    go_roundg (L.length - (k + 1))
    case measure=>have:=HLT.out; omega
    case rel=>exact ⟨k + 1,_,rfl,HLT.out,rfl,rfl,by congr 1,HP,rfl⟩
  ·obtain rfl:k=L.length:=by omega
   have hq:=HQ.out
   rw [List.take_length] at hq
   have HE:=Hd hq
   clear HQ hq hk hlt
   go_wp2_with fail
   go_ret2
   rw [HE.out]
   exact ⟨rfl,HB⟩
theorem Add_rc0 (v:Value) (C:List RCk) (L:List REn) (id:ByteArray) (by_ er:Int) (w:World) (h:StR w v C L) (hC:C.length <= 1000000) (h1:((by_ ≠ 1 /\ by_ ≠ -1) /\ er=1) \/ ((by_=1 \/ by_=-1) /\ fndR C id=none /\ er=6)) :
 Calls Tryz.prog 99 #[v,.string id,.int .i64 by_] w fun e w'=>∃ v',e=.returned (.tuple #[v',.int .i64 er]) /\ Hid ((StR w' v' C L /\ Below w.heap.size w w') /\ ∀ D,StLoc D v -> StLoc (fun b=>D b \/ w.heap.size <= b) v'):=by
 have HST:=Hd h
 obtain ⟨va,vl,rfl,h2,h3⟩:=h
 obtain ⟨aA,cA,rfl,-⟩:=h2.form
 obtain ⟨aL,cL,rfl,-⟩:=h3.form
 have B0:=BoxW.start w (.slice aA C.length cA) (.slice aL L.length cL)
 obtain ⟨wb,hwb⟩:=exE ((w.alloc (.cells #[.slice aA C.length cA,.slice aL L.length cL] 52)).alloc (.cells #[.slice none 0 0,.slice none 0 0] 52))
 rw [hwb] at B0
 have HB0:=Hd B0
 have HG:Hid (∀ W,BoxW w (.slice aA C.length cA) (.slice aL L.length cL) W -> (StR ((W.setCell ⟨w.heap.size + 1,0,none⟩ (.slice aA C.length cA)).setCell ⟨w.heap.size + 1,1,none⟩ (.slice aL L.length cL)) (.agg #[.slice aA C.length cA,.slice aL L.length cL]) C L /\ Below w.heap.size w ((W.setCell ⟨w.heap.size + 1,0,none⟩ (.slice aA C.length cA)).setCell ⟨w.heap.size + 1,1,none⟩ (.slice aL L.length cL))) /\ ∀ D,StLoc D (.agg #[.slice aA C.length cA,.slice aL L.length cL]) -> StLoc (fun b=>D b \/ w.heap.size <= b) (.agg #[.slice aA C.length cA,.slice aL L.length cL])):=Hd fun W hW=>by
  have o5:=(hW.out (.slice aA C.length cA) (.slice aL L.length cL)).2.2.2.2
  exact ⟨⟨HST.out.below o5,o5⟩,fun D hD=>hD.mono fun b hb=>Or.inl hb⟩
 rcases h1 with ⟨⟨n1,n2⟩,rfl⟩ | ⟨h1,hf,rfl⟩
 ·obtain ⟨x0,x1,x2,x3,x4⟩:=B0.cells
  obtain ⟨r0,r1,r2,r3,r4⟩:=B0.res
  obtain ⟨o1,o2,o3,o4,o5⟩:=B0.out (.slice aA C.length cA) (.slice aL L.length cL)
  have d1:(by_ != 1)=true:=by simpa using n1
  have d2:(by_ != -1)=true:=by simpa using n2
  have HF:=Hd (HG.out _ B0)
  clear B0 h2 h3 n1 n2 HG o5
  go_enter Tryz.func99,Tryz.ntmps99
  go_wp2_with fail
  (try simp only [Exit.inBlock,Exit.then])
  refine bodyPost_ret (v:=.tuple #[.agg #[.slice aA C.length cA,.slice aL L.length cL],.int .i64 1]) ?_ rfl ⟨_,rfl,HF⟩
  rw [results_cell_tmp rfl]
  go_simp
 ·have AT:=At_rc (.agg #[.slice aA C.length cA,.slice aL L.length cL]) C L id wb (HST.out.below B0.bel) hC
  rw [(ixR_none hf).1] at AT
  obtain ⟨x0,x1,x2,x3,x4⟩:=B0.cells
  clear B0 hf h2 h3
  rcases h1 with rfl | rfl
  all_goals (
   go_enter Tryz.func99,Tryz.ntmps99
   go_wp2_with fail
   refine AT.mono ?_
   rintro e w2 ⟨rfl,H2⟩
   have HB2:=Hd (HB0.out.below H2.out)
   clear AT H2 hwb x0 x1 x2 x3 x4
   obtain ⟨x0,x1,x2,x3,x4⟩:=HB2.out.cells
   obtain ⟨r0,r1,r2,r3,r4⟩:=HB2.out.res
   obtain ⟨o1,o2,o3,o4,-⟩:=HB2.out.out (.slice aA C.length cA) (.slice aL L.length cL)
   have HF:=Hd (HG.out _ HB2.out)
   clear HG
   go_wp2_with fail
   (try simp only [Exit.inBlock,Exit.then])
   refine bodyPost_ret (v:=.tuple #[.agg #[.slice aA C.length cA,.slice aL L.length cL],.int .i64 6]) ?_ rfl ⟨_,rfl,HF⟩
   rw [results_cell_tmp rfl]
   go_simp)
theorem Put_rc0 (v:Value) (C:List RCk) (L:List REn) (t:ByteArray) (w:World) (h:StR w v C L) (ht:t.size < 1 \/ 128 < t.size) :
 Calls Tryz.prog 97 #[v,.string t] w fun e w'=>∃ v',e=.returned (.tuple #[v',.string ⟨#[]⟩,.bool false,.int .i64 1]) /\ Hid ((StR w' v' C L /\ Below w.heap.size w w') /\ ∀ D,StLoc D v -> StLoc (fun b=>D b \/ w.heap.size <= b) v'):=by
 have HST:=Hd h
 obtain ⟨va,vl,rfl,h2,h3⟩:=h
 obtain ⟨aA,cA,rfl,-⟩:=h2.form
 obtain ⟨aL,cL,rfl,-⟩:=h3.form
 have B0:=BoxW.start w (.slice aA C.length cA) (.slice aL L.length cL)
 obtain ⟨wb,hwb⟩:=exE ((w.alloc (.cells #[.slice aA C.length cA,.slice aL L.length cL] 52)).alloc (.cells #[.slice none 0 0,.slice none 0 0] 52))
 rw [hwb] at B0
 obtain ⟨x0,x1,x2,x3,x4⟩:=B0.cells
 obtain ⟨r0,r1,r2,r3,r4⟩:=B0.res
 obtain ⟨o1,o2,o3,o4,o5⟩:=B0.out (.slice aA C.length cA) (.slice aL L.length cL)
 have HF:=Hd (And.intro (And.intro (HST.out.below o5) o5) (fun D (hD:StLoc D (.agg #[.slice aA C.length cA,.slice aL L.length cL]))=>hD.mono (D':=fun b=>D b \/ w.heap.size <= b) fun b hb=>Or.inl hb))
 clear B0 h2 h3 o5
 rcases Nat.lt_or_ge t.size 1 with q1 | q1
 ·have d0:decide ((t.size:Int) < 1)=true:=decide_eq_true (by omega)
  clear ht q1
  go_enter Tryz.func97,Tryz.ntmps97
  go_wp2_with fail
  (try simp only [Exit.inBlock,Exit.then])
  refine bodyPost_ret (v:=.tuple #[.agg #[.slice aA C.length cA,.slice aL L.length cL],.string ⟨#[]⟩,.bool false,.int .i64 1]) ?_ rfl ⟨_,rfl,HF⟩
  rw [results_cell_tmp3 rfl]
  go_simp
 ·have d0:decide ((t.size:Int) < 1)=false:=decide_eq_false (by omega)
  have d1:decide ((t.size:Int) > 128)=true:=decide_eq_true (by omega)
  clear ht q1
  go_enter Tryz.func97,Tryz.ntmps97
  go_wp2_with fail
  (try simp only [Exit.inBlock,Exit.then])
  refine bodyPost_ret (v:=.tuple #[.agg #[.slice aA C.length cA,.slice aL L.length cL],.string ⟨#[]⟩,.bool false,.int .i64 1]) ?_ rfl ⟨_,rfl,HF⟩
  rw [results_cell_tmp3 rfl]
  go_simp
theorem ckC_set:∀ (C:List RCk) (k:Nat) (hk:k < C.length) (q:Int),(ckC C).set (k * 3 + 2) (.int .i64 q)=ckC (C.set k (C[k].1,C[k].2.1,q))
 | [],k,hk,x=>by simp at hk
 | p :: R,0,hk,x=>rfl
 | p :: R,k + 1,hk,x=>by
   have ih:=ckC_set R k (by simpa using hk) x
   have e:∀ (q:RCk) (R:List RCk),ckC (q :: R)=.string q.1 :: .string q.2.1 :: .int .i64 q.2.2 :: ckC R:=fun _ _=>rfl
   rw [e,show (k + 1) * 3 + 2=k * 3 + 2 + 1 + 1 + 1 by omega,List.set_cons_succ,List.set_cons_succ,List.set_cons_succ,ih,List.set_cons_succ,e]
   rfl
theorem BoxW.setH {w W:World} {va vl:Value} (h:BoxW w va vl W) {x:Nat} (hx:w.heap.size + 2 <= x) (i:Nat) (u:Value):BoxW w va vl (W.setCell ⟨x,i,none⟩ u) :=
 ⟨(heap_set_ne _ (by omega)).trans h.b,(heap_set_ne _ (by omega)).trans h.r,h.bel.setCell (p:=⟨x,i,none⟩) (by show w.heap.size <= x; omega) _⟩
theorem Apply_rc0 (v:Value) (C:List RCk) (L:List REn) (id:ByteArray) (by_ er:Int) (w:World) (h:StR w v C L) (hC:C.length <= 1000000) (h1:((by_ ≠ 1 /\ by_ ≠ -1) /\ er=1) \/ ((by_=1 \/ by_=-1) /\ fndR C id=none /\ er=6)) :
 Calls Tryz.prog 100 #[v,.string id,.int .i64 by_] w fun e w'=>∃ v',e=.returned (.tuple #[v',.int .i64 er]) /\ Hid ((StR w' v' C L /\ Below w.heap.size w w') /\ ∀ D,StLoc D v -> StLoc (fun b=>D b \/ w.heap.size <= b) v'):=by
 have HST:=Hd h
 obtain ⟨va,vl,rfl,h2,h3⟩:=h
 obtain ⟨aA,cA,rfl,-⟩:=h2.form
 obtain ⟨aL,cL,rfl,-⟩:=h3.form
 have B0:=BoxW.start w (.slice aA C.length cA) (.slice aL L.length cL)
 obtain ⟨wb,hwb⟩:=exE ((w.alloc (.cells #[.slice aA C.length cA,.slice aL L.length cL] 52)).alloc (.cells #[.slice none 0 0,.slice none 0 0] 52))
 rw [hwb] at B0
 have HB0:=Hd B0
 have HG:Hid (∀ W,BoxW w (.slice aA C.length cA) (.slice aL L.length cL) W -> (StR ((W.setCell ⟨w.heap.size + 1,0,none⟩ (.slice aA C.length cA)).setCell ⟨w.heap.size + 1,1,none⟩ (.slice aL L.length cL)) (.agg #[.slice aA C.length cA,.slice aL L.length cL]) C L /\ Below w.heap.size w ((W.setCell ⟨w.heap.size + 1,0,none⟩ (.slice aA C.length cA)).setCell ⟨w.heap.size + 1,1,none⟩ (.slice aL L.length cL))) /\ ∀ D,StLoc D (.agg #[.slice aA C.length cA,.slice aL L.length cL]) -> StLoc (fun b=>D b \/ w.heap.size <= b) (.agg #[.slice aA C.length cA,.slice aL L.length cL])):=Hd fun W hW=>by
  have o5:=(hW.out (.slice aA C.length cA) (.slice aL L.length cL)).2.2.2.2
  exact ⟨⟨HST.out.below o5,o5⟩,fun D hD=>hD.mono fun b hb=>Or.inl hb⟩
 rcases h1 with ⟨⟨n1,n2⟩,rfl⟩ | ⟨h1,hf,rfl⟩
 ·obtain ⟨x0,x1,x2,x3,x4⟩:=B0.cells
  obtain ⟨r0,r1,r2,r3,r4⟩:=B0.res
  obtain ⟨o1,o2,o3,o4,o5⟩:=B0.out (.slice aA C.length cA) (.slice aL L.length cL)
  have d1:(by_ != 1)=true:=by simpa using n1
  have d2:(by_ != -1)=true:=by simpa using n2
  have HF:=Hd (HG.out _ B0)
  clear B0 h2 h3 n1 n2 HG o5
  go_enter Tryz.func100,Tryz.ntmps100
  go_wp2_with fail
  (try simp only [Exit.inBlock,Exit.then])
  refine bodyPost_ret (v:=.tuple #[.agg #[.slice aA C.length cA,.slice aL L.length cL],.int .i64 1]) ?_ rfl ⟨_,rfl,HF⟩
  rw [results_cell_tmp rfl]
  go_simp
 ·have AT:=At_rc (.agg #[.slice aA C.length cA,.slice aL L.length cL]) C L id wb (HST.out.below B0.bel) hC
  rw [(ixR_none hf).1] at AT
  obtain ⟨x0,x1,x2,x3,x4⟩:=B0.cells
  clear B0 hf h2 h3
  rcases h1 with rfl | rfl
  all_goals (
   go_enter Tryz.func100,Tryz.ntmps100
   go_wp2_with fail
   refine AT.mono ?_
   rintro e w2 ⟨rfl,H2⟩
   have HB2:=Hd (HB0.out.below H2.out)
   clear AT H2 hwb x0 x1 x2 x3 x4
   obtain ⟨x0,x1,x2,x3,x4⟩:=HB2.out.cells
   obtain ⟨r0,r1,r2,r3,r4⟩:=HB2.out.res
   obtain ⟨o1,o2,o3,o4,-⟩:=HB2.out.out (.slice aA C.length cA) (.slice aL L.length cL)
   have HF:=Hd (HG.out _ HB2.out)
   clear HG
   go_wp2_with fail
   (try simp only [Exit.inBlock,Exit.then])
   refine bodyPost_ret (v:=.tuple #[.agg #[.slice aA C.length cA,.slice aL L.length cL],.int .i64 6]) ?_ rfl ⟨_,rfl,HF⟩
   rw [results_cell_tmp rfl]
   go_simp)
theorem Apply_rc1 (v:Value) (C:List RCk) (L:List REn) (id:ByteArray) (by_:Int) (w:World) (h:StR w v C L) (hC:C.length <= 1000000) (h1:by_=1 \/ by_=-1) (c:RCk) (hf:fndR C id=some c) (hc:-1000000000 <= c.2.2 /\ c.2.2 <= 1000000000) :
 Calls Tryz.prog 100 #[v,.string id,.int .i64 by_] w fun e w'=>∃ v',e=.returned (.tuple #[v',.int .i64 0]) /\ Hid ((StR w' v' (incR C id by_) L /\ Below w.heap.size w w') /\ ∀ D,StLoc D v -> StLoc (fun b=>D b \/ w.heap.size <= b) v'):=by
 obtain ⟨jC,hjC,hC0,hC1,hC2⟩:=info_parts infoCk
 have HST:=Hd h
 obtain ⟨va,vl,rfl,h2,h3⟩:=h
 obtain ⟨aA,cA,rfl,-⟩:=h2.form
 obtain ⟨aL,cL,rfl,-⟩:=h3.form
 have B0:=BoxW.start w (.slice aA C.length cA) (.slice aL L.length cL)
 obtain ⟨wb,hwb⟩:=exE ((w.alloc (.cells #[.slice aA C.length cA,.slice aL L.length cL] 52)).alloc (.cells #[.slice none 0 0,.slice none 0 0] 52))
 rw [hwb] at B0
 have HB0:=Hd B0
 have AT:=At_rc (.agg #[.slice aA C.length cA,.slice aL L.length cL]) C L id wb (HST.out.below B0.bel) hC
 obtain ⟨i,hi,hci,hx,hno⟩:=ixR_some hf
 rw [hx] at AT
 have hid:C[i].1=id:=by rw [hci]; have:=List.find?_some hf; simpa using this
 have HINC:Hid (∀ d,ckC (incR C id d)=(ckC C).set (i * 3 + 2) (.int .i64 (c.2.2 + d)) /\ (incR C id d).length=C.length):=Hd fun d=>by
  refine ⟨?_,incR_len C id d⟩
  rw [incR_set hi hid hno,ckC_set C i hi,hci]
 have hi0:((i:Int) < 0)=False:=eq_false (by omega)
 have HCC:=Hd hC
 have HVL:=Hd h3
 have HVA:=Hd h2
 have HI:=Hd hi
 have HCK:Hid ((ckC C)[i * 3 + 2]?=some (.int .i64 c.2.2)):=Hd (by rw [(ckC_get hi).2.2,hci])
 obtain ⟨x0,x1,x2,x3,x4⟩:=B0.cells
 clear B0 hx hf h2 h3 hno hid
 have HCB:=Hd hc
 clear hc
 generalize c.2.2=q at *
 have hil:i < C.length:=hi
 clear hi hci
 rcases h1 with rfl | rfl
 ·have kw:IntKind.i64.wrap (q + 1)=q + 1:=wrap_sgn (by have:=HCB.out; omega) (by have:=HCB.out; omega)
  go_enter Tryz.func100,Tryz.ntmps100
  go_wp2_with fail
  refine AT.mono ?_
  rintro e w2 ⟨rfl,H2⟩
  have HB2:=Hd (HB0.out.below H2.out)
  clear AT H2 hwb x0 x1 x2 x3 x4
  obtain ⟨x0,x1,x2,x3,x4⟩:=HB2.out.cells
  have HZ:Hid (w.heap.size + 2 <= w2.heap.size):=Hd (by have:=lt_of_heap HB2.out.r; omega)
  have HO1:Hid ((w2.alloc (.cells #[] 175)).ownsRow (w.heap.size + 2) 175 3 (.slice (some ⟨w2.heap.size,0,none⟩) 0 0) 0 []):=Hd (World.ownsRow_lit w2 #[] 0 HZ.out (by decide) rfl)
  have HBa:=Hd (HB2.out.below ((Below.refl _ _).alloc (Nat.le_refl _) (.cells #[] 175)))
  have HY1:Hid (Yields (w2.alloc (.cells #[] 175)) (.slice aA C.length cA) C.length (ckC C)):=Hd ((HVA.out.below (HBa.out.bel)).yields)
  have L1:=Hd (show 0 + C.length <= maxLen /\ (0 + C.length) * 40 <= 140737488355328 from ⟨by have:=HCC.out; unfold maxLen; omega,by have:=HCC.out; omega⟩)
  have HZ1:Hid (w.heap.size + 2 <= (w2.alloc (.cells #[] 175)).heap.size):=Hd (by have:=HZ.out; simp; omega)
  go_wp2_with (
   (refine chkA 49 49 ⟨_,_,by with_reducible rfl⟩ ?_
    refine wpList_append_y (by rfl) _ _ _ rfl (w.heap.size + 2) 175 jC _ 3 40 Tryz.underlying49 hjC hC0 hC1 hC2 rfl (by decide) _ _ _ (by rfl) HO1.out _ C.length (ckC C) (by rfl) HY1.out (ckC_len C) (ckC_one C) L1.out.1 L1.out.2 HZ1.out ?_
    intro v3 W3 ho3 hg3 ha3
    rw [Nat.zero_add] at ho3
    rw [List.nil_append] at ho3
    obtain ⟨g3,c3,rfl,k3⟩:=own_form ho3 (by omega)
    have cg3:=(ho3.cellAt (i * 3 + 2) (by omega)).trans HCK.out
    have fg3:=ho3.frozenAt (i * 3 + 2)
    have lg3:=(ho3.lt g3 rfl).2
    have hB3:=HBa.out.grown hg3 fun j e=>(HO1.out.lt j e).1
    have hB4:=hB3.setH k3 (i * 3 + 2) (.int .i64 (q + 1))
    have ho4:=(ho3.stored (i * 3 + 2) (.int .i64 (q + 1))).1
    have hB5:=hB4.set (.slice (some ⟨g3,0,none⟩) C.length c3)
    obtain ⟨y0,y1,y2,y3,y4⟩:=hB4.cells
    obtain ⟨z0,z1,z2,z3,z4⟩:=hB5.cells
    obtain ⟨r0,r1,r2,r3,r4⟩:=hB5.res
    obtain ⟨o1,o2,o3,o4,o5⟩:=hB5.out (.slice (some ⟨g3,0,none⟩) C.length c3) (.slice aL L.length cL)
    have HG:=Hd (And.intro (And.intro (StR.put5 (C:=incR C id 1) (HVL.out.below o5) (by rw [(HINC.out _).1,(HINC.out _).2]; exact RdRow.own ho4) k3) o5) (fun D (hD:StLoc D (.agg #[.slice aA C.length cA,.slice aL L.length cL]))=>StLoc.newA (n:=(incR C id 1).length) (c5:=c3) hD (Nat.le_trans (Nat.le_add_right _ 2) k3)))
    rw [(HINC.out _).2] at HG
    clear ho3 hg3 ha3 hB3 hB4 hB5 ho4 o5 k3))
  (try simp only [Exit.inBlock,Exit.then])
  refine bodyPost_ret (v:=.tuple #[.agg #[.slice (some ⟨g3,0,none⟩) C.length c3,.slice aL L.length cL],.int .i64 0]) ?_ rfl ⟨_,rfl,HG⟩
  rw [results_cell_tmp rfl]
  go_simp
 ·have kw:IntKind.i64.wrap (q + -1)=q + -1:=wrap_sgn (by have:=HCB.out; omega) (by have:=HCB.out; omega)
  go_enter Tryz.func100,Tryz.ntmps100
  go_wp2_with fail
  refine AT.mono ?_
  rintro e w2 ⟨rfl,H2⟩
  have HB2:=Hd (HB0.out.below H2.out)
  clear AT H2 hwb x0 x1 x2 x3 x4
  obtain ⟨x0,x1,x2,x3,x4⟩:=HB2.out.cells
  have HZ:Hid (w.heap.size + 2 <= w2.heap.size):=Hd (by have:=lt_of_heap HB2.out.r; omega)
  have HO1:Hid ((w2.alloc (.cells #[] 175)).ownsRow (w.heap.size + 2) 175 3 (.slice (some ⟨w2.heap.size,0,none⟩) 0 0) 0 []):=Hd (World.ownsRow_lit w2 #[] 0 HZ.out (by decide) rfl)
  have HBa:=Hd (HB2.out.below ((Below.refl _ _).alloc (Nat.le_refl _) (.cells #[] 175)))
  have HY1:Hid (Yields (w2.alloc (.cells #[] 175)) (.slice aA C.length cA) C.length (ckC C)):=Hd ((HVA.out.below (HBa.out.bel)).yields)
  have L1:=Hd (show 0 + C.length <= maxLen /\ (0 + C.length) * 40 <= 140737488355328 from ⟨by have:=HCC.out; unfold maxLen; omega,by have:=HCC.out; omega⟩)
  have HZ1:Hid (w.heap.size + 2 <= (w2.alloc (.cells #[] 175)).heap.size):=Hd (by have:=HZ.out; simp; omega)
  go_wp2_with (
   (refine chkA 49 49 ⟨_,_,by with_reducible rfl⟩ ?_
    refine wpList_append_y (by rfl) _ _ _ rfl (w.heap.size + 2) 175 jC _ 3 40 Tryz.underlying49 hjC hC0 hC1 hC2 rfl (by decide) _ _ _ (by rfl) HO1.out _ C.length (ckC C) (by rfl) HY1.out (ckC_len C) (ckC_one C) L1.out.1 L1.out.2 HZ1.out ?_
    intro v3 W3 ho3 hg3 ha3
    rw [Nat.zero_add] at ho3
    rw [List.nil_append] at ho3
    obtain ⟨g3,c3,rfl,k3⟩:=own_form ho3 (by omega)
    have cg3:=(ho3.cellAt (i * 3 + 2) (by omega)).trans HCK.out
    have fg3:=ho3.frozenAt (i * 3 + 2)
    have lg3:=(ho3.lt g3 rfl).2
    have hB3:=HBa.out.grown hg3 fun j e=>(HO1.out.lt j e).1
    have hB4:=hB3.setH k3 (i * 3 + 2) (.int .i64 (q + -1))
    have ho4:=(ho3.stored (i * 3 + 2) (.int .i64 (q + -1))).1
    have hB5:=hB4.set (.slice (some ⟨g3,0,none⟩) C.length c3)
    obtain ⟨y0,y1,y2,y3,y4⟩:=hB4.cells
    obtain ⟨z0,z1,z2,z3,z4⟩:=hB5.cells
    obtain ⟨r0,r1,r2,r3,r4⟩:=hB5.res
    obtain ⟨o1,o2,o3,o4,o5⟩:=hB5.out (.slice (some ⟨g3,0,none⟩) C.length c3) (.slice aL L.length cL)
    have HG:=Hd (And.intro (And.intro (StR.put5 (C:=incR C id (-1)) (HVL.out.below o5) (by rw [(HINC.out _).1,(HINC.out _).2]; exact RdRow.own ho4) k3) o5) (fun D (hD:StLoc D (.agg #[.slice aA C.length cA,.slice aL L.length cL]))=>StLoc.newA (n:=(incR C id (-1)).length) (c5:=c3) hD (Nat.le_trans (Nat.le_add_right _ 2) k3)))
    rw [(HINC.out _).2] at HG
    clear ho3 hg3 ha3 hB3 hB4 hB5 ho4 o5 k3))
  (try simp only [Exit.inBlock,Exit.then])
  refine bodyPost_ret (v:=.tuple #[.agg #[.slice (some ⟨g3,0,none⟩) C.length c3,.slice aL L.length cL],.int .i64 0]) ?_ rfl ⟨_,rfl,HG⟩
  rw [results_cell_tmp rfl]
  go_simp
end Go.Proofs.YtdcjhpafipbpkaaGreatDoor
