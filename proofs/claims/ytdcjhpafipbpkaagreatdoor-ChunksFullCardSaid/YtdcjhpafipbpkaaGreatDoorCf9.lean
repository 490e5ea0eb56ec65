/- Parts of the proof of ChunksFull,joined: RfsF,RfsG,RfsH,RfsI,RcpS,RcpT,RcpU,RcpX,RcpY,RcpN,RcpO,RcpP,RcpZ,BldA,BldP,CrnS,CrnA,RfmA,RfmB,RfmC,RfmD,ChrC,ChrD,ChrE. No condition. -/
import Derived.Test.YtdcjhpafipbpkaaGreatDoorCf8
import Derived.Deep.RegionHeld3
set_option maxRecDepth 100000
set_option maxHeartbeats 8000000
set_option linter.unusedSimpArgs false
set_option linter.unusedVariables false
set_option linter.unusedSectionVars false
namespace Go.Proofs.YtdcjhpafipbpkaaGreatDoor
open Go.RowKit
variable {bse:List (Int × ByteArray)}
theorem znb (C:List Ck):(rC C).length=C.length:=by unfold rC;simp
theorem zsr (L:List Lg):(rL L).length=L.length:=by unfold rL;simp
theorem zss {C:List Ck} {i:Nat} (h:i<C.length):(rC C)[i]'(by rw [znb];exact h)=(C[i].id,C[i].text,C[i].cnt):=by simp [rC]
theorem zki:∀ {C:List Ck} {k:Nat} (h:k<C.length),(zgb C)[k*3]?=some (.string C[k].id)/\(zgb C)[k*3+1]?=some (.int .i64 (C[k].text.size:Int))/\(zgb C)[k*3+2]?=some (.int .i64 C[k].cnt)
 | [],k,h=>by simp at h
 | c::C,0,h=>⟨rfl,rfl,rfl⟩
 | c::C,k+1,h=>by
   have ih:=zki (C:=C) (k:=k) (by simpa using h)
   have e:zgb (c::C)=.string c.id::.int .i64 (c.text.size:Int)::.int .i64 c.cnt::zgb C:=rfl
   rw [e,show (k+1)*3=k*3+1+1+1 by omega]
   simp only [List.getElem?_cons_succ,List.getElem_cons_succ]
   exact ih
theorem zbX.cell {K:Nat->Prop} {w w':World} (h:zbX K w w') {b:Nat} (hb:K b) {i:Nat} {v:Value} (hc:w.cell? ⟨b,i,none⟩=some v):w'.cell? ⟨b,i,none⟩=some v:=by
 rw [<-hc];simp only [World.cell?,h b hb]
section
variable (w1 w w0:World) (K:Nat->Prop) (sb rb ti tl n N a nx:Nat) (C:List Ck) (L:List Lg) (X:List (Nat × ByteArray))
theorem zqT (v:Value) (h:Hid (Chs bse w1 w0 w K sb rb ti tl n N a C L nx X)) (hN:a<=N/\N<=1000) (hC:C.length<=100000) (hL:L.length<=100000) (hx:∀ c∈C,(c.page,c.text)∈X) (hst:StR w v (rC C) (rL L)) (hloc:zau K v) :
 Calls Tryz.prog 37 #[.pointer (some ⟨sb,0,none⟩),v] w λ e w'=>e=.returned (.bool true)/\Hid (Chs bse w1 w0 w' K sb rb ti tl n N a C L nx X):=by
 obtain ⟨va,vl,rfl,hA,hLg⟩:=hst
 obtain ⟨aA,cA,rfl,-⟩:=hA.form
 obtain ⟨aL,cL,rfl,-⟩:=hLg.form
 rw [znb,zsr] at *
 obtain ⟨wb,hwb⟩:=exE (w.alloc (.cells #[.slice aA C.length cA,.slice aL L.length cL] 52))
 have hB:Below w.heap.size w wb:=by rw [<-hwb];exact (zBr _ _).alloc (zNr _) _
 have hbl:wb.heap[w.heap.size]?=some (.cells #[.slice aA C.length cA,.slice aL L.length cL] 52 (0,0)):=by rw [<-hwb];exact heap_alloc_new _ _
 have M0:=Hd (h.out.new hB w.heap.size (zNr _) (zab hbl))
 have AL:=zsk w1 wb wb _ sb rb ti tl n N a nx C L X M0 hN (by omega)
 have HK0:=Hd (h.out.keep hB)
 have HBL:=Hd hbl
 have HHK:=Hd h.out.kept
 have HRA:Hid (∀ i (hi:i<C.length),∃ b off,aA=some ⟨b,off,none⟩/\K b/\∀ W,zbX K w W->W.cell? ⟨b,off+i*3,none⟩=some (.string C[i].id)/\W.cell? ⟨b,off+i*3+1,none⟩=some (.string C[i].text)/\W.cell? ⟨b,off+i*3+2,none⟩=some (.int .i64 C[i].cnt)):=Hd λ i hi=>by
  obtain ⟨c0,c1,c2⟩:=zcm (C:=rC C) (k:=i) (by rw [znb];exact hi)
  rw [zss hi] at c0 c1 c2
  obtain ⟨b,off,rfl,hb,hc⟩:=hA.get c0
  obtain ⟨va',vl',e',hl1,-⟩:=hloc
  cases e'
  have hKb:=hl1 b rfl
  exact ⟨b,off,rfl,hKb,λ W hW=>⟨hW.cell hKb (hc _ _ c0),hW.cell hKb (hc _ _ c1),hW.cell hKb (hc _ _ c2)⟩⟩
 have HSR:=Hd h.out.ok.2.1
 have HNN:=Hd hN
 have HXX:=Hd hx
 have HCL:=Hd hC
 have HLL:=Hd hL
 have HOK:=Hd h.out.ok.1
 clear hA hLg hB hbl hN hx hloc hC hL
 go_enter Tryz.func37,Tryz.ntmps37
 go_wp2_with fail
 refine AL.mono ?_
 rintro e w2 ⟨vr,rfl,H2⟩
 have M2:=Hd H2.out.2.1
 have WT:=zqF w1 w2 w2 _ sb rb ti tl n N a nx C L X M2 HNN.out (by have:=HLL.out;omega)
 have HK2:=Hd H2.out.2.2
 have HRO:=Hd H2.out.1
 obtain ⟨ra,rc,rfl⟩:∃ ra rc,vr=.slice ra C.length rc:=by
  rcases H2.out.1.2 with ⟨rfl,h0⟩|⟨g,cap,cur,rfl,-⟩
  ·exact ⟨_,_,by rw [h0]⟩
  ·exact ⟨_,_,rfl⟩
 clear AL H2 M0 hwb
 go_wp2_with fail
 refine WT.mono ?_
 rintro e w3 ⟨rfl,H3⟩
 have hk3:=HK2.out.trans (H3.out.kept.mono λ k hk=>Or.inl hk)
 have x0:=hk3.cell (.inr rfl) (zaa HBL.out (i:=0) rfl)
 have x1:=hk3.cell (.inr rfl) (zaa HBL.out (i:=1) rfl)
 have hcl:C.length<=100000:=HCL.out
 have hll:L.length<=100000:=HLL.out
 have HK3:=Hd hk3
 have HRR:Hid (∀ i (hi:i<C.length),∃ g,ra=some ⟨g,0,none⟩/\∀ W,zbX (λ k=>(K k\/k=w.heap.size)\/(Value.slice ra C.length rc).ownBlock=some k) w3 W->W.cell? ⟨g,i*3,none⟩=some (.string C[i].id)/\W.cell? ⟨g,i*3+1,none⟩=some (.int .i64 (C[i].text.size:Int))/\W.cell? ⟨g,i*3+2,none⟩=some (.int .i64 C[i].cnt)):=Hd λ i hi=>by
  obtain ⟨g,rfl⟩:∃ g,ra=some ⟨g,0,none⟩:=by
   rcases HRO.out.2 with ⟨e,h0⟩|⟨g,cap,cur,e,-⟩
   ·omega
   ·cases e;exact ⟨g,rfl⟩
  obtain ⟨c0,c1,c2⟩:=zki hi
  have d0:=HRO.out.cells rfl _ _ c0
  have d1:=HRO.out.cells rfl _ _ c1
  have d2:=HRO.out.cells rfl _ _ c2
  rw [zbk,Nat.zero_add] at d0 d1 d2
  refine ⟨g,rfl,λ W hW=>?_⟩
  have hh:=H3.out.kept.trans hW
  exact ⟨hh.cell (.inr rfl) d0,hh.cell (.inr rfl) d1,hh.cell (.inr rfl) d2⟩
 have R0:Hid (Chs bse w1 w3 w3 (λ k=>(K k\/k=w.heap.size)\/(Value.slice ra C.length rc).ownBlock=some k) sb rb ti tl n N a C L nx X):=Hd H3.out.reset
 clear WT H3 M2 hk3
 go_wp2_with fail
 go_loopg [47] C.length (λ g s47 wr=>∃ i:Nat,g=C.length-i/\i<=C.length/\s47=.int .i64 (i:Int)/\Hid (Chs bse w1 w3 wr (λ k=>(K k\/k=w.heap.size)\/(Value.slice ra C.length rc).ownBlock=some k) sb rb ti tl n N a C L nx X))
 case atStart=>exact ⟨0,rfl,zNz _,rfl,R0⟩
 case round =>
  obtain ⟨i,rfl,hi,rfl,HI⟩:=hrel
  clear R0 x0 x1
  have hkr:=HI.out.kept
  have hx0:=hkr.cell (.inl (.inr rfl)) (HK3.out.cell (.inr rfl) (zaa HBL.out (i:=0) rfl))
  by_cases hlt:i<C.length
  ·obtain ⟨b,off,rfl,hb,hA⟩:=HRA.out i hlt
   obtain ⟨g,rfl,hR⟩:=HRR.out i hlt
   obtain ⟨r0,r1,r2⟩:=hR wr hkr
   obtain ⟨wy,hwy⟩:=exE (wr.alloc (.cells #[.string C[i].id,.int .i64 (C[i].text.size:Int),.int .i64 C[i].cnt] 106))
   obtain ⟨wx,hwx⟩:=exE (wy.alloc (.cells #[.string C[i].id,.string C[i].text,.int .i64 C[i].cnt] 175))
   have hby:Below wr.heap.size wr wy:=by rw [<-hwy];exact (zBr _ _).alloc (zNr _) _
   have hys:wy.heap.size=wr.heap.size+1:=by rw [<-hwy];simp
   have hbx:Below wr.heap.size wr wx:=by rw [<-hwx];exact hby.alloc hby.size _
   have hxs:wx.heap.size=wr.heap.size+1+1:=by rw [<-hwx,<-hys];simp
   have hky:zbX K w wy:=((HK0.out.trans (HK3.out.mono λ k hk=>.inl hk)).trans (hkr.mono λ k hk=>.inl (.inl hk))).trans ((HI.out.mono (K':=K) λ k hk=>.inl (.inl hk)).keep hby)
   obtain ⟨a0,a1,a2⟩:=hA wy hky
   have hxy:=(HI.out.keep hby).cell (.inl (.inr rfl)) hx0
   have hy:wy.heap[wr.heap.size]?=some (.cells #[.string C[i].id,.int .i64 (C[i].text.size:Int),.int .i64 C[i].cnt] 106 (0,0)):=by rw [<-hwy];exact heap_alloc_new _ _
   have hyx:wx.heap[wr.heap.size]?=some (.cells #[.string C[i].id,.int .i64 (C[i].text.size:Int),.int .i64 C[i].cnt] 106 (0,0)):=by rw [<-hy,<-hwx];exact ((zBr wy.heap.size wy).alloc (zNr _) _).block _ (by omega)
   have hxx:wx.heap[wr.heap.size+1]?=some (.cells #[.string C[i].id,.string C[i].text,.int .i64 C[i].cnt] 175 (0,0)):=by rw [<-hwx,<-hys];exact heap_alloc_new _ _
   have HX:Hid (Chs bse w1 wx wx (λ k=>((K k\/k=w.heap.size)\/(Value.slice (some ⟨g,0,none⟩) C.length rc).ownBlock=some k)\/(wr.heap.size<=k/\k<wx.heap.size)) sb rb ti tl n N a C L nx X):=Hd (HI.out.updN (F:=λ _=>False) ⟨hbx.os,hbx.tape,hbx.output,hbx.size,λ k hk _=>hbx.block k hk⟩ λ _ h=>h.elim)
   have GT:=ziX w1 wx wx _ sb rb ti tl n N a nx C L X C[i].id C[i] HX HNN.out (by have:=(HOK.out C[i] (List.getElem_mem hlt)).id;omega) (zph HSR.out (List.getElem_mem hlt)) (HXX.out C[i] (List.getElem_mem hlt))
   have z0:=zaa hyx (i:=0) rfl
   have HYX:=Hd (And.intro hyx hxx)
   have HKX:=Hd (hkr.trans (HI.out.keep hbx))
   have HGO:Hid (∀ w6,Chs bse w1 wx w6 (λ k=>((K k\/k=w.heap.size)\/(Value.slice (some ⟨g,0,none⟩) C.length rc).ownBlock=some k)\/(wr.heap.size<=k/\k<wx.heap.size)) sb rb ti tl n N a C L nx X->Chs bse w1 w3 w6 (λ k=>(K k\/k=w.heap.size)\/(Value.slice (some ⟨g,0,none⟩) C.length rc).ownBlock=some k) sb rb ti tl n N a C L nx X):=Hd λ w6 h6=>(h6.mono λ k hk=>.inl hk).to HKX.out
   have HB2:=Hd (And.intro hys hxs)
   clear HI hkr hA hR hky hby hbx hy hyx hxx HX hb
   go_wp2_with fail
   refine GT.mono ?_
   rintro e w6 ⟨rfl,H6⟩
   have hk6:=H6.out.kept
   have hin:∀ j,j<2->(wr.heap.size<=wr.heap.size+j/\wr.heap.size+j<wx.heap.size):=λ j hj=>by have:=HB2.out.2;omega
   have y0:w6.cell? ⟨wr.heap.size,0,none⟩=some (.string C[i].id):=hk6.cell (.inr (hin 0 (by omega))) (zaa HYX.out.1 (i:=0) rfl)
   have y1:w6.cell? ⟨wr.heap.size,1,none⟩=some (.int .i64 (C[i].text.size:Int)):=hk6.cell (.inr (hin 0 (by omega))) (zaa HYX.out.1 (i:=1) rfl)
   have y2:w6.cell? ⟨wr.heap.size,2,none⟩=some (.int .i64 C[i].cnt):=hk6.cell (.inr (hin 0 (by omega))) (zaa HYX.out.1 (i:=2) rfl)
   have v0:w6.cell? ⟨wr.heap.size+1,0,none⟩=some (.string C[i].id):=hk6.cell (.inr (hin 1 (by omega))) (zaa HYX.out.2 (i:=0) rfl)
   have v1:w6.cell? ⟨wr.heap.size+1,1,none⟩=some (.string C[i].text):=hk6.cell (.inr (hin 1 (by omega))) (zaa HYX.out.2 (i:=1) rfl)
   have v2:w6.cell? ⟨wr.heap.size+1,2,none⟩=some (.int .i64 C[i].cnt):=hk6.cell (.inr (hin 1 (by omega))) (zaa HYX.out.2 (i:=2) rfl)
   have HE:=Hd (HGO.out w6 H6.out)
   have hts:C[i].text.size<=128:=(HOK.out C[i] (List.getElem_mem hlt)).t2
   have HLT:=Hd hlt
   clear GT H6 hk6 hin r0 r1 r2 a0 a1 a2 hxy hwx hwy hx0 z0
   generalize C[i].id=ky at *
   generalize C[i].text=tx at *
   generalize C[i].cnt=ct at *
   go_wp2_with fail
   go_roundg (C.length-(i+1))
   case measure=>have:=HLT.out;omega
   case rel=>exact ⟨i+1,rfl,HLT.out,by congr 1,HE⟩
  ·have hie:i=C.length:=by omega
   subst hie
   go_wp2_with fail
   have HE:Hid (Chs bse w1 w0 wr K sb rb ti tl n N a C L nx X):=Hd ((HI.out.mono λ k hk=>.inl (.inl hk)).to ((HHK.out.trans HK0.out).trans (HK3.out.mono λ k hk=>.inl hk)))
   go_ret
   exact ⟨rfl,HE⟩
end
theorem StR.keepW {w w':World} {K:Nat->Prop} {v:Value} {C:List RCk} {L:List REn} (h:StR w v C L) (hl:zau K v) (hk:zbX K w w') (hs:∀ k,K k->k<w'.heap.size):StR w' v C L:=by
 obtain ⟨va,vl,rfl,h1,h2⟩:=h
 obtain ⟨va',vl',e,g1,g2⟩:=hl
 cases e
 have:∀ {v:Value} {n sz:Nat} {xs:List Value},zaB w v n sz xs->(∀ g,v.ownBlock=some g->K g)->zaB w' v n sz xs:=λ h hg=>by
  obtain ⟨a,c,rfl,h1,h2,h3,h4⟩:=h
  refine ⟨_,_,rfl,h1,h2,h3,λ ad e=>?_⟩
  obtain ⟨b,off,e1,h5,h6⟩:=h4 ad e
  subst e e1
  have hb:=hg b rfl
  refine ⟨b,off,rfl,hs b hb,λ j u hu=>?_⟩
  rw [<-h6 j u hu]
  simp only [World.cell?,hk b hb]
 exact ⟨va,vl,rfl,this h1 g1,this h2 g2⟩
theorem Chs.newK {w1 w0 w w':World} {K:Nat->Prop} {sb rb ti tl n N a nx:Nat} {C:List Ck} {L:List Lg} {X:List (Nat × ByteArray)} (h:Chs [] w1 w0 w K sb rb ti tl n N a C L nx X) (hb:Below w.heap.size w w'):Chs [] w1 w' w' (λ k=>K k\/(w.heap.size<=k/\k<w'.heap.size)) sb rb ti tl n N a C L nx X :=
 h.updN (F:=λ _=>False) ⟨hb.os,hb.tape,hb.output,hb.size,λ k hk _=>hb.block k hk⟩ λ _ h=>h.elim
def znr (k a:Nat) (C:List Ck) (L:List Lg):Prop:=a+2*L.length+2*C.length<=4*k/\L.length<=k/\∀ c∈C,-(k:Int)<=c.cnt-L.length/\c.cnt+L.length<=k
structure RnL (nh NB:Nat) (w1:World) (B sb rb ti tl k:Nat) (v0 v1:Value) (K:Nat->Prop) (C:List Ck) (L:List Lg) (nx a:Nat) (wr:World):Prop where
 st:Chs [] w1 wr wr K sb rb ti tl nh NB a C L nx (cpg C)
 box:wr.heap[B]?=some (.cells #[v0,v1] 52 (0,0))
 kb:K B
 ref:StR wr (.agg #[v0,v1]) (rC C) (rL L)
 loc:zau (λ j=>K j/\j≠B) (.agg #[v0,v1])
 lo:w1.heap.size<=B/\B≠sb/\B≠ti/\B≠tl
 bud:znr k a C L
 big:900<=NB/\NB<=1000
section
variable {w1 wr w4 w5 w':World} {nh NB:Nat} {B sb rb ti tl k a a' nx nx':Nat} {v0 v1 v0' v1':Value} {K:Nat->Prop} {C C':List Ck} {L L':List Lg}
theorem znr.same {k a:Nat} {C:List Ck} {L:List Lg} (h:znr k a C L):znr (k+1) a C L:=⟨by have:=h.1;omega,by have:=h.2.1;omega,λ c hc=>by have:=h.2.2 c hc;omega⟩
theorem RnL.same (h:RnL nh NB w1 B sb rb ti tl k v0 v1 K C L nx a wr) (q:Chs [] w1 wr w' K sb rb ti tl nh NB a C L nx (cpg C)):RnL nh NB w1 B sb rb ti tl (k+1) v0 v1 K C L nx a w':=by
 have hk:=q.kept
 exact ⟨q.reset,(hk B h.kb).trans h.box,h.kb,h.ref.keepW (h.loc.mono λ j hj=>hj.1) hk λ j e=>q.klt e,h.loc,h.lo,h.bud.same,h.big⟩
theorem RnL.below (h:RnL nh NB w1 B sb rb ti tl k v0 v1 K C L nx a wr) (hb:Below wr.heap.size wr w'):RnL nh NB w1 B sb rb ti tl k v0 v1 K C L nx a w' :=
 ⟨(h.st.below hb).reset,(hb.block _ (zab h.box)).trans h.box,h.kb,h.ref.below hb,h.loc,h.lo,h.bud,h.big⟩
theorem RnL.next (h:RnL nh NB w1 B sb rb ti tl k v0 v1 K C L nx a wr) (q:Chs [] w1 wr w4 K sb rb ti tl nh NB a' C' L' nx' (cpg C')) (b5:Below w4.heap.size w4 w5) (r5:StR w5 (.agg #[v0',v1']) (rC C') (rL L')) (l5:∀ D,zau D (.agg #[v0,v1])->zau (λ b=>D b\/w4.heap.size<=b) (.agg #[v0',v1']))
 (hb:znr (k+1) a' C' L') :
 ∃ K',RnL nh NB w1 B sb rb ti tl (k+1) v0' v1' K' C' L' nx' a' ((w5.setCell ⟨B,0,none⟩ v0').setCell ⟨B,1,none⟩ v1'):=by
 have hBlt:B<w4.heap.size:=q.klt h.kb
 have hU:Upd (λ k=>k=B) w5 ((w5.setCell ⟨B,0,none⟩ v0').setCell ⟨B,1,none⟩ v1'):=Upd.setCell (S:=λ k=>k=B) (Upd.setCell (S:=λ k=>k=B) (Upd.refl _ w5) (p:=⟨B,0,none⟩) (.inl rfl) v0') (p:=⟨B,1,none⟩) (.inl rfl) v1'
 have hrest:=(q.below b5).reset
 have hbx5:w5.heap[B]?=some (.cells #[v0,v1] 52 (0,0)):=(b5.block B hBlt).trans ((q.kept B h.kb).trans h.box)
 have hbx8:=zac (i:=1) (zac (i:=0) hbx5 v0') v1'
 have hlt5:=r5.lt
 have hloc5:=(l5 _ h.loc).and hlt5
 have s45:=b5.size
 have hn:Chs [] w1 w5 w5 (λ j=>K j\/(w4.heap.size<=j/\j<w5.heap.size)) sb rb ti tl nh NB a' C' L' nx' (cpg C'):=q.newK b5
 have hset:=hn.updN hU λ j e=>by
  subst e
  exact ⟨.inl h.kb,h.lo⟩
 have hD:∀ j,((K j/\j≠B)\/w4.heap.size<=j)/\j<w5.heap.size->(K j\/(w4.heap.size<=j/\j<w5.heap.size))/\j≠B:=λ j hj=>by
  rcases hj.1 with h2|h2
  ·exact ⟨.inl h2.1,h2.2⟩
  ·exact ⟨.inr ⟨h2,hj.2⟩,by omega⟩
 have hl:=hloc5.mono hD
 exact ⟨_,hset.mono λ j hj=>.inl hj,hbx8,.inl h.kb,(r5.setLoc hl (λ hj=>hj.2 rfl) v0').setLoc hl (λ hj=>hj.2 rfl) v1',hl,h.lo,hb,h.big⟩
end
abbrev AcT:=Int × Int × Int × ByteArray × Bool
def I64 (n:Int):Prop:=-9223372036854775808<=n/\n<9223372036854775808
def zst (p:AcT):Prop:=I64 p.1/\I64 p.2.1/\I64 p.2.2.1
def zs0 (p:AcT):Value:=.agg #[.int .i64 p.1,.int .i64 p.2.1,.int .i64 p.2.2.1,.string p.2.2.2.1,.bool p.2.2.2.2]
theorem zk8 {w:World} {es:List Value} (h:zb2 w 96 es):∃ p:AcT,es=[.int .i64 p.1,.int .i64 p.2.1,.int .i64 p.2.2.1,.string p.2.2.2.1,.bool p.2.2.2.2]/\zst p:=by
 obtain ⟨hl,hf⟩:=zgB Tryz.underlying96 h
 have hl:es.length=5:=hl.trans (by kernel_rfl)
 have c1:Tryz.prog.cellsOf 9=1:=by kernel_rfl
 have c2:Tryz.prog.cellsOf 3=1:=by kernel_rfl
 have c3:Tryz.prog.cellsOf 4=1:=by kernel_rfl
 match es,hl with
 | [a,b,c,d,e],_ =>
   have f0:zb2 w 3 (([a,b,c,d,e].drop 0).take (Tryz.prog.cellsOf 3)):=hf 0 _ rfl
   have f1:zb2 w 3 (([a,b,c,d,e].drop 1).take (Tryz.prog.cellsOf 3)):=hf 1 _ rfl
   have f2:zb2 w 3 (([a,b,c,d,e].drop 2).take (Tryz.prog.cellsOf 3)):=hf 2 _ rfl
   have f3:zb2 w 9 (([a,b,c,d,e].drop 3).take (Tryz.prog.cellsOf 9)):=hf 3 _ rfl
   have f4:zb2 w 4 (([a,b,c,d,e].drop 4).take (Tryz.prog.cellsOf 4)):=hf 4 _ rfl
   rw [c2] at f0 f1 f2
   rw [c1] at f3
   rw [c3] at f4
   obtain ⟨n0,e0,h0⟩:=zeD Tryz.underlying3 f0
   obtain ⟨n1,e1,h1⟩:=zeD Tryz.underlying3 f1
   obtain ⟨n2,e2,h2⟩:=zeD Tryz.underlying3 f2
   obtain ⟨t,e3,h3⟩:=zgC Tryz.underlying9 f3
   obtain ⟨bb,e4⟩:=zio Tryz.underlying4 f4
   simp at e0 e1 e2 e3 e4
   subst e0 e1 e2 e3 e4
   have b0:=bounds_i64 h0
   have b1:=bounds_i64 h1
   have b2:=bounds_i64 h2
   exact ⟨(n0,n1,n2,t,bb),rfl,by unfold zst I64;simp only;omega⟩
def zgy (w:World) (v:Value) (l:List AcT):Prop:=∃ a cap,v=.slice a l.length cap/\∀ i (hi:i<l.length),∃ b off,a=some ⟨b,off,none⟩/\b<w.heap.size/\(w.cell? ⟨b,off+i*5,none⟩=some (.int .i64 l[i].1)/\w.cell? ⟨b,off+i*5+1,none⟩=some (.int .i64 l[i].2.1)/\w.cell? ⟨b,off+i*5+2,none⟩=some (.int .i64 l[i].2.2.1)/\w.cell? ⟨b,off+i*5+3,none⟩=some (.string l[i].2.2.2.1)/\w.cell? ⟨b,off+i*5+4,none⟩=some (.bool l[i].2.2.2.2))/\zst l[i]
theorem zk9 {w:World} {v:Value} (h:Reads w 93 v):∃ l:List AcT,zgy w v l:=by
 have c2:Tryz.prog.cellsOf 96=5:=by kernel_rfl
 obtain ⟨a,len,cap,rfl,hlc,hcm,hel⟩:=zip Tryz.underlying93 (by rw [c2];decide) h
 rw [c2] at hel
 obtain ⟨l,hl,hp⟩:=zin (n:=len) (p:=λ i (f:AcT)=>(∃ b off,a=some ⟨b,off,none⟩/\b<w.heap.size/\(w.cell? ⟨b,off+i*5,none⟩=some (.int .i64 f.1)/\w.cell? ⟨b,off+i*5+1,none⟩=some (.int .i64 f.2.1)/\w.cell? ⟨b,off+i*5+2,none⟩=some (.int .i64 f.2.2.1)/\w.cell? ⟨b,off+i*5+3,none⟩=some (.string f.2.2.2.1)/\w.cell? ⟨b,off+i*5+4,none⟩=some (.bool f.2.2.2.2))/\zst f)) (λ k hk=>by
  obtain ⟨b,off,es,rfl,hes,hb,hc,hr⟩:=hel k hk
  obtain ⟨p,rfl,hp⟩:=zk8 hr
  exact ⟨p,b,off,rfl,hb,⟨hc 0 (by simp),hc 1 (by simp),hc 2 (by simp),hc 3 (by simp),hc 4 (by simp)⟩,hp⟩)
 subst hl
 exact ⟨l,a,cap,rfl,λ i hi=>hp i hi⟩
theorem zgy.below {w w':World} {v:Value} {l:List AcT} (h:zgy w v l) (hb:Below w.heap.size w w'):zgy w' v l:=by
 obtain ⟨a,cap,rfl,hc⟩:=h
 refine ⟨a,cap,rfl,λ i hi=>?_⟩
 obtain ⟨b,off,e,h1,⟨c0,c1,c2,c3,c4⟩,h3⟩:=hc i hi
 have k:∀ j,w'.cell? ⟨b,j,none⟩=w.cell? ⟨b,j,none⟩:=λ j=>hb.cell (p:=⟨b,j,none⟩) h1
 exact ⟨b,off,e,Nat.lt_of_lt_of_le h1 hb.size,⟨(k _).trans c0,(k _).trans c1,(k _).trans c2,(k _).trans c3,(k _).trans c4⟩,h3⟩
def zdQ (l:List AcT):Bool:=decide (l.length<=80) && l.all λ p=>decide (p.2.2.2.1.size<=200)
theorem zqU (v:Value) (l:List AcT) (w:World) (h:zgy w v l) :
 Calls Tryz.prog 46 #[v] w λ e w'=>e=.returned (.bool (zdQ l))/\Hid (Below w.heap.size w w'):=by
 obtain ⟨a,cap,rfl,hc⟩:=h
 have HC:=Hd hc
 clear hc
 by_cases h80:l.length<=80
 ·have d0:decide ((l.length:Int) > 80)=false:=decide_eq_false (by omega)
  go_enter Tryz.func46,Tryz.ntmps46
  go_wp2_with fail
  go_loopg [10] l.length (λ g s10 wr=>∃ i:Nat,g=l.length-i/\i<=l.length/\s10=.int .i64 (i:Int)/\Hid ((∀ p∈l.take i,p.2.2.2.1.size<=200)/\Below w.heap.size w wr))
  case atStart=>exact ⟨0,rfl,zNz _,rfl,Hd ⟨by simp,zBr _ _⟩⟩
  case round =>
   obtain ⟨i,rfl,hi,rfl,HI⟩:=hrel
   by_cases hlt:i<l.length
   ·obtain ⟨b,off,rfl,hb,⟨c0,c1,c2,c3,c4⟩,-⟩:=HC.out i hlt
    have k:∀ j,wr.cell? ⟨b,j,none⟩=w.cell? ⟨b,j,none⟩:=λ j=>HI.out.2.cell (p:=⟨b,j,none⟩) hb
    replace c0:=(k _).trans c0
    replace c1:=(k _).trans c1
    replace c2:=(k _).trans c2
    replace c3:=(k _).trans c3
    replace c4:=(k _).trans c4
    have HTK:Hid (l.take (i+1)=l.take i++[l[i]]):=Hd (zTs hlt)
    have HM:=Hd (List.getElem_mem hlt)
    have HB2:=Hd λ o=>HI.out.2.alloc HI.out.2.size o
    have HA:=Hd HI.out.1
    clear k HI hb
    generalize l[i]=p at *
    obtain ⟨p0,p1,p2,t,rw_⟩:=p
    simp only at c0 c1 c2 c3 c4
    by_cases hs:t.size<=200
    ·have d1:decide ((t.size:Int) > 200)=false:=decide_eq_false (by omega)
     have HN:Hid (∀ q∈l.take (i+1),q.2.2.2.1.size<=200):=Hd λ q hq=>by
      rw [HTK.out] at hq
      rcases List.mem_append.1 hq with h|h
      ·exact HA.out q h
      ·simp at h;subst h;exact hs
     clear hs
     go_wp2_with fail
     go_roundg (l.length-(i+1))
     case measure=>omega
     case rel=>exact ⟨i+1,rfl,by omega,by congr 1,Hd ⟨HN.out,HB2.out _⟩⟩
    ·have d1:decide ((t.size:Int) > 200)=true:=decide_eq_true (by omega)
     have HE:=Hd (show zdQ l=false by
      unfold zdQ
      rw [Bool.and_eq_false_iff];right
      rw [List.all_eq_false]
      exact ⟨_,HM.out,by simpa using hs⟩)
     clear hs
     go_wp2_with fail
     go_ret
     exact ⟨zfs HE.out.symm,Hd (HB2.out _)⟩
   ·obtain rfl:i=l.length:=by omega
    have HE:=Hd (show zdQ l=true by
     unfold zdQ
     have:=HI.out.1
     rw [List.take_length] at this
     simp only [Bool.and_eq_true,decide_eq_true_eq,List.all_eq_true]
     exact ⟨h80,this⟩)
    have HB2:=Hd HI.out.2
    clear HI hlt hi
    go_wp2_with fail
    go_ret
    exact ⟨zfs HE.out.symm,HB2⟩
 ·have d0:decide ((l.length:Int) > 80)=true:=decide_eq_true (by omega)
  have HE:=Hd (show zdQ l=false by unfold zdQ;simp [h80])
  clear h80
  go_enter Tryz.func46,Tryz.ntmps46
  go_wp2_with fail
  go_ret
  exact ⟨zfs HE.out.symm,Hd (zBr _ _)⟩
theorem zeY (v:Value) (C:List RCk) (L:List REn) (id:ByteArray) (w:World) (h:StR w v C L) (hL:L.length<=100000) (hb:∀ e∈L,-1<=e.2/\e.2<=1) :
 Calls Tryz.prog 101 #[v,.string id] w λ e w'=>e=.returned (.tuple #[.int .i64 (zaU L id).1,.int .i64 ((zaU L id).2:Int)])/\Hid (Below w.heap.size w w'):=by
 obtain ⟨va,vl,rfl,-,h1⟩:=h
 obtain ⟨wb,hwb⟩:=exE (w.alloc (.cells #[va,vl] 52))
 have HB:Hid (Below w.heap.size w wb):=Hd (by rw [<-hwb];exact (zBr _ _).alloc (zNr _) _)
 have HR:=Hd (h1.below HB.out)
 have cb:wb.cell? ⟨w.heap.size,1,none⟩=some vl:=by rw [<-hwb];exact zaa (heap_alloc_new _ _) rfl
 obtain ⟨a,cap,rfl,hcap⟩:=h1.form
 have HLL:=Hd hL
 have HBB:=Hd hb
 clear h1 hcap hL hb
 go_enter Tryz.func101,Tryz.ntmps101
 go_wp2_with fail
 clear hwb
 go_loopg [6,7,8] L.length (λ g s6 s7 s8 wr=>∃ (k:Nat) (q:Int × Nat),g=L.length-k/\k<=L.length/\s6=.int .i64 q.1/\s7=.int .i64 (q.2:Int)/\s8=.int .i64 (k:Int)/\Hid (zaU (L.take k) id=q)/\wb=wr)
 case atStart=>exact ⟨0,(0,0),rfl,zNz _,rfl,rfl,rfl,Hd rfl,rfl⟩
 case round =>
  obtain ⟨k,⟨q1,q2⟩,rfl,hk,rfl,rfl,rfl,HQ,rfl⟩:=hrel
  simp only
  by_cases hlt:k<L.length
  ·obtain ⟨c1,c2⟩:=zi3 hlt
   obtain ⟨b,off,rfl,hb,hc⟩:=HR.out.get c1
   have ck:=hc _ _ c1
   have ck2:wb.cell? ⟨b,off+k*2+1,none⟩=some (.int .i64 L[k].2):=hc _ _ c2
   have HLT:=Hd hlt
   have hsm:L.length<=100000:=HLL.out
   have hpn:zaU (L.take (k+1)) id=if L[k].1=id then ((zaU (L.take k) id).1+L[k].2,(zaU (L.take k) id).2+1) else zaU (L.take k) id:=by
    rw [zTs hlt];exact zkZ (L.take k) L[k] id
   rw [HQ.out] at hpn
   have hpa:=zmP (L:=L.take k) id (λ e he=>HBB.out e (List.mem_of_mem_take he))
   have hpl:=zh8 (L.take k) id
   rw [HQ.out,List.length_take] at hpa hpl
   have hby:=HBB.out _ (List.getElem_mem hlt)
   simp only at hpa hpl
   have HWR:=Hd (ziY hlt (by omega))
   by_cases he:L[k].1=id
   ·rw [if_pos he] at hpn
    have heq:(L[k].1.toList == id.toList)=true:=by rw [he];simp
    have e1:Hid (wrap64 (q1+L[k].2)=q1+L[k].2):=Hd (by unfold wrap64;omega)
    have e2:Hid (wrap64 ((q2:Int)+1)=((q2+1:Nat):Int)):=Hd (by unfold wrap64;push_cast;omega)
    have HP:=Hd hpn
    clear hc he hpn hpa hpl hby HQ c1 c2
    generalize L[k].1=i at *
    generalize L[k].2=y at *
    go_wp2_with fail
    go_roundg (L.length-(k+1))
    case measure=>have:=HLT.out;omega
    case rel=>exact ⟨k+1,_,rfl,HLT.out,congrArg (Value.int .i64) e1.out,congrArg (Value.int .i64) e2.out,by congr 1,HP,rfl⟩
   ·rw [if_neg he] at hpn
    have heq:(L[k].1.toList == id.toList)=false:=zmW he
    have HP:=Hd hpn
    clear hc he hpn hpa hpl hby HQ c1 c2
    generalize L[k].1=i at *
    generalize L[k].2=y at *
    go_wp2_with fail
    go_roundg (L.length-(k+1))
    case measure=>have:=HLT.out;omega
    case rel=>exact ⟨k+1,_,rfl,HLT.out,rfl,rfl,by congr 1,HP,rfl⟩
  ·obtain rfl:k=L.length:=by omega
   have hq:=HQ.out
   rw [List.take_length] at hq
   have HE:=Hd hq
   clear HQ hq hk hlt
   go_wp2_with fail
   go_ret2
   rw [HE.out]
   exact ⟨rfl,HB⟩
theorem znc (v:Value) (C:List RCk) (L:List REn) (id:ByteArray) (by_ er:Int) (w:World) (h:StR w v C L) (hC:C.length<=1000000) (h1:((by_≠1/\by_≠-1)/\er=1)\/((by_=1\/by_=-1)/\zhj C id=none/\er=6)) :
 Calls Tryz.prog 99 #[v,.string id,.int .i64 by_] w λ e w'=>∃ v',e=.returned (.tuple #[v',.int .i64 er])/\Hid ((StR w' v' C L/\Below w.heap.size w w')/\∀ D,zau D v->zau (λ b=>D b\/w.heap.size<=b) v'):=by
 have HST:=Hd h
 obtain ⟨va,vl,rfl,h2,h3⟩:=h
 obtain ⟨aA,cA,rfl,-⟩:=h2.form
 obtain ⟨aL,cL,rfl,-⟩:=h3.form
 have B0:=zcn.start w (.slice aA C.length cA) (.slice aL L.length cL)
 obtain ⟨wb,hwb⟩:=exE ((w.alloc (.cells #[.slice aA C.length cA,.slice aL L.length cL] 52)).alloc (.cells #[.slice none 0 0,.slice none 0 0] 52))
 rw [hwb] at B0
 have HB0:=Hd B0
 have HG:Hid (∀ W,zcn w (.slice aA C.length cA) (.slice aL L.length cL) W->(StR ((W.setCell ⟨w.heap.size+1,0,none⟩ (.slice aA C.length cA)).setCell ⟨w.heap.size+1,1,none⟩ (.slice aL L.length cL)) (.agg #[.slice aA C.length cA,.slice aL L.length cL]) C L/\Below w.heap.size w ((W.setCell ⟨w.heap.size+1,0,none⟩ (.slice aA C.length cA)).setCell ⟨w.heap.size+1,1,none⟩ (.slice aL L.length cL)))/\∀ D,zau D (.agg #[.slice aA C.length cA,.slice aL L.length cL])->zau (λ b=>D b\/w.heap.size<=b) (.agg #[.slice aA C.length cA,.slice aL L.length cL])):=Hd λ W hW=>by
  have o5:=(hW.out (.slice aA C.length cA) (.slice aL L.length cL)).2.2.2.2
  exact ⟨⟨HST.out.below o5,o5⟩,λ D hD=>hD.mono λ b hb=>Or.inl hb⟩
 rcases h1 with ⟨⟨n1,n2⟩,rfl⟩|⟨h1,hf,rfl⟩
 ·obtain ⟨x0,x1,x2,x3,x4⟩:=B0.cells
  obtain ⟨r0,r1,r2,r3,r4⟩:=B0.res
  obtain ⟨o1,o2,o3,o4,o5⟩:=B0.out (.slice aA C.length cA) (.slice aL L.length cL)
  have d1:(by_ != 1)=true:=by simpa using n1
  have d2:(by_ != -1)=true:=by simpa using n2
  have HF:=Hd (HG.out _ B0)
  clear B0 h2 h3 n1 n2 HG o5
  go_enter Tryz.func99,Tryz.ntmps99
  go_wp2_with fail
  (try simp only [Exit.inBlock,Exit.then])
  refine bodyPost_ret (v:=.tuple #[.agg #[.slice aA C.length cA,.slice aL L.length cL],.int .i64 1]) ?_ rfl ⟨_,rfl,HF⟩
  rw [results_cell_tmp rfl]
  go_simp
 ·have AT:=zib (.agg #[.slice aA C.length cA,.slice aL L.length cL]) C L id wb (HST.out.below B0.bel) hC
  rw [(zdD hf).1] at AT
  obtain ⟨x0,x1,x2,x3,x4⟩:=B0.cells
  clear B0 hf h2 h3
  rcases h1 with rfl|rfl
  all_goals (
   go_enter Tryz.func99,Tryz.ntmps99
   go_wp2_with fail
   refine AT.mono ?_
   rintro e w2 ⟨rfl,H2⟩
   have HB2:=Hd (HB0.out.below H2.out)
   clear AT H2 hwb x0 x1 x2 x3 x4
   obtain ⟨x0,x1,x2,x3,x4⟩:=HB2.out.cells
   obtain ⟨r0,r1,r2,r3,r4⟩:=HB2.out.res
   obtain ⟨o1,o2,o3,o4,-⟩:=HB2.out.out (.slice aA C.length cA) (.slice aL L.length cL)
   have HF:=Hd (HG.out _ HB2.out)
   clear HG
   go_wp2_with fail
   (try simp only [Exit.inBlock,Exit.then])
   refine bodyPost_ret (v:=.tuple #[.agg #[.slice aA C.length cA,.slice aL L.length cL],.int .i64 6]) ?_ rfl ⟨_,rfl,HF⟩
   rw [results_cell_tmp rfl]
   go_simp)
theorem znd (v:Value) (C:List RCk) (L:List REn) (t:ByteArray) (w:World) (h:StR w v C L) (ht:t.size<1\/128<t.size) :
 Calls Tryz.prog 97 #[v,.string t] w λ e w'=>∃ v',e=.returned (.tuple #[v',.string ⟨#[]⟩,.bool false,.int .i64 1])/\Hid ((StR w' v' C L/\Below w.heap.size w w')/\∀ D,zau D v->zau (λ b=>D b\/w.heap.size<=b) v'):=by
 have HST:=Hd h
 obtain ⟨va,vl,rfl,h2,h3⟩:=h
 obtain ⟨aA,cA,rfl,-⟩:=h2.form
 obtain ⟨aL,cL,rfl,-⟩:=h3.form
 have B0:=zcn.start w (.slice aA C.length cA) (.slice aL L.length cL)
 obtain ⟨wb,hwb⟩:=exE ((w.alloc (.cells #[.slice aA C.length cA,.slice aL L.length cL] 52)).alloc (.cells #[.slice none 0 0,.slice none 0 0] 52))
 rw [hwb] at B0
 obtain ⟨x0,x1,x2,x3,x4⟩:=B0.cells
 obtain ⟨r0,r1,r2,r3,r4⟩:=B0.res
 obtain ⟨o1,o2,o3,o4,o5⟩:=B0.out (.slice aA C.length cA) (.slice aL L.length cL)
 have HF:=Hd (And.intro (And.intro (HST.out.below o5) o5) (λ D (hD:zau D (.agg #[.slice aA C.length cA,.slice aL L.length cL]))=>hD.mono (D':=λ b=>D b\/w.heap.size<=b) λ b hb=>Or.inl hb))
 clear B0 h2 h3 o5
 rcases Nat.lt_or_ge t.size 1 with q1|q1
 ·have d0:decide ((t.size:Int)<1)=true:=decide_eq_true (by omega)
  clear ht q1
  go_enter Tryz.func97,Tryz.ntmps97
  go_wp2_with fail
  (try simp only [Exit.inBlock,Exit.then])
  refine bodyPost_ret (v:=.tuple #[.agg #[.slice aA C.length cA,.slice aL L.length cL],.string ⟨#[]⟩,.bool false,.int .i64 1]) ?_ rfl ⟨_,rfl,HF⟩
  rw [zaO rfl]
  go_simp
 ·have d0:decide ((t.size:Int)<1)=false:=decide_eq_false (by omega)
  have d1:decide ((t.size:Int) > 128)=true:=decide_eq_true (by omega)
  clear ht q1
  go_enter Tryz.func97,Tryz.ntmps97
  go_wp2_with fail
  (try simp only [Exit.inBlock,Exit.then])
  refine bodyPost_ret (v:=.tuple #[.agg #[.slice aA C.length cA,.slice aL L.length cL],.string ⟨#[]⟩,.bool false,.int .i64 1]) ?_ rfl ⟨_,rfl,HF⟩
  rw [zaO rfl]
  go_simp
theorem zje:∀ (C:List RCk) (k:Nat) (hk:k<C.length) (q:Int),(ckC C).set (k*3+2) (.int .i64 q)=ckC (C.set k (C[k].1,C[k].2.1,q))
 | [],k,hk,x=>by simp at hk
 | p::R,0,hk,x=>rfl
 | p::R,k+1,hk,x=>by
   have ih:=zje R k (by simpa using hk) x
   have e:∀ (q:RCk) (R:List RCk),ckC (q::R)=.string q.1::.string q.2.1::.int .i64 q.2.2::ckC R:=λ _ _=>rfl
   rw [e,show (k+1)*3+2=k*3+2+1+1+1 by omega,List.set_cons_succ,List.set_cons_succ,List.set_cons_succ,ih,List.set_cons_succ,e]
   rfl
theorem zcn.setH {w W:World} {va vl:Value} (h:zcn w va vl W) {x:Nat} (hx:w.heap.size+2<=x) (i:Nat) (u:Value):zcn w va vl (W.setCell ⟨x,i,none⟩ u) :=
 ⟨(zae _ (by omega)).trans h.b,(zae _ (by omega)).trans h.r,h.bel.setCell (p:=⟨x,i,none⟩) (by show w.heap.size<=x;omega) _⟩
theorem zne (v:Value) (C:List RCk) (L:List REn) (id:ByteArray) (by_ er:Int) (w:World) (h:StR w v C L) (hC:C.length<=1000000) (h1:((by_≠1/\by_≠-1)/\er=1)\/((by_=1\/by_=-1)/\zhj C id=none/\er=6)) :
 Calls Tryz.prog 100 #[v,.string id,.int .i64 by_] w λ e w'=>∃ v',e=.returned (.tuple #[v',.int .i64 er])/\Hid ((StR w' v' C L/\Below w.heap.size w w')/\∀ D,zau D v->zau (λ b=>D b\/w.heap.size<=b) v'):=by
 have HST:=Hd h
 obtain ⟨va,vl,rfl,h2,h3⟩:=h
 obtain ⟨aA,cA,rfl,-⟩:=h2.form
 obtain ⟨aL,cL,rfl,-⟩:=h3.form
 have B0:=zcn.start w (.slice aA C.length cA) (.slice aL L.length cL)
 obtain ⟨wb,hwb⟩:=exE ((w.alloc (.cells #[.slice aA C.length cA,.slice aL L.length cL] 52)).alloc (.cells #[.slice none 0 0,.slice none 0 0] 52))
 rw [hwb] at B0
 have HB0:=Hd B0
 have HG:Hid (∀ W,zcn w (.slice aA C.length cA) (.slice aL L.length cL) W->(StR ((W.setCell ⟨w.heap.size+1,0,none⟩ (.slice aA C.length cA)).setCell ⟨w.heap.size+1,1,none⟩ (.slice aL L.length cL)) (.agg #[.slice aA C.length cA,.slice aL L.length cL]) C L/\Below w.heap.size w ((W.setCell ⟨w.heap.size+1,0,none⟩ (.slice aA C.length cA)).setCell ⟨w.heap.size+1,1,none⟩ (.slice aL L.length cL)))/\∀ D,zau D (.agg #[.slice aA C.length cA,.slice aL L.length cL])->zau (λ b=>D b\/w.heap.size<=b) (.agg #[.slice aA C.length cA,.slice aL L.length cL])):=Hd λ W hW=>by
  have o5:=(hW.out (.slice aA C.length cA) (.slice aL L.length cL)).2.2.2.2
  exact ⟨⟨HST.out.below o5,o5⟩,λ D hD=>hD.mono λ b hb=>Or.inl hb⟩
 rcases h1 with ⟨⟨n1,n2⟩,rfl⟩|⟨h1,hf,rfl⟩
 ·obtain ⟨x0,x1,x2,x3,x4⟩:=B0.cells
  obtain ⟨r0,r1,r2,r3,r4⟩:=B0.res
  obtain ⟨o1,o2,o3,o4,o5⟩:=B0.out (.slice aA C.length cA) (.slice aL L.length cL)
  have d1:(by_ != 1)=true:=by simpa using n1
  have d2:(by_ != -1)=true:=by simpa using n2
  have HF:=Hd (HG.out _ B0)
  clear B0 h2 h3 n1 n2 HG o5
  go_enter Tryz.func100,Tryz.ntmps100
  go_wp2_with fail
  (try simp only [Exit.inBlock,Exit.then])
  refine bodyPost_ret (v:=.tuple #[.agg #[.slice aA C.length cA,.slice aL L.length cL],.int .i64 1]) ?_ rfl ⟨_,rfl,HF⟩
  rw [results_cell_tmp rfl]
  go_simp
 ·have AT:=zib (.agg #[.slice aA C.length cA,.slice aL L.length cL]) C L id wb (HST.out.below B0.bel) hC
  rw [(zdD hf).1] at AT
  obtain ⟨x0,x1,x2,x3,x4⟩:=B0.cells
  clear B0 hf h2 h3
  rcases h1 with rfl|rfl
  all_goals (
   go_enter Tryz.func100,Tryz.ntmps100
   go_wp2_with fail
   refine AT.mono ?_
   rintro e w2 ⟨rfl,H2⟩
   have HB2:=Hd (HB0.out.below H2.out)
   clear AT H2 hwb x0 x1 x2 x3 x4
   obtain ⟨x0,x1,x2,x3,x4⟩:=HB2.out.cells
   obtain ⟨r0,r1,r2,r3,r4⟩:=HB2.out.res
   obtain ⟨o1,o2,o3,o4,-⟩:=HB2.out.out (.slice aA C.length cA) (.slice aL L.length cL)
   have HF:=Hd (HG.out _ HB2.out)
   clear HG
   go_wp2_with fail
   (try simp only [Exit.inBlock,Exit.then])
   refine bodyPost_ret (v:=.tuple #[.agg #[.slice aA C.length cA,.slice aL L.length cL],.int .i64 6]) ?_ rfl ⟨_,rfl,HF⟩
   rw [results_cell_tmp rfl]
   go_simp)
theorem znf (v:Value) (C:List RCk) (L:List REn) (id:ByteArray) (by_:Int) (w:World) (h:StR w v C L) (hC:C.length<=1000000) (h1:by_=1\/by_=-1) (c:RCk) (hf:zhj C id=some c) (hc:-1000000000<=c.2.2/\c.2.2<=1000000000) :
 Calls Tryz.prog 100 #[v,.string id,.int .i64 by_] w λ e w'=>∃ v',e=.returned (.tuple #[v',.int .i64 0])/\Hid ((StR w' v' (zd6 C id by_) L/\Below w.heap.size w w')/\∀ D,zau D v->zau (λ b=>D b\/w.heap.size<=b) v'):=by
 obtain ⟨jC,hjC,hC0,hC1,hC2⟩:=info_parts zkh
 have HST:=Hd h
 obtain ⟨va,vl,rfl,h2,h3⟩:=h
 obtain ⟨aA,cA,rfl,-⟩:=h2.form
 obtain ⟨aL,cL,rfl,-⟩:=h3.form
 have B0:=zcn.start w (.slice aA C.length cA) (.slice aL L.length cL)
 obtain ⟨wb,hwb⟩:=exE ((w.alloc (.cells #[.slice aA C.length cA,.slice aL L.length cL] 52)).alloc (.cells #[.slice none 0 0,.slice none 0 0] 52))
 rw [hwb] at B0
 have HB0:=Hd B0
 have AT:=zib (.agg #[.slice aA C.length cA,.slice aL L.length cL]) C L id wb (HST.out.below B0.bel) hC
 obtain ⟨i,hi,hci,hx,hno⟩:=zcY hf
 rw [hx] at AT
 have hid:C[i].1=id:=by rw [hci];have:=List.find?_some hf;simpa using this
 have HINC:Hid (∀ d,ckC (zd6 C id d)=(ckC C).set (i*3+2) (.int .i64 (c.2.2+d))/\(zd6 C id d).length=C.length):=Hd λ d=>by
  refine ⟨?_,zj7 C id d⟩
  rw [zj9 hi hid hno,zje C i hi,hci]
 have hi0:((i:Int)<0)=False:=eq_false (by omega)
 have HCC:=Hd hC
 have HVL:=Hd h3
 have HVA:=Hd h2
 have HI:=Hd hi
 have HCK:Hid ((ckC C)[i*3+2]?=some (.int .i64 c.2.2)):=Hd (by rw [(zcm hi).2.2,hci])
 obtain ⟨x0,x1,x2,x3,x4⟩:=B0.cells
 clear B0 hx hf h2 h3 hno hid
 have HCB:=Hd hc
 clear hc
 generalize c.2.2=q at *
 have hil:i<C.length:=hi
 clear hi hci
 rcases h1 with rfl|rfl
 ·have kw:IntKind.i64.wrap (q+1)=q+1:=zcX (by have:=HCB.out;omega) (by have:=HCB.out;omega)
  go_enter Tryz.func100,Tryz.ntmps100
  go_wp2_with fail
  refine AT.mono ?_
  rintro e w2 ⟨rfl,H2⟩
  have HB2:=Hd (HB0.out.below H2.out)
  clear AT H2 hwb x0 x1 x2 x3 x4
  obtain ⟨x0,x1,x2,x3,x4⟩:=HB2.out.cells
  have HZ:Hid (w.heap.size+2<=w2.heap.size):=Hd (by have:=zab HB2.out.r;omega)
  have HO1:Hid ((w2.alloc (.cells #[] 175)).ownsRow (w.heap.size+2) 175 3 (.slice (some ⟨w2.heap.size,0,none⟩) 0 0) 0 []):=Hd (World.ownsRow_lit w2 #[] 0 HZ.out (by decide) rfl)
  have HBa:=Hd (HB2.out.below ((zBr _ _).alloc (zNr _) (.cells #[] 175)))
  have HY1:Hid (zbV (w2.alloc (.cells #[] 175)) (.slice aA C.length cA) C.length (ckC C)):=Hd ((HVA.out.below (HBa.out.bel)).yields)
  have L1:=Hd (show 0+C.length<=maxLen/\(0+C.length)*40<=140737488355328 from ⟨by have:=HCC.out;unfold maxLen;omega,by have:=HCC.out;omega⟩)
  have HZ1:Hid (w.heap.size+2<=(w2.alloc (.cells #[] 175)).heap.size):=Hd (by have:=HZ.out;simp;omega)
  go_wp2_with (
   (refine zeA 49 49 ⟨_,_,by with_reducible rfl⟩ ?_
    refine zag (by rfl) _ _ _ rfl (w.heap.size+2) 175 jC _ 3 40 Tryz.underlying49 hjC hC0 hC1 hC2 rfl (by decide) _ _ _ (by rfl) HO1.out _ C.length (ckC C) (by rfl) HY1.out (zi2 C) (zjd C) L1.out.1 L1.out.2 HZ1.out ?_
    intro v3 W3 ho3 hg3 ha3
    rw [Nat.zero_add] at ho3
    rw [List.nil_append] at ho3
    obtain ⟨g3,c3,rfl,k3⟩:=zdF ho3 (by omega)
    have cg3:=(ho3.cellAt (i*3+2) (by omega)).trans HCK.out
    have fg3:=ho3.frozenAt (i*3+2)
    have lg3:=(ho3.lt g3 rfl).2
    have hB3:=HBa.out.grown hg3 λ j e=>(HO1.out.lt j e).1
    have hB4:=hB3.setH k3 (i*3+2) (.int .i64 (q+1))
    have ho4:=(ho3.stored (i*3+2) (.int .i64 (q+1))).1
    have hB5:=hB4.set (.slice (some ⟨g3,0,none⟩) C.length c3)
    obtain ⟨y0,y1,y2,y3,y4⟩:=hB4.cells
    obtain ⟨z0,z1,z2,z3,z4⟩:=hB5.cells
    obtain ⟨r0,r1,r2,r3,r4⟩:=hB5.res
    obtain ⟨o1,o2,o3,o4,o5⟩:=hB5.out (.slice (some ⟨g3,0,none⟩) C.length c3) (.slice aL L.length cL)
    have HG:=Hd (And.intro (And.intro (StR.put5 (C:=zd6 C id 1) (HVL.out.below o5) (by rw [(HINC.out _).1,(HINC.out _).2];exact zaB.own ho4) k3) o5) (λ D (hD:zau D (.agg #[.slice aA C.length cA,.slice aL L.length cL]))=>zau.newA (n:=(zd6 C id 1).length) (c5:=c3) hD (Nat.le_trans (Nat.le_add_right _ 2) k3)))
    rw [(HINC.out _).2] at HG
    clear ho3 hg3 ha3 hB3 hB4 hB5 ho4 o5 k3))
  (try simp only [Exit.inBlock,Exit.then])
  refine bodyPost_ret (v:=.tuple #[.agg #[.slice (some ⟨g3,0,none⟩) C.length c3,.slice aL L.length cL],.int .i64 0]) ?_ rfl ⟨_,rfl,HG⟩
  rw [results_cell_tmp rfl]
  go_simp
 ·have kw:IntKind.i64.wrap (q+-1)=q+-1:=zcX (by have:=HCB.out;omega) (by have:=HCB.out;omega)
  go_enter Tryz.func100,Tryz.ntmps100
  go_wp2_with fail
  refine AT.mono ?_
  rintro e w2 ⟨rfl,H2⟩
  have HB2:=Hd (HB0.out.below H2.out)
  clear AT H2 hwb x0 x1 x2 x3 x4
  obtain ⟨x0,x1,x2,x3,x4⟩:=HB2.out.cells
  have HZ:Hid (w.heap.size+2<=w2.heap.size):=Hd (by have:=zab HB2.out.r;omega)
  have HO1:Hid ((w2.alloc (.cells #[] 175)).ownsRow (w.heap.size+2) 175 3 (.slice (some ⟨w2.heap.size,0,none⟩) 0 0) 0 []):=Hd (World.ownsRow_lit w2 #[] 0 HZ.out (by decide) rfl)
  have HBa:=Hd (HB2.out.below ((zBr _ _).alloc (zNr _) (.cells #[] 175)))
  have HY1:Hid (zbV (w2.alloc (.cells #[] 175)) (.slice aA C.length cA) C.length (ckC C)):=Hd ((HVA.out.below (HBa.out.bel)).yields)
  have L1:=Hd (show 0+C.length<=maxLen/\(0+C.length)*40<=140737488355328 from ⟨by have:=HCC.out;unfold maxLen;omega,by have:=HCC.out;omega⟩)
  have HZ1:Hid (w.heap.size+2<=(w2.alloc (.cells #[] 175)).heap.size):=Hd (by have:=HZ.out;simp;omega)
  go_wp2_with (
   (refine zeA 49 49 ⟨_,_,by with_reducible rfl⟩ ?_
    refine zag (by rfl) _ _ _ rfl (w.heap.size+2) 175 jC _ 3 40 Tryz.underlying49 hjC hC0 hC1 hC2 rfl (by decide) _ _ _ (by rfl) HO1.out _ C.length (ckC C) (by rfl) HY1.out (zi2 C) (zjd C) L1.out.1 L1.out.2 HZ1.out ?_
    intro v3 W3 ho3 hg3 ha3
    rw [Nat.zero_add] at ho3
    rw [List.nil_append] at ho3
    obtain ⟨g3,c3,rfl,k3⟩:=zdF ho3 (by omega)
    have cg3:=(ho3.cellAt (i*3+2) (by omega)).trans HCK.out
    have fg3:=ho3.frozenAt (i*3+2)
    have lg3:=(ho3.lt g3 rfl).2
    have hB3:=HBa.out.grown hg3 λ j e=>(HO1.out.lt j e).1
    have hB4:=hB3.setH k3 (i*3+2) (.int .i64 (q+-1))
    have ho4:=(ho3.stored (i*3+2) (.int .i64 (q+-1))).1
    have hB5:=hB4.set (.slice (some ⟨g3,0,none⟩) C.length c3)
    obtain ⟨y0,y1,y2,y3,y4⟩:=hB4.cells
    obtain ⟨z0,z1,z2,z3,z4⟩:=hB5.cells
    obtain ⟨r0,r1,r2,r3,r4⟩:=hB5.res
    obtain ⟨o1,o2,o3,o4,o5⟩:=hB5.out (.slice (some ⟨g3,0,none⟩) C.length c3) (.slice aL L.length cL)
    have HG:=Hd (And.intro (And.intro (StR.put5 (C:=zd6 C id (-1)) (HVL.out.below o5) (by rw [(HINC.out _).1,(HINC.out _).2];exact zaB.own ho4) k3) o5) (λ D (hD:zau D (.agg #[.slice aA C.length cA,.slice aL L.length cL]))=>zau.newA (n:=(zd6 C id (-1)).length) (c5:=c3) hD (Nat.le_trans (Nat.le_add_right _ 2) k3)))
    rw [(HINC.out _).2] at HG
    clear ho3 hg3 ha3 hB3 hB4 hB5 ho4 o5 k3))
  (try simp only [Exit.inBlock,Exit.then])
  refine bodyPost_ret (v:=.tuple #[.agg #[.slice (some ⟨g3,0,none⟩) C.length c3,.slice aL L.length cL],.int .i64 0]) ?_ rfl ⟨_,rfl,HG⟩
  rw [results_cell_tmp rfl]
  go_simp
theorem zkj {C:List RCk} {id:ByteArray} {d:Int} {c:RCk} (h:c∈zd6 C id d):c∈C\/∃ c0∈C,c=(c0.1,c0.2.1,c0.2.2+d):=by
 induction C with
 | nil=>cases h
 | cons a r ih =>
   simp only [zd6] at h
   split at h
   ·rcases List.mem_cons.1 h with rfl|h
    ·exact .inr ⟨a,by simp,rfl⟩
    ·exact .inl (by simp [h])
   ·rcases List.mem_cons.1 h with rfl|h
    ·exact .inl (by simp)
    ·rcases ih h with h|⟨c0,h,e⟩
     ·exact .inl (by simp [h])
     ·exact .inr ⟨c0,by simp [h],e⟩
theorem zfh:∀ (T:List REn) {C:List RCk} {b:Int},(∀ c∈C,-b<=c.2.2/\c.2.2<=b)->(∀ e∈T,-1<=e.2/\e.2<=1)->∀ c∈zbO C T,-(b+T.length)<=c.2.2/\c.2.2<=b+T.length
 | [],C,b,h,_=>by simpa [zbO] using h
 | e::T,C,b,h,ht=>by
   have he:=ht e (by simp)
   have h2:∀ c∈zd6 C e.1 e.2,-(b+1)<=c.2.2/\c.2.2<=b+1:=λ c hc=>by
    rcases zkj hc with hc|⟨c0,hc0,rfl⟩
    ·have:=h c hc;omega
    ·have:=h c0 hc0;simp only;omega
   have:=zfh T h2 λ e he=>ht e (by simp [he])
   intro c hc
   have:=this c hc
   simp only [zLc];push_cast
   omega
theorem zoM (L:List REn) (n:Nat):enC (L.drop n)=(enC L).drop (n*2):=by
 induction n generalizing L with
 | zero=>simp
 | succ n ih =>
   cases L with
   | nil=>simp [enC]
   | cons e L =>
     have e1:enC (e::L)=.string e.1::.int .i64 e.2::enC L:=rfl
     rw [List.drop_succ_cons,ih,e1,show (n+1)*2=n*2+1+1 by omega,List.drop_succ_cons,List.drop_succ_cons]
theorem zjf {P:Program} {w:World} {ops:Array Oper} {o:Oper} {a:Act} {K:Act->World->Prop} {Q:Exit->Act->World->Prop} {E:Prop} (hgd:o.guard=none) (t:TypeId) (x lo:Operand)
 (ho:o.op=.slice t x (some lo) none none) (u k v:Value) (hr:∀ w,(Instr.sliceAt t u (some k) none none).run P w=.ok v w) (hu:a.eval x=u) (hk:a.eval lo=k) (h:K (a.put o.dst v) w) :
 if Region.wanted o (yielded ops a.tmps)=true then Oper.wp P o a w K Q else E:=by
 have hw:Region.wanted o (yielded ops a.tmps)=true:=by simp [Region.wanted,hgd]
 rw [if_pos hw]
 unfold Oper.wp execOp
 simp only [ho,hu,hk,Option.map_some,Option.map_none,Sem.run_bind,hr,Result.andThen_ok]
 exact h
theorem zhh {P:Program} {w:World} {ops:Array Oper} {rest:List Oper} {o:Oper} {a:Act} {Q:Exit->Act->World->Prop} (hgd:o.guard=none) (t:TypeId) (x lo:Operand)
 (ho:o.op=.slice t x (some lo) none none) (u k v:Value) (hr:∀ w,(Instr.sliceAt t u (some k) none none).run P w=.ok v w) (hu:a.eval x=u) (hk:a.eval lo=k) (h:wpList P ops Q rest (a.put o.dst v) w):wpList P ops Q (o::rest) a w :=
 wpList_step λ K hK=>zjf hgd t x lo ho u k v hr hu hk (hK _ _ h)
theorem zaB.tail {W:World} {aL:Option Addr} {cL n:Nat} {L:List REn} (h:zaB W (.slice aL L.length cL) L.length 2 (enC L)) (hn:n<=L.length) :
 ∃ aM,(∀ w,(Instr.sliceAt 50 (.slice aL L.length cL) (some (.int .i64 (n:Int))) none none).run Tryz.prog w=.ok (.slice aM (L.length-n) (cL-n)) w)/\zbV W (.slice aM (L.length-n) (cL-n)) (L.length-n) (enC (L.drop n)):=by
 obtain ⟨a',c',e,hl,hc,h0,h1⟩:=h
 cases e
 refine ⟨if cL=n then aL else aL.map (·.add (n*2)),λ w=>?_,_,_,rfl,λ e=>?_,λ ad e j u hu=>?_⟩
 ·rw [run_sliceAt_slice w _ _ _ _ _ Tryz.underlying50,run_slice_l w _ _ _ _ Tryz.underlying50 .i64 (n:Int) (by omega) (by omega)]
  rfl
 ·split at e
  ·omega
  ·cases aL with
   | none=>have:=h0 rfl;omega
   | some a=>cases e
 ·rw [zoM,List.getElem?_drop] at hu
  split at e
  ·have:(enC L).length<=n*2+j:=by rw [hl];omega
   rw [List.getElem?_eq_none this] at hu;cases hu
  ·cases aL with
   | none=>cases e
   | some a =>
     obtain ⟨b,off,rfl,h2,h3⟩:=h1 a rfl
     simp only [Option.map_some,Option.some.injEq] at e
     subst e
     rw [zbk,zbk,Nat.add_assoc]
     exact h3 _ _ hu
structure MgW (w:World) (va vl:Value) (C:List RCk) (L:List REn) (v3:Value) (i:Nat) (wr:World):Prop where
 box:zcn w va vl wr
 row:wr.ownsRow (w.heap.size+2) 175 3 v3 C.length (ckC (zbO C (L.take i)))
theorem MgW.below {w wr W:World} {va vl v3:Value} {C:List RCk} {L:List REn} {i:Nat} (h:MgW w va vl C L v3 i wr) (hb:Below wr.heap.size wr W):MgW w va vl C L v3 i W :=
 ⟨h.box.below hb,za0 h.row λ j e=>hb.block j (h.row.lt j e).2⟩
theorem MgW.fin {w W:World} {v3 v7:Value} {D:List RCk} {E:List REn} {n3 n7:Nat} {aA aL:Option Addr} {nA cA nL cL:Nat} (h3:D.length=n3) (h7:E.length=n7) (o3:W.ownsRow (w.heap.size+2) 175 3 v3 n3 (ckC D)) (o7:W.ownsRow (w.heap.size+2) 188 2 v7 n7 (enC E))
 (hb:Below w.heap.size w ((W.setCell ⟨w.heap.size+1,0,none⟩ v3).setCell ⟨w.heap.size+1,1,none⟩ v7)) :
 (StR ((W.setCell ⟨w.heap.size+1,0,none⟩ v3).setCell ⟨w.heap.size+1,1,none⟩ v7) (.agg #[v3,v7]) D E/\Below w.heap.size w ((W.setCell ⟨w.heap.size+1,0,none⟩ v3).setCell ⟨w.heap.size+1,1,none⟩ v7))/\∀ P,zau P (.agg #[.slice aA nA cA,.slice aL nL cL])->zau (λ b=>P b\/w.heap.size<=b) (.agg #[v3,v7]):=by
 subst h3 h7
 have l3:=λ j e=>(o3.lt j e).1
 have l7:=λ j e=>(o7.lt j e).1
 have hx:¬(w.heap.size+2<=w.heap.size+1):=by omega
 refine ⟨⟨⟨v3,v7,rfl,((zaB.own o3).setLoc (D:=λ b=>w.heap.size+2<=b) l3 hx v3).setLoc (D:=λ b=>w.heap.size+2<=b) l3 hx v7,((zaB.own o7).setLoc (D:=λ b=>w.heap.size+2<=b) l7 hx v3).setLoc (D:=λ b=>w.heap.size+2<=b) l7 hx v7⟩,hb⟩,λ P _=>⟨v3,v7,rfl,λ g e=>.inr (by have:=l3 g e;omega),λ g e=>.inr (by have:=l7 g e;omega)⟩⟩
theorem zoN (v:Value) (C:List RCk) (L:List REn) (lim:Int) (n:Nat) (w:World) (h:StR w v C L) (hC:C.length<=100000) (hL:L.length<=100000) (hn:min (max lim 0) (L.length:Int)=(n:Int)) (hc:∀ c∈C,-1000000<=c.2.2/\c.2.2<=1000000) (hby:∀ e∈L,-1<=e.2/\e.2<=1) :
 Calls Tryz.prog 49 #[v,.int .i64 lim] w λ e w'=>∃ v',e=.returned (.tuple #[v',.int .i64 (n:Int)])/\Hid ((StR w' v' (zbO C (L.take n)) (L.drop n)/\Below w.heap.size w w')/\∀ D,zau D v->zau (λ b=>D b\/w.heap.size<=b) v'):=by
 obtain ⟨jC,hjC,hC0,hC1,hC2⟩:=info_parts zkh
 obtain ⟨jE,hjE,hE0,hE1,hE2⟩:=info_parts zpq
 have HST:=Hd h
 obtain ⟨va,vl,rfl,h2,h3⟩:=h
 obtain ⟨aA,cA,rfl,-⟩:=h2.form
 obtain ⟨aL,cL,rfl,-⟩:=h3.form
 have B0:=zcn.start w (.slice aA C.length cA) (.slice aL L.length cL)
 obtain ⟨wb,hwb⟩:=exE ((w.alloc (.cells #[.slice aA C.length cA,.slice aL L.length cL] 52)).alloc (.cells #[.slice none 0 0,.slice none 0 0] 52))
 rw [hwb] at B0
 have HVL:=Hd h3
 have HVA:=Hd h2
 have HCC:=Hd hC
 have HLL:=Hd hL
 have HCB:=Hd hc
 have HBY:=Hd hby
 have hnl:n<=L.length:=by omega
 have HNL:=Hd hnl
 obtain ⟨x0,x1,x2,x3,x4⟩:=B0.cells
 have HB2:=Hd B0
 have HO1:Hid ((wb.alloc (.cells #[] 175)).ownsRow (w.heap.size+2) 175 3 (.slice (some ⟨wb.heap.size,0,none⟩) 0 0) 0 []):=Hd (World.ownsRow_lit wb #[] 0 (by have:=zab B0.r;omega) (by decide) rfl)
 have HBa:=Hd (B0.below ((zBr _ _).alloc (zNr _) (.cells #[] 175)))
 have HY1:Hid (zbV (wb.alloc (.cells #[] 175)) (.slice aA C.length cA) C.length (ckC C)):=Hd ((HVA.out.below (HBa.out.bel)).yields)
 have L1:=Hd (show 0+C.length<=maxLen/\(0+C.length)*40<=140737488355328 from ⟨by have:=HCC.out;unfold maxLen;omega,by have:=HCC.out;omega⟩)
 have HZ1:Hid (w.heap.size+2<=(wb.alloc (.cells #[] 175)).heap.size):=Hd (by have:=zab B0.r;simp;omega)
 clear B0 h2 h3 hC hL hc hby hnl
 go_enter Tryz.func49,Tryz.ntmps49
 go_wp2_with (
  (refine zeA 49 49 ⟨_,_,by with_reducible rfl⟩ ?_
   refine zag (by rfl) _ _ _ rfl (w.heap.size+2) 175 jC _ 3 40 Tryz.underlying49 hjC hC0 hC1 hC2 rfl (by decide) _ _ _ (by rfl) HO1.out _ C.length (ckC C) (by rfl) HY1.out (zi2 C) (zjd C) L1.out.1 L1.out.2 HZ1.out ?_
   intro v3 W3 ho3 hg3 ha3
   rw [Nat.zero_add] at ho3
   rw [List.nil_append] at ho3
   obtain ⟨a3,c3,rfl⟩:∃ a c,v3=.slice a C.length c:=by
    rcases ho3.2 with ⟨e,h0⟩|⟨g,cap,cur,e,-⟩
    ·exact ⟨_,_,by rw [e,h0]⟩
    ·exact ⟨_,_,e⟩
   have R0:Hid (MgW w (.slice aA C.length cA) (.slice aL L.length cL) C L (.slice a3 C.length c3) 0 W3):=Hd ⟨HBa.out.grown hg3 λ j e=>(HO1.out.lt j e).1,ho3⟩
   clear ho3 hg3 ha3 HO1 HBa HY1 HZ1 L1))
 clear hwb x0 x1 x2 x3 x4
 go_loopg [8] n (λ g s8 wr=>∃ (i:Nat),g=n-i/\i<=n/\s8=.int .i64 (i:Int)/\Hid (MgW w (.slice aA C.length cA) (.slice aL L.length cL) C L (.slice a3 C.length c3) i wr))
 case atStart=>exact ⟨0,rfl,zNz _,rfl,R0⟩
 case round =>
  obtain ⟨i,rfl,hi,rfl,HI⟩:=hrel
  clear R0
  by_cases hlt:i<n
  ·have hil:i<L.length:=by have:=HNL.out;omega
   obtain ⟨c1,c2⟩:=zi3 hil
   obtain ⟨b,off,rfl,hb,hcell⟩:=HVL.out.get c1
   have q1:=hcell _ _ c1
   have q2:w.cell? ⟨b,off+i*2+1,none⟩=some (.int .i64 L[i].2):=hcell _ _ c2
   have hby:=HBY.out _ (List.getElem_mem hil)
   have hll:=HLL.out
   have hMs:zbO C (L.take (i+1))=zd6 (zbO C (L.take i)) L[i].1 L[i].2:=by
    rw [zTs hil];exact zfW C (L.take i) L[i]
   have hbd:=zfh (L.take i) HCB.out (λ e he=>HBY.out e (List.mem_of_mem_take he))
   have hnm:=zmM (zff C (L.take i)) L[i].1
   have hDl:=zeU C (L.take i)
   have htl:((L.take i).length:Int)<=100000:=by rw [List.length_take];omega
   have HMS:=Hd hMs
   have HLT:=Hd hlt
   have hn5:n<=100000:=by have:=HNL.out;omega
   have CEL:Hid (∀ W,zcn w (.slice aA C.length cA) (.slice (some ⟨b,off,none⟩) L.length cL) W->W.cell? ⟨w.heap.size,0,none⟩=some (.slice aA C.length cA)/\W.cell? ⟨w.heap.size,1,none⟩=some (.slice (some ⟨b,off,none⟩) L.length cL)/\W.cell? ⟨b,off+i*2,none⟩=some (.string L[i].1)/\W.cell? ⟨b,off+i*2+1,none⟩=some (.int .i64 L[i].2)):=Hd λ W hW=>⟨hW.cells.1,hW.cells.2.1,(hW.bel.cell (p:=⟨b,off+i*2,none⟩) hb).trans q1,(hW.bel.cell (p:=⟨b,off+i*2+1,none⟩) hb).trans q2⟩
   have HD:Hid (∃ D,zbO C (L.take i)=D):=Hd ⟨_,rfl⟩
   obtain ⟨D,hD⟩:=HD.out
   have HI2:Hid (zcn w (.slice aA C.length cA) (.slice (some ⟨b,off,none⟩) L.length cL) wr/\wr.ownsRow (w.heap.size+2) 175 3 (.slice a3 C.length c3) C.length (ckC D)):=Hd ⟨HI.out.box,by rw [<-hD];exact HI.out.row⟩
   have HNX:Hid (∀ W,zcn w (.slice aA C.length cA) (.slice (some ⟨b,off,none⟩) L.length cL) W->W.ownsRow (w.heap.size+2) 175 3 (.slice a3 C.length c3) C.length (ckC (zd6 D L[i].1 L[i].2))->MgW w (.slice aA C.length cA) (.slice (some ⟨b,off,none⟩) L.length cL) C L (.slice a3 C.length c3) (i+1) W):=Hd λ W h1 h2=>⟨h1,by rw [hMs,hD];exact h2⟩
   rw [hD] at hbd hnm hDl
   clear hD HD hMs c1 c2 q1 q2 hcell hb HI HMS
   generalize L[i]=en at *
   obtain ⟨id,y⟩:=en
   simp only at hby hnm CEL HNX
   have AT:Hid (∀ W,Below wr.heap.size wr W->Calls Tryz.prog 102 #[.agg #[.slice aA C.length cA,.slice (some ⟨b,off,none⟩) L.length cL],.string id] W λ e w'=>e=.returned (.int .i64 (ixR D id))/\(w'.cell? ⟨w.heap.size,0,none⟩=some (.slice aA C.length cA)/\w'.cell? ⟨w.heap.size,1,none⟩=some (.slice (some ⟨b,off,none⟩) L.length cL)/\w'.cell? ⟨b,off+i*2,none⟩=some (.string id)/\w'.cell? ⟨b,off+i*2+1,none⟩=some (.int .i64 y))/\Hid (Below wr.heap.size wr w')):=Hd λ W hW=>by
    refine (zib (.agg #[.slice aA C.length cA,.slice (some ⟨b,off,none⟩) L.length cL]) C L id W (HST.out.below (HI2.out.1.below hW).bel) (by have:=HCC.out;omega)).mono ?_
    rintro e w' ⟨rfl,hb⟩
    have hbw:=hW.trans (hb.out.mono hW.size)
    rw [hnm]
    exact ⟨rfl,CEL.out w' (HI2.out.1.below hbw),Hd hbw⟩
   have A0:=AT.out _ (zBr wr.heap.size wr).drew
   obtain ⟨d0,d1,d2,d3⟩:=CEL.out _ HI2.out.1
   clear AT hnm
   cases hf:zhj D id with
   | none =>
     obtain ⟨hx,hno⟩:=zdD hf
     rw [hx] at A0
     have HN:Hid (∀ W,Below wr.heap.size wr W->MgW w (.slice aA C.length cA) (.slice (some ⟨b,off,none⟩) L.length cL) C L (.slice a3 C.length c3) (i+1) W):=Hd λ W hW=>HNX.out W (HI2.out.1.below hW) (by rw [zmN hno];exact za0 HI2.out.2 λ j e=>hW.block j (HI2.out.2.lt j e).2)
     clear hx hno hf HNX HI2 hbd hDl htl hby
     go_wp2_with fail
     go_region_held3 (λ w'=>w'.cell? ⟨w.heap.size,0,none⟩=some (.slice aA C.length cA)/\w'.cell? ⟨w.heap.size,1,none⟩=some (.slice (some ⟨b,off,none⟩) L.length cL)/\w'.cell? ⟨b,off+i*2,none⟩=some (.string id)/\w'.cell? ⟨b,off+i*2+1,none⟩=some (.int .i64 y)) (go_keep) ((first
      | (go_at_call 102
         refine Calls.at_args A0 (by with_reducible rfl) ?_
         rintro e w4 ⟨rfl,hk4,HB4⟩)))
     all_goals (
      have HG:=Hd (HN.out _ HB4.out)
      go_wp2_with fail
      go_roundg (n-(i+1))
      case measure=>omega
      case rel=>exact ⟨i+1,rfl,HLT.out,by congr 1,HG⟩)
   | some c =>
     obtain ⟨kk,hkk,hck,hx,hno⟩:=zcY hf
     rw [hx] at A0
     have hid:D[kk].1=id:=by rw [hck];have:=List.find?_some hf;simpa using this
     have hkC:kk<C.length:=by omega
     have hq:=hbd c (by rw [<-hck];exact List.getElem_mem hkk)
     obtain ⟨g3,c3',hv,k3⟩:=zdF HI2.out.2 (by omega)
     cases hv
     have hgc:=(HI2.out.2.cellAt (kk*3+2) (by omega)).trans (zcm hkk).2.2
     rw [hck] at hgc
     have hgf:=HI2.out.2.frozenAt (kk*3+2)
     have hgl:=(HI2.out.2.lt g3 rfl).2
     have hset:(ckC D).set (kk*3+2) (.int .i64 (c.2.2+y))=ckC (zd6 D id y):=by rw [zj9 hkk hid hno,zje D kk hkk,hck]
     have HN:Hid (∀ W,Below wr.heap.size wr W->MgW w (.slice aA C.length cA) (.slice (some ⟨b,off,none⟩) L.length cL) C L (.slice (some ⟨g3,0,none⟩) C.length c3) (i+1) (W.setCell ⟨g3,kk*3+2,none⟩ (.int .i64 (c.2.2+y)))):=Hd λ W hW=>by
      refine HNX.out _ ((HI2.out.1.below hW).setH k3 _ _) ?_
      have h1:=((za0 HI2.out.2 λ j e=>hW.block j (HI2.out.2.lt j e).2).stored (kk*3+2) (.int .i64 (c.2.2+y))).1
      rwa [hset] at h1
     have HGC:Hid (∀ W,Below wr.heap.size wr W->W.cell? ⟨g3,kk*3+2,none⟩=some (.int .i64 c.2.2)/\W.frozen? ⟨g3,kk*3+2,none⟩=false):=Hd λ W hW=>by
      have h1:=za0 HI2.out.2 λ j e=>hW.block j (HI2.out.2.lt j e).2
      exact ⟨(hW.cell (p:=⟨g3,kk*3+2,none⟩) hgl).trans hgc,h1.frozenAt (kk*3+2)⟩
     have hk0:decide ((kk:Int) >= 0)=true:=decide_eq_true (by omega)
     have kw:wrap64 (c.2.2+y)=c.2.2+y:=by unfold wrap64;omega
     have kw2:IntKind.i64.wrap (c.2.2+y)=c.2.2+y:=zcX (by omega) (by omega)
     have hCL:=HCC.out
     clear hx hno hf HNX hbd hDl htl hid hck hset hgc hgf hq hkk k3 hby
     generalize c.2.2=q at *
     go_wp2_with fail
     go_region_held3 (λ w'=>w'.cell? ⟨w.heap.size,0,none⟩=some (.slice aA C.length cA)/\w'.cell? ⟨w.heap.size,1,none⟩=some (.slice (some ⟨b,off,none⟩) L.length cL)/\w'.cell? ⟨b,off+i*2,none⟩=some (.string id)/\w'.cell? ⟨b,off+i*2+1,none⟩=some (.int .i64 y)) (go_keep) ((first
      | (go_at_call 102
         refine Calls.at_args A0 (by with_reducible rfl) ?_
         rintro e w4 ⟨rfl,hk4,HB4⟩)))
     all_goals (
      have HG:=Hd (HN.out _ HB4.out)
      obtain ⟨y0,y1⟩:=HGC.out _ HB4.out
      obtain ⟨z0,z1,z2,z3⟩:=hk4
      go_wp2_with fail
      go_region
      have HG2:=Hd (HG.out.below (zBr _ _).drew)
      go_wp2_with fail
      go_roundg (n-(i+1))
      case measure=>omega
      case rel=>exact ⟨i+1,rfl,HLT.out,by congr 1,HG2⟩)
  ·obtain rfl:i=n:=by omega
   have HBa:=Hd (HI.out.below ((zBr _ _).alloc (zNr _) (.cells #[] 188)))
   obtain ⟨aM,hsl,hyl⟩:=(HVL.out.below HBa.out.box.bel).tail HNL.out
   have HYL:=Hd hyl
   have hz:w.heap.size+2<=wr.heap.size:=by have:=zab HI.out.box.r;omega
   have HO1:Hid ((wr.alloc (.cells #[] 188)).ownsRow (w.heap.size+2) 188 2 (.slice (some ⟨wr.heap.size,0,none⟩) 0 0) 0 []):=Hd (World.ownsRow_lit wr #[] 0 hz (by decide) rfl)
   have L1:=Hd (show 0+(L.length-i)<=maxLen/\(0+(L.length-i))*24<=140737488355328 from ⟨by have:=HLL.out;unfold maxLen;omega,by have:=HLL.out;omega⟩)
   have HZ1:Hid (w.heap.size+2<=(wr.alloc (.cells #[] 188)).heap.size):=Hd (by simp;omega)
   have HLD:Hid ((enC (L.drop i)).length=(L.length-i)*2):=Hd (by rw [zmV,List.length_drop])
   have HRW:Hid (∀ j,(Value.slice a3 C.length c3).ownBlock=some j->j<wr.heap.size/\w.heap.size+2<=j):=Hd λ j e=>⟨(HI.out.row.lt j e).2,(HI.out.row.lt j e).1⟩
   obtain ⟨x0,x1,x2,x3,x4⟩:=HI.out.box.cells
   clear hyl hz HI hlt hi
   go_wp2_with (first
    | (refine zhh (by rfl) _ _ _ rfl (.slice aL L.length cL) (.int .i64 (i:Int)) (.slice aM (L.length-i) (cL-i)) hsl (by rfl) (by rfl) ?_)
    | (refine zeA 50 50 ⟨_,_,by with_reducible rfl⟩ ?_
       refine zag (by rfl) _ _ _ rfl (w.heap.size+2) 188 jE _ 2 24 Tryz.underlying50 hjE hE0 hE1 hE2 rfl (by decide) _ _ _ (by rfl) HO1.out _ (L.length-i) (enC (L.drop i)) (by rfl) HYL.out HLD.out (zm6 _) L1.out.1 L1.out.2 HZ1.out ?_
       intro v7 W7 ho7 hg7 ha7
       rw [Nat.zero_add] at ho7
       rw [List.nil_append] at ho7
       obtain ⟨a7,c7,rfl⟩:∃ a c,v7=.slice a (L.length-i) c:=by
        rcases ho7.2 with ⟨e,h0⟩|⟨g,cap,cur,e,-⟩
        ·exact ⟨_,_,by rw [e,h0]⟩
        ·exact ⟨_,_,e⟩
       have hB7:=HBa.out.box.grown hg7 λ j e=>(HO1.out.lt j e).1
       have hR7:=za0 HBa.out.row λ j e=>hg7.block j (by have:=(HRW.out j e).1;simp;omega) (by have:=(HRW.out j e).1;intro e2;have e3:j=wr.heap.size:=Option.some.inj e2;omega)
       obtain ⟨r0,r1,r2,r3,r4⟩:=hB7.res
       obtain ⟨o1,o2,o3,o4,o5⟩:=hB7.out (.slice a3 C.length c3) (.slice a7 (L.length-i) c7)
       have HG:=Hd (MgW.fin (D:=zbO C (L.take i)) (E:=L.drop i) (aA:=aA) (cA:=cA) (nA:=C.length) (aL:=aL) (cL:=cL) (nL:=L.length) (zeU C _) (by rw [List.length_drop]) hR7 ho7 o5)
       clear ho7 hg7 ha7 hB7 hR7 o5))
   (try simp only [Exit.inBlock,Exit.then])
   refine bodyPost_ret (v:=.tuple #[.agg #[.slice a3 C.length c3,.slice a7 (L.length-i) c7],.int .i64 (i:Int)]) ?_ rfl ⟨_,rfl,HG⟩
   rw [results_cell_tmp rfl]
   go_simp
structure RcW (w:World) (va vl:Value) (D:List RCk) (v6:Value) (wr:World):Prop where
 box:zcn w va vl wr
 row:wr.ownsRow (w.heap.size+2) 175 3 v6 D.length (ckC D)
theorem RcW.below {w wr W:World} {va vl v6:Value} {D:List RCk} (h:RcW w va vl D v6 wr) (hb:Below wr.heap.size wr W):RcW w va vl D v6 W :=
 ⟨h.box.below hb,za0 h.row λ j e=>hb.block j (h.row.lt j e).2⟩
theorem RcW.snoc {w wr W5:World} {va vl v v5:Value} {D:List RCk} {c:RCk} (h:RcW w va vl D v wr) (o:Obj) (hg:(wr.alloc o).grownBy W5 v.ownBlock) (h5:W5.ownsRow (w.heap.size+2) 175 3 v5 (D.length+1) (ckC D++[.string c.1,.string c.2.1,.int .i64 c.2.2])):RcW w va vl (D++[c]) v5 W5:=by
 have hb:=h.box.below ((zBr _ _).alloc (zNr _) o)
 exact ⟨hb.grown hg λ j e=>(h.row.lt j e).1,by rw [zLa,List.length_singleton,zkc];exact h5⟩
theorem zla (v:Value) (C:List RCk) (L:List REn) (lim:Int) (w:World) (h:StR w v C L) (hC:C.length<=100000) (hL:L.length<=100000) (hby:∀ e∈L,-1<=e.2/\e.2<=1) (hlim:-9223372036854775808<=lim/\lim<9223372036854775808) :
 Calls Tryz.prog 50 #[v,.int .i64 lim] w λ e w'=>∃ v',e=.returned (.tuple #[v',.int .i64 ((zcl L lim 0 C).2:Int)])/\Hid ((StR w' v' (zcl L lim 0 C).1 L/\Below w.heap.size w w')/\∀ D,zau D v->zau (λ b=>D b\/w.heap.size<=b) v'):=by
 obtain ⟨jC,hjC,hC0,hC1,hC2⟩:=info_parts zkh
 have HST:=Hd h
 obtain ⟨va,vl,rfl,h2,h3⟩:=h
 obtain ⟨aA,cA,rfl,-⟩:=h2.form
 obtain ⟨aL,cL,rfl,-⟩:=h3.form
 have B0:=zcn.start w (.slice aA C.length cA) (.slice aL L.length cL)
 obtain ⟨wb,hwb⟩:=exE ((w.alloc (.cells #[.slice aA C.length cA,.slice aL L.length cL] 52)).alloc (.cells #[.slice none 0 0,.slice none 0 0] 52))
 rw [hwb] at B0
 have HVL:=Hd h3
 have HVA:=Hd h2
 have HCC:=Hd hC
 have HLM:=Hd hlim
 have HRC:Hid (∀ k (hk:k<C.length),zcl L lim 0 (C.take (k+1))=zh9 L lim C[k] (zcl L lim 0 (C.take k))):=Hd λ k hk=>by rw [zTs hk,zeV]
 have HLE:Hid (∀ k,(zcl L lim 0 (C.take k)).1.length+(zcl L lim 0 (C.take k)).2<=C.length):=Hd λ k=>by
  rw [zfY,List.length_take];omega
 have PD:Hid (∀ id W,zcn w (.slice aA C.length cA) (.slice aL L.length cL) W->Calls Tryz.prog 101 #[.agg #[.slice aA C.length cA,.slice aL L.length cL],.string id] W λ e w'=>e=.returned (.tuple #[.int .i64 (zaU L id).1,.int .i64 ((zaU L id).2:Int)])/\Hid (Below W.heap.size W w')):=Hd λ id W hW=>zeY _ C L id W (HST.out.below hW.bel) hL hby
 have HPL:Hid (∀ id,(zaU L id).2<=100000):=Hd λ id=>Nat.le_trans (zh8 L id) hL
 have R0:Hid (RcW w (.slice aA C.length cA) (.slice aL L.length cL) [] (.slice none 0 0) wb):=Hd ⟨B0,World.ownsRow_nil _ _ _ _⟩
 clear B0 h2 h3 hC hL hby hlim
 go_enter Tryz.func50,Tryz.ntmps50
 go_wp2_with fail
 go_loopg [6,7,8] C.length (λ g s6 s7 s8 wr=>∃ (k:Nat) (q:List RCk × Nat) (v6:Value),g=C.length-k/\k<=C.length/\v6=s6/\s7=.int .i64 (q.2:Int)/\s8=.int .i64 (k:Int)/\Hid (zcl L lim 0 (C.take k)=q)/\Hid (RcW w (.slice aA C.length cA) (.slice aL L.length cL) q.1 v6 wr))
 case atStart=>exact ⟨0,([],0),_,rfl,zNz _,rfl,rfl,rfl,Hd rfl,R0⟩
 case round =>
  obtain ⟨k,⟨D,n⟩,v6,rfl,hk,rfl,rfl,rfl,HQ,HI⟩:=hrel
  clear R0
  simp only at HI ⊢
  by_cases hlt:k<C.length
  ·obtain ⟨c0,c1,c2⟩:=zcm hlt
   obtain ⟨b,off,rfl,hb,hcell⟩:=HVA.out.get c0
   have q0:=hcell _ _ c0
   have q1:=hcell _ _ c1
   have q2:=hcell _ _ c2
   have hrc:=HRC.out k hlt
   have hle:=HLE.out k
   have hle1:=HLE.out (k+1)
   rw [HQ.out] at hrc hle
   simp only at hrc hle
   have hcc:=HCC.out
   have HWR:=Hd (ziY hlt (by omega))
   have HWN:Hid (n<C.length->wrap64 ((n:Int)+1)=((n+1:Nat):Int)):=Hd λ hn=>ziY hn (by omega)
   have hpl:∀ pd,zaU L C[k].1=pd->pd.2<=100000:=λ pd h=>by rw [<-h];exact HPL.out _
   have hPD:∀ W,zcn w (.slice (some ⟨b,off,none⟩) C.length cA) (.slice aL L.length cL) W->∀ pd,zaU L C[k].1=pd->Calls Tryz.prog 101 #[.agg #[.slice (some ⟨b,off,none⟩) C.length cA,.slice aL L.length cL],.string C[k].1] W λ e w'=>e=.returned (.tuple #[.int .i64 pd.1,.int .i64 (pd.2:Int)])/\Hid (Below W.heap.size W w'):=λ W hW pd h=>by rw [<-h];exact PD.out C[k].1 W hW
   have CEL:Hid (∀ W,zcn w (.slice (some ⟨b,off,none⟩) C.length cA) (.slice aL L.length cL) W->W.cell? ⟨w.heap.size,0,none⟩=some (.slice (some ⟨b,off,none⟩) C.length cA)/\W.cell? ⟨w.heap.size,1,none⟩=some (.slice aL L.length cL)/\W.cell? ⟨b,off+k*3,none⟩=some (.string C[k].1)/\W.cell? ⟨b,off+k*3+1,none⟩=some (.string C[k].2.1)/\W.cell? ⟨b,off+k*3+2,none⟩=some (.int .i64 C[k].2.2)):=Hd λ W hW=>⟨hW.cells.1,hW.cells.2.1,(hW.bel.cell (p:=⟨b,off+k*3,none⟩) hb).trans q0,(hW.bel.cell (p:=⟨b,off+k*3+1,none⟩) hb).trans q1,(hW.bel.cell (p:=⟨b,off+k*3+2,none⟩) hb).trans q2⟩
   have HLT:=Hd hlt
   have HRX:=Hd hrc
   have HLX:=Hd hle
   clear hrc hle hle1 c0 c1 c2 hcell q0 q1 q2 hb HQ
   generalize C[k]=c at *
   obtain ⟨ci,ct,cn⟩:=c
   simp only at hPD CEL HRX hpl
   obtain ⟨⟨p1,p2⟩,hpd⟩:∃ pd,zaU L ci=pd:=⟨_,rfl⟩
   replace hpl:=hpl _ hpd
   replace hPD:=λ W hW=>hPD W hW _ hpd
   simp only at hpl hPD
   have HPP:=Hd hpd
   clear hpd
   obtain ⟨d0,d1,d2,d3,d4⟩:=CEL.out _ HI.out.box
   have PDW:Hid (∀ W,Below wr.heap.size wr W->Calls Tryz.prog 101 #[.agg #[.slice (some ⟨b,off,none⟩) C.length cA,.slice aL L.length cL],.string ci] W λ e w'=>e=.returned (.tuple #[.int .i64 p1,.int .i64 (p2:Int)])/\(w'.cell? ⟨w.heap.size,0,none⟩=some (.slice (some ⟨b,off,none⟩) C.length cA)/\w'.cell? ⟨w.heap.size,1,none⟩=some (.slice aL L.length cL)/\w'.cell? ⟨b,off+k*3,none⟩=some (.string ci)/\w'.cell? ⟨b,off+k*3+1,none⟩=some (.string ct)/\w'.cell? ⟨b,off+k*3+2,none⟩=some (.int .i64 cn))/\Hid (Below wr.heap.size wr w')):=Hd λ W hW=>by
    refine (hPD W (HI.out.box.below hW)).mono ?_
    rintro e w' ⟨rfl,hb⟩
    have hbw:=hW.trans (hb.out.mono hW.size)
    exact ⟨rfl,CEL.out w' (HI.out.box.below hbw),Hd hbw⟩
   have hdr:Below wr.heap.size wr wr.drew:=(zBr _ _).drew
   have PD0:=PDW.out _ hdr
   clear hPD PDW hdr
   have HNXN:Hid (∀ q,zh9 L lim (ci,ct,cn) (D,n)=q->zcl L lim 0 (C.take (k+1))=q):=Hd λ q h=>HRX.out.trans h
   have HRS:Hid (zh9 L lim (ci,ct,cn) (D,n)=if (n:Int)<lim/\cn<=0/\(zaU L ci).2=0 then (D,n+1) else (D++[(ci,ct,cn)],n)):=Hd rfl
   rw [HPP.out] at HRS
   clear HRX
   have HL1:=Hd (show D.length+1<=maxLen/\(D.length+1)*40<=140737488355328 from ⟨by have:=HLX.out;unfold maxLen;omega,by have:=HLX.out;omega⟩)
   have hnC:n<=100000:=by have:=HLX.out;omega
   go_wp2_with fail
   go_region_held3 (λ w'=>w'.cell? ⟨w.heap.size,0,none⟩=some (.slice (some ⟨b,off,none⟩) C.length cA)/\w'.cell? ⟨w.heap.size,1,none⟩=some (.slice aL L.length cL)/\w'.cell? ⟨b,off+k*3,none⟩=some (.string ci)/\w'.cell? ⟨b,off+k*3+1,none⟩=some (.string ct)/\w'.cell? ⟨b,off+k*3+2,none⟩=some (.int .i64 cn)) (go_keep) ((first
    | (go_at_call 101
       refine Calls.at_args PD0 (by with_reducible rfl) ?_
       rintro e w4 ⟨rfl,hk4,HB4⟩)))
   all_goals (
    clear d0 d1 d2 d3 d4
    obtain ⟨d0,d1,d2,d3,d4⟩:=hk4
    by_cases hcond:(n:Int)<lim/\cn<=0/\p2=0
    ·have g1:decide ((n:Int)<lim)=true:=decide_eq_true hcond.1
     have g2:decide (cn<=0)=true:=decide_eq_true hcond.2.1
     have g3:p2=0:=hcond.2.2
     have HE:=Hd (HNXN.out _ (HRS.out.trans (if_pos hcond)))
     have HG:=Hd (HI.out.below HB4.out)
     clear hcond PD0 HI HRS HNXN
     subst g3
     go_wp2_with fail
     go_roundg (C.length-(k+1))
     case measure=>have:=HLT.out;omega
     case rel=>exact ⟨k+1,(D,n+1),_,rfl,HLT.out,rfl,by congr 1,by congr 1,HE,HG⟩
    ·have HE:=Hd (HNXN.out _ (HRS.out.trans (if_neg hcond)))
     have HG:=Hd (HI.out.below HB4.out)
     have hco:decide ((n:Int)<lim)=false\/(decide ((n:Int)<lim)=true/\decide (cn<=0)=false)\/(decide ((n:Int)<lim)=true/\decide (cn<=0)=true/\((p2:Int) == 0)=false):=by
      by_cases h1:(n:Int)<lim
      ·by_cases h2:cn<=0
       ·refine .inr (.inr ⟨decide_eq_true h1,decide_eq_true h2,?_⟩)
        simp only [beq_eq_false_iff_ne,ne_eq]
        intro h3
        exact hcond ⟨h1,h2,by omega⟩
       ·exact .inr (.inl ⟨decide_eq_true h1,decide_eq_false h2⟩)
      ·exact .inl (decide_eq_false h1)
     have HST5:Hid (∀ (o:Obj) W5 v5,(w4.alloc o).grownBy W5 v6.ownBlock->W5.ownsRow (w.heap.size+2) 175 3 v5 (D.length+1) (ckC D++[.string ci,.string ct,.int .i64 cn])->RcW w (.slice (some ⟨b,off,none⟩) C.length cA) (.slice aL L.length cL) (D++[(ci,ct,cn)]) v5 W5):=Hd λ o W5 v5 h1 h2=>HG.out.snoc o h1 h2
     have HOW:=Hd HG.out.row
     have HZ:Hid (∀ o:Obj,w.heap.size+2<=(w4.alloc o).heap.size):=Hd λ o=>by have:=zab HG.out.box.r;simp;omega
     clear hcond PD0 HI HRS HNXN HG
     rcases hco with g1|⟨g1,g2⟩|⟨g1,g2,g3⟩
     all_goals (
      go_wp2_with (
       (refine zeA 49 49 ⟨_,_,by with_reducible rfl⟩ ?_
        refine zag (by rfl) _ _ _ rfl (w.heap.size+2) 175 jC _ 3 40 Tryz.underlying49 hjC hC0 hC1 hC2 rfl (by decide) _ _ _ (by rfl) (HOW.out.alloc _) _ 1 _ (by rfl) (zai _ #[.string ci,.string ct,.int .i64 cn] _ 1 1) rfl (zpk _ _ _ rfl rfl rfl) HL1.out.1 HL1.out.2 (HZ.out _) ?_
        intro v5 W5 ho5 hg5 ha5
        have HN5:=Hd (HST5.out _ W5 v5 hg5 ho5)
        clear ho5 hg5 ha5))
      go_roundg (C.length-(k+1))
      case measure=>have:=HLT.out;omega
      case rel=>exact ⟨k+1,(D++[(ci,ct,cn)],n),_,rfl,HLT.out,rfl,rfl,by congr 1,HE,HN5⟩))
  ·obtain rfl:k=C.length:=by omega
   have hq:=HQ.out
   rw [List.take_length] at hq
   obtain ⟨a6,c6,rfl⟩:∃ a c,v6=.slice a D.length c:=by
    rcases HI.out.row.2 with ⟨e,h0⟩|⟨g,cap,cur,e,-⟩
    ·exact ⟨_,_,by rw [e,h0]⟩
    ·exact ⟨_,_,e⟩
   obtain ⟨x0,x1,x2,x3,x4⟩:=HI.out.box.cells
   have hB5:=HI.out.box.set (.slice a6 D.length c6)
   obtain ⟨z0,z1,z2,z3,z4⟩:=hB5.cells
   obtain ⟨r0,r1,r2,r3,r4⟩:=hB5.res
   obtain ⟨o1,o2,o3,o4,o5⟩:=hB5.out (.slice a6 D.length c6) (.slice aL L.length cL)
   have hx0:¬(w.heap.size+2<=w.heap.size):=by omega
   have hx1:¬(w.heap.size+2<=w.heap.size+1):=by omega
   have l6:=λ j e=>(HI.out.row.lt j e).1
   have HE:=Hd hq
   have HG:=Hd (And.intro (And.intro (show StR _ (.agg #[.slice a6 D.length c6,.slice aL L.length cL]) D L from ⟨_,_,rfl,(((zaB.own HI.out.row).setLoc (D:=λ b=>w.heap.size+2<=b) l6 hx0 (.slice a6 D.length c6)).setLoc (D:=λ b=>w.heap.size+2<=b) l6 hx1 (.slice a6 D.length c6)).setLoc (D:=λ b=>w.heap.size+2<=b) l6 hx1 (.slice aL L.length cL),HVL.out.below o5⟩) o5) (λ P (hD:zau P (.agg #[.slice aA C.length cA,.slice aL L.length cL]))=>show zau (λ b=>P b\/w.heap.size<=b) (.agg #[.slice a6 D.length c6,.slice aL L.length cL]) from by
    obtain ⟨p1,p2,e,g1,g2⟩:=hD
    cases e
    exact ⟨_,_,rfl,λ g e=>.inr (by have:=l6 g e;omega),λ g e=>.inl (g2 g e)⟩))
   clear HI HQ hq hlt hk hB5 o5 l6 hx0 hx1
   go_wp2_with fail
   (try simp only [Exit.inBlock,Exit.then])
   refine bodyPost_ret (v:=.tuple #[.agg #[.slice a6 D.length c6,.slice aL L.length cL],.int .i64 (n:Int)]) ?_ rfl ⟨_,by rw [HE.out],by rw [HE.out];exact HG⟩
   rw [results_cell_tmp rfl]
   go_simp
variable {bse:List (Int × ByteArray)}
section
variable (w1 w w0:World) (K:Nat->Prop) (sb rb ti tl n N a nx:Nat) (C:List Ck) (L:List Lg) (X:List (Nat × ByteArray))
theorem zng (id:ByteArray) (up:Bool) (c:Ck) (h:Hid (Chs bse w1 w0 w K sb rb ti tl n N a C L nx X)) (hN:a<N/\N<=1000) (hf:cAt C id=some c) (hcb:-1000000<=c.cnt/\c.cnt<=1000000) :
 Calls Tryz.prog 96 #[.pointer (some ⟨sb,0,none⟩),.string id,.int .i64 (byI up)] w λ e w'=>e=.returned (.int .i64 0)/\Hid (∃ C',zeC (c.add (byI up)) C C'/\Chs bse w1 w0 w' K sb rb ti tl n N (a+1) C' L nx X):=by
 obtain ⟨x,hx⟩:=exE (w.heap.size)
 obtain ⟨wb,hwb⟩:=exE (w.alloc (.cells #[.int .i64 0] 34))
 have E0:Hid (ChE bse w1 w x 0 wb K sb rb ti tl n N a C L nx X):=Hd (by subst hx hwb;exact ChE.start h.out)
 obtain ⟨k,MK⟩:=zmz w1 wb wb _ sb rb ti tl n N a nx C L X (Hd E0.out.st)
 obtain ⟨hm,hid⟩:=zaQ hf
 have hok:=h.out.ok.1 c hm
 have his:id.size=33:=by rw [<-hid];exact hok.id
 have FY:=zcW id c (Hd E0.out.st) ⟨by omega,hN.2⟩ (by omega) hf
 rw [show c.v=.agg #[.int .i64 (c.page:Int),.int .i64 (c.text.size:Int),.int .i64 c.cnt] from rfl] at FY
 have hbb:-1<=byI up/\byI up<=1:=by unfold byI;split <;> omega
 have KP:Hid (∀ W,Hid (ChE bse w1 w x 0 W K sb rb ti tl n N a C L nx X)->Calls Tryz.prog 68 #[.pointer (some ⟨sb,0,none⟩),.string id,.agg #[.int .i64 (c.page:Int),.int .i64 (c.text.size:Int),.int .i64 (c.cnt+byI up)]] W λ e w'=>e=.returned (.int .i64 0)/\Hid (∃ C2,zeC (c.add (byI up)) C C2/\ChE bse w1 w x 0 w' K sb rb ti tl n N (a+1) C2 L nx X)):=Hd λ W hW=>by
  have hk:=zh3 (c.add (byI up)) c (Ck.add_ok hok (by omega) (by omega)) (by show cAt C c.id=some c;rw [hid];exact hf) (Hd hW.out.st) hN
  rw [show (c.add (byI up)).id=id from hid] at hk
  refine hk.mono ?_
  rintro e w' ⟨rfl,hE⟩
  obtain ⟨C2,h1,h2⟩:=hE.out
  exact ⟨rfl,Hd ⟨C2,h2,hW.out.step h1⟩⟩
 have kw:IntKind.i64.wrap (c.cnt+byI up)=c.cnt+byI up:=zcX (by omega) (by omega)
 have HH:=Hd h.out
 generalize c.add (byI up)=ca at *
 generalize c.page=z0 at *
 generalize (c.text.size:Int)=z1 at *
 generalize c.cnt=z2 at *
 clear h hN hf hcb hm hid hok his hbb
 cases up
 all_goals (
  first
   | rw [show byI true=1 from rfl] at *
   | rw [show byI false=-1 from rfl] at *
  go_enter_defers Tryz.func96,Tryz.ntmps96
  go_wp2_with fail
  subst hx
  refine MK.mono ?_
  rintro e wm ⟨rfl,rfl⟩
  go_wp2_with fail
  refine FY.mono ?_
  rintro e w2 ⟨rfl,G2⟩
  have E2:=Hd (E0.out.step G2.out)
  obtain ⟨cx,fx,lx⟩:=E2.out.cell
  obtain ⟨s0,s1,s2⟩:=E2.out.st.sbk.cells
  have lsb:sb<w2.heap.size:=zab E2.out.st.sbk.1
  have nsb:sb≠w.heap.size:=E2.out.ne.1.symm
  clear FY MK G2
  go_wp2_with fail
  refine (KP.out _ (Hd ((E2.out.set 0).below ((zBr _ _).alloc (zNr _) _)))).mono ?_
  rintro e w7 ⟨rfl,H7⟩
  obtain ⟨C2,hp,E7⟩:=H7.out
  have HP:=Hd hp
  have E7:=Hd E7
  clear hp H7 KP cx fx lx s0 s1 s2 lsb nsb
  obtain ⟨cx,fx,lx⟩:=E7.out.cell
  have E8:=Hd (E7.out.set 0)
  have hfin:=E8.out.cell.1
  go_wp2_with fail
  refine leaves_cons (f:=60) (args:=#[.pointer (some ⟨sb,0,none⟩),.int .i64 (k:Int),.pointer (some ⟨w.heap.size,0,none⟩)]) (by simp) (by simp [go_sem]) ?_
  refine (zev _ _ _ _ _ hfin).mono ?_
  rintro e u' w9 ⟨rfl,rfl,rfl⟩
  have HGO:=Hd (ChE.end_ HH.out E8.out)
  simp [Leaves,settle,results,Tryz.results96,go_sem,hfin]
  exact Hd ⟨C2,HP.out,HGO.out⟩)
theorem znh (t:ByteArray) (h:Hid (Chs bse w1 w0 w K sb rb ti tl n N a C L nx X)) (hN:a<=N/\N<=1000) (ht:t.size<1\/128<t.size) :
 Calls Tryz.prog 18 #[.pointer (some ⟨sb,0,none⟩),.string t] w λ e w'=>e=.returned (.tuple #[.string ⟨#[]⟩,.bool false,.int .i64 1])/\Hid (Chs bse w1 w0 w' K sb rb ti tl n N a C L nx X):=by
 obtain ⟨x,hx⟩:=exE (w.heap.size)
 obtain ⟨wb,hwb⟩:=exE (w.alloc (.cells #[.int .i64 0] 34))
 have E0:Hid (ChE bse w1 w x 0 wb K sb rb ti tl n N a C L nx X):=Hd (by subst hx hwb;exact ChE.start h.out)
 obtain ⟨puts,S,o0,o1,M,MK⟩:=E0.out.st.mark
 have S0:=Hd (ChS.start E0.out M)
 obtain ⟨p,q,c,-,FA⟩:=zhb ⟨#[]⟩ M hN S0.out.st
 have HM:=Hd M
 have BK:Hid (∀ W er,ChS w1 w x er W K sb rb ti tl n (300*a) S->_):=Hd λ W er hW=>hW.back (by omega) M h.out.kept
 obtain ⟨pl,hpl⟩:∃ pl:Int,(puts.length:Int)=pl:=⟨_,rfl⟩
 rw [hpl] at MK BK
 clear h hN M E0 hpl
 have hd:decide ((t.size:Int)<1)=true\/(decide ((t.size:Int)<1)=false/\decide ((t.size:Int) > 128)=true):=by
  rcases Nat.lt_or_ge t.size 1 with q1|q1
  ·exact .inl (decide_eq_true (by omega))
  ·exact .inr ⟨decide_eq_false (by omega),decide_eq_true (by omega)⟩
 clear ht
 rcases hd with d0|⟨d0,d1⟩
 all_goals (
  go_enter_defers Tryz.func18,Tryz.ntmps18
  go_wp2_with fail
  subst hx
  refine MK.mono ?_
  rintro e wm ⟨rfl,rfl⟩
  go_wp2_with fail
  refine FA.mono ?_
  rintro e w2 ⟨rfl,G2⟩
  have E2:=Hd (S0.out.step G2.out)
  obtain ⟨cx,fx,lx⟩:=E2.out.cell
  have E3:=Hd λ o=>(E2.out.set 1).below ((zBr _ _).alloc (zNr _) o)
  have hfin:=λ o=>(E3.out o).cell.1
  have B3:=λ o=>BK.out _ _ (E3.out o)
  clear FA MK G2 BK
  go_wp2_with fail
  refine leaves_cons (f:=60) (args:=#[.pointer (some ⟨sb,0,none⟩),.int .i64 pl,.pointer (some ⟨w.heap.size,0,none⟩)]) (by simp) (by simp [go_sem]) ?_
  refine (zbb _ _ _ _ _ (hfin _) (by decide) (B3 _)).mono ?_
  rintro e u' w9 ⟨rfl,rfl,HQ⟩
  have hq:=HQ.out.1
  have HG:=Hd HQ.out.2
  simp [Leaves,settle,results,Tryz.results18,go_sem,hq]
  exact HG)
theorem zij {w1 w w0:World} {K:Nat->Prop} {sb rb ti tl n N a nx:Nat} {C:List Ck} {L:List Lg} {X:List (Nat × ByteArray)} (id:ByteArray) (h:Hid (Chs bse w1 w0 w K sb rb ti tl n N a C L nx X)) (hN:a<=N/\N<=1000) (hf:cAt C id=none) :
 Calls Tryz.prog 62 #[.pointer (some ⟨sb,0,none⟩),.string id] w λ e w'=>e=.returned (.tuple #[ck0,.bool false,.int .i64 0])/\Hid (Chs bse w1 w0 w' K sb rb ti tl n N a C L nx X):=by
 by_cases hi:id.size<=96
 ·exact zg4 id h hN hi hf
 ·obtain ⟨S,o0,o1,h1,h2,h3,h4⟩:=h.out
  refine (zgs w1 w K sb rb ti tl n (300*a) S id h1.1 (by omega) (by omega)).mono ?_
  rintro e w' ⟨rfl,hE⟩
  exact ⟨rfl,Hd ⟨S,o0,o1,⟨hE.out.1,h1.2.trans hE.out.2⟩,h2,h3,h4⟩⟩
theorem zni (id:ByteArray) (h:Hid (Chs bse w1 w0 w K sb rb ti tl n N a C L nx X)) (hN:a<=N/\N<=1000) (hf:cAt C id=none) :
 Calls Tryz.prog 29 #[.pointer (some ⟨sb,0,none⟩),.string id] w λ e w'=>e=.returned (.tuple #[.string ⟨#[]⟩,.int .i64 6])/\Hid (Chs bse w1 w0 w' K sb rb ti tl n N a C L nx X):=by
 have FN:=zij id h hN hf
 rw [show ck0=.agg #[.int .i64 0,.int .i64 0,.int .i64 0] from rfl] at FN
 clear h hN hf
 go_enter Tryz.func29,Tryz.ntmps29
 go_wp2_with fail
 refine FN.mono ?_
 rintro e w2 ⟨rfl,G2⟩
 go_wp2_with fail
 go_ret2
 exact ⟨rfl,Hd (G2.out.below ((zBr _ _).alloc (zNr _) _))⟩
theorem zjg (id:ByteArray) (h:Hid (Chs bse w1 w0 w K sb rb ti tl n N a C L nx X)) (hN:a<=N/\N<=1000) (hf:cAt C id=none) :
 Calls Tryz.prog 21 #[.pointer (some ⟨sb,0,none⟩),.string id] w λ e w'=>e=.returned (.tuple #[.int .i64 0,.int .i64 0,.int .i64 6])/\Hid (Chs bse w1 w0 w' K sb rb ti tl n N a C L nx X):=by
 have FN:=zij id h hN hf
 rw [show ck0=.agg #[.int .i64 0,.int .i64 0,.int .i64 0] from rfl] at FN
 clear h hN hf
 go_enter Tryz.func21,Tryz.ntmps21
 go_wp2_with fail
 refine FN.mono ?_
 rintro e w2 ⟨rfl,G2⟩
 go_wp2_with fail
 go_ret3
 exact ⟨rfl,Hd (G2.out.below ((zBr _ _).alloc (zNr _) _))⟩
end
variable {bse:List (Int × ByteArray)}
def KR (K:Nat->Prop) (x r:Nat) (va vw:Value):Nat->Prop:=λ k=>(((K k\/k=x)\/va.ownBlock=some k)\/vw.ownBlock=some k)\/k=r
structure zcI (bse:List (Int × ByteArray)) (w1 w:World) (x r:Nat) (va vw:Value) (C0:List Ck) (L0:List Lg) (Q:List (ByteArray × Bool)) (K:Nat->Prop) (sb rb ti tl n N a:Nat) (C:List Ck) (L:List Lg) (nx:Nat) (X:List (Nat × ByteArray)) (wr:World):Prop where
 st:Chs bse w1 wr wr (KR K x r va vw) sb rb ti tl n N a C L nx X
 kp:zbX K w wr
 bx:wr.heap[x]?=some (.cells #[.int .i64 0] 34 (0,0))
 rowA:wr.ownsRow 0 106 3 va C0.length (zgb C0)
 rowW:wr.ownsRow 0 146 3 vw L0.length (zj0 L0)
 map:za2 zq9 Value.bool wr r Q
 lx:w1.heap.size<=x/\x≠sb/\x≠ti/\x≠tl
 lr:w1.heap.size<=r/\r≠sb/\r≠ti/\r≠tl
 nk:¬K x/\¬K r
section
variable {w1 w wr w' W:World} {x r:Nat} {va vw:Value} {C0:List Ck} {L0:List Lg} {Q Q':List (ByteArray × Bool)} {K K2:Nat->Prop} {sb rb ti tl n N a a' nx nx':Nat} {C C':List Ck} {L L':List Lg} {X X':List (Nat × ByteArray)}
theorem zcI.step (h:zcI bse w1 w x r va vw C0 L0 Q K sb rb ti tl n N a C L nx X wr) (g:Chs bse w1 wr w' (KR K x r va vw) sb rb ti tl n N a' C' L' nx' X'):zcI bse w1 w x r va vw C0 L0 Q K sb rb ti tl n N a' C' L' nx' X' w':=by
 have k:=g.kept
 exact ⟨g.reset,h.kp.trans (k.mono λ j hj=>.inl (.inl (.inl (.inl hj)))),(k x (.inl (.inl (.inl (.inr rfl))))).trans h.bx,za0 h.rowA λ j e=>k j (.inl (.inl (.inr e))),za0 h.rowW λ j e=>k j (.inl (.inr e)),h.map.of_heap (k r (.inr rfl)),h.lx,h.lr,h.nk⟩
theorem zcI.below (h:zcI bse w1 w x r va vw C0 L0 Q K sb rb ti tl n N a C L nx X wr) (hb:Below wr.heap.size wr w'):zcI bse w1 w x r va vw C0 L0 Q K sb rb ti tl n N a C L nx X w':=h.step (h.st.below hb)
theorem zcI.cell (h:zcI bse w1 w x r va vw C0 L0 Q K sb rb ti tl n N a C L nx X wr):wr.cell? ⟨x,0,none⟩=some (.int .i64 0)/\wr.frozen? ⟨x,0,none⟩=false/\x<wr.heap.size:=⟨zaa h.bx rfl,zad h.bx 0,zab h.bx⟩
theorem zcI.new (h:zcI bse w1 w x r va vw C0 L0 Q K sb rb ti tl n N a C L nx X wr) (o:Obj):zcI bse w1 (wr.alloc o) x r va vw C0 L0 Q (λ k=>K k\/k=wr.heap.size) sb rb ti tl n N a C L nx X (wr.alloc o):=by
 have hb:Below wr.heap.size wr (wr.alloc o):=(zBr wr.heap.size wr).alloc (zNr _) _
 have hx:=zab h.bx
 have hr:=h.map.lt
 refine ⟨(h.st.new hb wr.heap.size (zNr _) (by simp)).mono λ k hk=>?_,λ _ _=>rfl,(hb.block x hx).trans h.bx,za0 h.rowA λ j e=>hb.block j (h.rowA.lt j e).2,za0 h.rowW λ j e=>hb.block j (h.rowW.lt j e).2,h.map.alloc o,h.lx,h.lr,?_,?_⟩
 ·rcases hk with ((((hk|hk)|hk)|hk)|hk)|hk
  ·exact .inl (.inl (.inl (.inl (.inl hk))))
  ·exact .inr hk
  ·exact .inl (.inl (.inl (.inl (.inr hk))))
  ·exact .inl (.inl (.inl (.inr hk)))
  ·exact .inl (.inl (.inr hk))
  ·exact .inl (.inr hk)
 ·rintro (hk|hk)
  ·exact h.nk.1 hk
  ·omega
 ·rintro (hk|hk)
  ·exact h.nk.2 hk
  ·omega
theorem zcI.old {o:Obj} (h:zcI bse w1 w x r va vw C0 L0 Q K sb rb ti tl n N a C L nx X wr) (g:zcI bse w1 (wr.alloc o) x r va vw C0 L0 Q' (λ k=>K k\/K2 k) sb rb ti tl n N a' C' L' nx' X' w'):zcI bse w1 w x r va vw C0 L0 Q' K sb rb ti tl n N a' C' L' nx' X' w':=by
 have hb:Below wr.heap.size wr (wr.alloc o):=(zBr wr.heap.size wr).alloc (zNr _) _
 refine ⟨g.st.mono λ k hk=>?_,?_,g.bx,g.rowA,g.rowW,g.map,h.lx,h.lr,h.nk⟩
 ·rcases hk with (((hk|hk)|hk)|hk)|hk
  ·exact .inl (.inl (.inl (.inl (.inl hk))))
  ·exact .inl (.inl (.inl (.inr hk)))
  ·exact .inl (.inl (.inr hk))
  ·exact .inl (.inr hk)
  ·exact .inr hk
 ·exact (h.kp.trans ((h.st.keep hb).mono λ k hk=>.inl (.inl (.inl (.inl hk))))).trans (g.kp.mono λ k hk=>.inl hk)
theorem zcI.upd (h:zcI bse w1 w x r va vw C0 L0 Q K sb rb ti tl n N a C L nx X wr) (hu:Upd (·=r) wr w') (hm:za2 zq9 Value.bool w' r Q'):zcI bse w1 w x r va vw C0 L0 Q' K sb rb ti tl n N a C L nx X w':=by
 have hx:x≠r:=λ e=>by
  subst e
  obtain ⟨es,clock,m0,hb,-⟩:=h.map
  rw [h.bx] at hb;cases hb
 have hA:∀ j,va.ownBlock=some j->j≠r:=λ j e e2=>by
  subst e2
  obtain ⟨es,clock,m0,hb,-⟩:=h.map
  obtain ⟨cur,hc⟩:=zaj h.rowA e
  rw [hc] at hb;cases hb
 have hW:∀ j,vw.ownBlock=some j->j≠r:=λ j e e2=>by
  subst e2
  obtain ⟨es,clock,m0,hb,-⟩:=h.map
  obtain ⟨cur,hc⟩:=zaj h.rowW e
  rw [hc] at hb;cases hb
 refine ⟨h.st.upd hu λ k hk=>by subst hk;exact ⟨.inr rfl,h.lr⟩,λ k hk=>?_,(hu.block x (zab h.bx) hx).trans h.bx,za0 h.rowA λ j e=>hu.block j (h.rowA.lt j e).2 (hA j e),za0 h.rowW λ j e=>hu.block j (h.rowW.lt j e).2 (hW j e),hm,h.lx,h.lr,h.nk⟩
 have hl:k<wr.heap.size:=h.st.klt (.inl (.inl (.inl (.inl hk))))
 exact (hu.block k hl λ e=>h.nk.2 (by rw [<-e];exact hk)).trans (h.kp k hk)
theorem zcI.fin {w0:World} (h:zcI bse w1 w x r va vw C0 L0 Q K sb rb ti tl n N a C L nx X wr) (hk:zbX K w0 w):Chs bse w1 w0 (wr.setCell ⟨x,0,none⟩ (.int .i64 0)) K sb rb ti tl n N a C L nx X/\(wr.setCell ⟨x,0,none⟩ (.int .i64 0)).cell? ⟨x,0,none⟩=some (.int .i64 0):=by
 obtain ⟨S,o0,o1,h1,h2⟩:=h.st
 refine ⟨⟨S,o0,o1,⟨(h1.1.set (.inl (.inl (.inl (.inr rfl)))) h.lx.1 h.lx.2 0 _).mono λ k hk=>.inl (.inl (.inl (.inl hk))),λ k hk2=>?_⟩,h2⟩,zaa (zac h.bx _) rfl⟩
 have hne:k≠x:=λ e=>h.nk.1 (by rw [<-e];exact hk2)
 rw [zae _ hne,h.kp k hk2,hk k hk2]
end
def zhi (L:List Lg) (Q:List (ByteArray × Bool)):Prop:=∀ id,zbg Q id=if zcq L id then some true else none
theorem zhi.nil:zhi [] []:=λ id=>rfl
theorem zlb (L:List Lg) (e:Lg) (id:ByteArray):zcq (L++[e]) id=(zcq L id || decide (e.id=id)):=by simp [zcq]
theorem zhi.put {L:List Lg} {Q:List (ByteArray × Bool)} (h:zhi L Q) (e:Lg):zhi (L++[e]) (put Q e.id true):=λ id=>by
 rw [zcJ,zlb,h id]
 by_cases he:e.id=id
 ·simp [he]
 ·simp [he]
def zfj (L:List Lg) (lim:Int) (C:List Ck) (i:Nat):List Ck:=(zaS L lim 0 (C.take i)).1++C.drop i
def zd7 (L:List Lg) (lim:Int) (C:List Ck) (i:Nat):Nat:=(zaS L lim 0 (C.take i)).2
theorem zoO {L:List Lg} {lim:Int} {C:List Ck} {i:Nat} (h:i<C.length) :
 (¬((zd7 L lim C i:Int)<lim/\C[i].cnt<=0/\zcq L C[i].id=false)->zfj L lim C (i+1)=zfj L lim C i/\zd7 L lim C (i+1)=zd7 L lim C i) /\
 (((zd7 L lim C i:Int)<lim/\C[i].cnt<=0/\zcq L C[i].id=false)->zd7 L lim C (i+1)=zd7 L lim C i+1/\∃ K R,zfj L lim C i=K++C[i]::R/\zfj L lim C (i+1)=K++R):=by
 have e1:C.take (i+1)=C.take i++[C[i]]:=zTs h
 have e2:C.drop i=C[i]::C.drop (i+1):=List.drop_eq_getElem_cons h
 unfold zfj zd7
 rw [e1,zeW,e2]
 unfold zk0
 refine ⟨λ hn=>?_,λ hy=>?_⟩
 ·rw [if_neg hn];exact ⟨by simp,rfl⟩
 ·rw [if_pos hy];exact ⟨rfl,_,_,rfl,rfl⟩
theorem zoP (L:List Lg) (lim:Int) (C:List Ck):zfj L lim C 0=C/\zd7 L lim C 0=0:=by simp [zfj,zd7,zaS]
theorem zqV (L:List Lg) (lim:Int) (C:List Ck):zfj L lim C C.length=(zaS L lim 0 C).1/\zd7 L lim C C.length=(zaS L lim 0 C).2:=by simp [zfj,zd7]
theorem zoQ {L:List Lg} {lim:Int} {C:List Ck} {i:Nat} (h:lim<=zd7 L lim C i):zfj L lim C i=(zaS L lim 0 C).1/\zd7 L lim C i=(zaS L lim 0 C).2:=by
 have h1:=zfX L lim (C.drop i) (C.take i) 0
 rw [List.take_append_drop,zgr L lim (C.drop i) (zaS L lim 0 (C.take i)).2 h] at h1
 unfold zfj zd7
 rw [h1]
 exact ⟨rfl,rfl⟩
theorem znj (L:List Lg) (lim:Int) (C:List Ck) (i:Nat):zd7 L lim C i<=C.length:=by
 have:=zex L lim (C.take i) 0
 rw [List.length_take] at this
 unfold zd7;omega
variable {bse:List (Int × ByteArray)}
theorem znk:∀ {C:List Ck} {k:Nat} (h:k<C.length),(zgb C)[k*3]?=some (.string C[k].id)/\(zgb C)[k*3+1]?=some (.int .i64 (C[k].text.size:Int))/\(zgb C)[k*3+2]?=some (.int .i64 C[k].cnt)
 | [],k,h=>by simp at h
 | c::C,0,h=>⟨rfl,rfl,rfl⟩
 | c::C,k+1,h=>by
   have ih:=znk (C:=C) (k:=k) (by simpa using h)
   have e:zgb (c::C)=.string c.id::.int .i64 (c.text.size:Int)::.int .i64 c.cnt::zgb C:=rfl
   rw [e,show (k+1)*3=k*3+1+1+1 by omega]
   simp only [List.getElem?_cons_succ,List.getElem_cons_succ]
   exact ih
theorem ChE.rowA {w1 w wb w4:World} {K:Nat->Prop} {sb rb ti tl n N a nx:Nat} {C:List Ck} {L:List Lg} {X:List (Nat × ByteArray)} {x:Nat} {v:Value} (h:ChE bse w1 w x 0 wb K sb rb ti tl n N a C L nx X) (hs:zj2 bse w1 wb w4 (λ k=>K k\/k=x) sb rb ti tl n N a C L nx X v) :
 ChE bse w1 w4 x 0 w4 (λ k=>K k\/v.ownBlock=some k) sb rb ti tl n N a C L nx X:=by
 have bx:=(hs.2.2 x (.inr rfl)).trans h.bx
 refine ⟨hs.2.1.mono λ k hk=>?_,λ _ _=>rfl,bx,h.lo,h.ne,?_⟩
 ·rcases hk with (hk|hk)|hk
  ·exact .inl (.inl hk)
  ·exact .inr hk
  ·exact .inl (.inr hk)
 ·rintro (hk|hk)
  ·exact h.nk hk
  ·obtain ⟨cur,hc⟩:=zaj hs.1 hk
   rw [bx] at hc
   simp at hc
section
variable (w1 w w0:World) (K:Nat->Prop) (sb rb ti tl n N a nx:Nat) (C:List Ck) (L:List Lg)
theorem zcI.start {wb w2 w4:World} {x:Nat} {va vw:Value} (h:Chs bse w1 w0 w K sb rb ti tl n N a C L nx (cpg C)) (E0:ChE bse w1 w x 0 wb K sb rb ti tl n N a C L nx (cpg C)) (H2:zj2 bse w1 wb w2 (λ k=>K k\/k=x) sb rb ti tl n N a C L nx (cpg C) va)
 (HS:zdC bse w1 (w2.setCell ⟨x,0,none⟩ (.int .i64 0)) w4 (λ k=>(K k\/va.ownBlock=some k)\/k=x) sb rb ti tl n N a C L nx (cpg C) L vw) :
 zcI bse w1 w x w4.heap.size va vw C L [] K sb rb ti tl n N a C L nx (cpg C) ((w4.setCell ⟨x,0,none⟩ (.int .i64 0)).alloc (.map #[] 0)):=by
 have E2:=ChE.rowA E0 H2
 have E3:=E2.set 0
 have E4:=ChE.row w1 w2 (λ k=>K k\/va.ownBlock=some k) sb rb ti tl n N a nx C L (cpg C) E3 HS
 have E5:=E4.set 0
 have E6:=E5.new (.map #[] 0)
 have hs4:(w4.setCell ⟨x,0,none⟩ (.int .i64 0)).heap.size=w4.heap.size:=by simp
 have hb:Below w4.heap.size (w4.setCell ⟨x,0,none⟩ (.int .i64 0)) ((w4.setCell ⟨x,0,none⟩ (.int .i64 0)).alloc (.map #[] 0)):=(zBr w4.heap.size _).alloc (by rw [hs4];exact zNr _) _
 have bx4:=E4.bx
 have hxl:=zab bx4
 have hne:∀ j,K j->j≠x:=λ j hj e=>E0.nk (by rw [<-e];exact hj)
 have nA:∀ j,va.ownBlock=some j->j≠x:=λ j hj e=>E2.nk (.inr (by rw [<-e];exact hj))
 have nW:∀ j,vw.ownBlock=some j->j≠x:=λ j hj e=>E4.nk (.inr (by rw [<-e];exact hj))
 have hs:=E5.st.sbk
 have l1:=zab hs.1
 have l2:=zab hs.2.1
 have l3:=zab hs.2.2
 have l0:=E5.st.bel.size
 rw [hs4] at l0 l1 l2 l3
 refine ⟨E6.st.mono λ k hk=>?_,?_,E6.bx,?_,?_,?_,⟨E0.lo.1,E0.ne⟩,⟨l0,by omega,by omega,by omega⟩,E0.nk,λ hk=>?_⟩
 ·rcases hk with (((hk|hk)|hk)|hk)|hk
  ·exact .inl (.inl (.inl (.inl hk)))
  ·exact .inr hk
  ·exact .inl (.inl (.inl (.inr hk)))
  ·exact .inl (.inl (.inr hk))
  ·exact .inl (.inr (by rw [hs4];exact hk))
 ·intro k hk
  have h1:k<w.heap.size:=h.klt hk
  have g1:=E0.kp k hk
  have g2:=H2.2.2 k (.inl hk)
  have g3:(w2.setCell ⟨x,0,none⟩ (.int .i64 0)).heap[k]?=w2.heap[k]?:=zae _ (hne k hk)
  have g4:=HS.2.2 k (.inl (.inl hk))
  have g5:(w4.setCell ⟨x,0,none⟩ (.int .i64 0)).heap[k]?=w4.heap[k]?:=zae _ (hne k hk)
  have hk4:k<w4.heap.size:=by
   have:=E4.st.klt (.inl (.inl (.inl hk)));exact this
  rw [hb.block k hk4,g5,g4,g3,g2,g1]
 ·refine za0 H2.1 λ j e=>?_
  have hj4:j<w4.heap.size:=E4.st.klt (.inl (.inl (.inr e)))
  rw [hb.block j hj4,zae _ (nA j e),HS.2.2 j (.inl (.inr e)),zae _ (nA j e)]
 ·refine zjR (za0 HS.1 λ j e=>?_) (zNz _)
  have hj4:j<w4.heap.size:=(HS.1.lt j e).2
  rw [hb.block j hj4,zae _ (nW j e)]
 ·have:=za2.made (K:=zq9) (V:=Value.bool) (w4.setCell ⟨x,0,none⟩ (.int .i64 0))
  rwa [hs4] at this
 ·have:=E4.st.klt (.inl (.inl (.inl hk)));omega
end
end Go.Proofs.YtdcjhpafipbpkaaGreatDoor
