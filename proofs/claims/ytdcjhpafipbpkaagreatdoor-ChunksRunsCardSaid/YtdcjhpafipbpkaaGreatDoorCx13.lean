/- Parts of the proof of ChunksRuns,joined: ChkR,ChkS,ChkU,ChkV,ChkW,RcpA,RcpR,RcpE,RcpF,RcpG,ChkT,Iter. No condition. -/
import Derived.Test.YtdcjhpafipbpkaaGreatDoorCx12
import Derived.Maps.RangeRun
set_option linter.unusedSimpArgs false
set_option linter.unusedVariables false
set_option linter.unusedSectionVars false
namespace Go.Proofs.YtdcjhpafipbpkaaGreatDoor
set_option maxRecDepth 100000
set_option maxHeartbeats 2000000
open Go.RowKit
theorem ChE.more {w1 wA w:World} {x:Nat} {er:Int} {K:Nat -> Prop} {sb rb ti tl n N a a' nx:Nat} {C:List Ck} {L:List Lg} {X:List (Nat × ByteArray)} (h:ChE w1 wA x er w K sb rb ti tl n N a C L nx X) (ha:a <= a'):ChE w1 wA x er w K sb rb ti tl n N a' C L nx X:=by
 obtain ⟨S,o0,o1,h1,h2,h3,h4,h5,h6⟩:=h.st
 exact ⟨⟨S,o0,o1,⟨h1.1.more (by omega),h1.2⟩,h2.less (by omega) ha ha,h3,h4,h5,by omega⟩,h.kp,h.bx,h.lo,h.ne,h.nk⟩
section
variable (w1 w w0:World) (K:Nat -> Prop) (sb rb ti tl n N a nx:Nat) (C:List Ck) (L:List Lg) (X:List (Nat × ByteArray))
theorem ChE.row {wb w4:World} {x:Nat} {v:Value} {T:List Lg} (h:ChE w1 w x 0 wb K sb rb ti tl n N a C L nx X) (hs:FirstEnd w1 wb w4 (fun k=>K k \/ k=x) sb rb ti tl n N a C L nx X T v) :
 ChE w1 w4 x 0 w4 (fun k=>K k \/ v.ownBlock=some k) sb rb ti tl n N a C L nx X:=by
 have bx:=(hs.2.2 x (.inr rfl)).trans h.bx
 refine ⟨hs.2.1.mono fun k hk=>?_,fun _ _=>rfl,bx,h.lo,h.ne,?_⟩
 ·rcases hk with (hk | hk) | hk
  ·exact .inl (.inl hk)
  ·exact .inr hk
  ·exact .inl (.inr hk)
 ·rintro (hk | hk)
  ·exact h.nk hk
  ·rcases hs.1.2 with ⟨rfl,-⟩ | ⟨g,cap,cur,rfl,h1,h2,-⟩
   ·cases hk
   ·have e:g=x:=by simpa [Value.ownBlock] using hk
    subst e
    rw [bx] at h2
    simp at h2
theorem Merge_k (lim:Int) (limit:Nat) (hmx:max lim 0=(limit:Int)) (hl2:limit <= 9223372036854775807) (h:Hid (Chs w1 w0 w K sb rb ti tl n N a C L nx X)) (hN:a + 2 * L.length <= N /\ N <= 1000) (hB:Cnts C 1000000) :
 Calls Tryz.prog 20 #[.pointer (some ⟨sb,0,none⟩),.int .i64 lim] w fun e w'=>e=.returned (.tuple #[.int .i64 ((L.take limit).length:Int),.int .i64 0]) /\ Hid (∃ C',Mg C (L.take limit) C' /\ Chs w1 w0 w' K sb rb ti tl n N (a + 2 * (L.take limit).length) C' (L.drop limit) nx X):=by
 obtain ⟨x,hx⟩:=exE (w.heap.size)
 obtain ⟨wb,hwb⟩:=exE (w.alloc (.cells #[.int .i64 0] 34))
 have E0:Hid (ChE w1 w x 0 wb K sb rb ti tl n N a C L nx X):=Hd (by subst hx hwb; exact ChE.start h.out)
 obtain ⟨k,MK⟩:=Mark_k w1 wb wb _ sb rb ti tl n N a nx C L X (Hd E0.out.st)
 have F:=first_k w1 wb wb _ sb rb ti tl n N a nx C L X limit (Hd E0.out.st) ⟨by omega,hN.2⟩ (by omega) hl2
 have HN:=Hd hN
 have HB:=Hd hB
 have HH:=Hd h.out
 obtain ⟨T,hT⟩:=exE (L.take limit)
 have HT:Hid (L.take limit=T):=Hd hT
 have HTL:Hid (T.length <= L.length /\ L=T ++ L.drop limit):=Hd ⟨by rw [<- hT,List.length_take]; omega,by rw [<- hT]; exact (List.take_append_drop limit L).symm⟩
 have HOK:Hid (∀ e ∈ T,e.id.size=33):=Hd fun e he=>(h.out.ok.2.2.1 e (List.mem_of_mem_take (by rw [hT]; exact he))).1.id
 rw [hT] at F ⊢
 clear h hN hB hl2 hT
 go_enter_defers Tryz.func20,Tryz.ntmps20
 go_wp2_with fail
 subst hx
 refine MK.mono ?_
 rintro e wm ⟨rfl,rfl⟩
 go_wp2_with fail
 refine F.mono ?_
 rintro e w4 ⟨v,rfl,HS⟩
 clear F MK
 obtain ⟨va,vc,hv⟩:∃ va vc,v=.slice va T.length vc:=by
  rcases HS.out.1.2 with ⟨rfl,h0⟩ | ⟨g,cap,cur,rfl,-⟩
  ·exact ⟨_,_,by rw [h0]⟩
  ·exact ⟨_,_,rfl⟩
 subst hv
 have E4:=Hd (ChE.row w1 w K sb rb ti tl n N a nx C L X E0.out HS.out)
 have hend:Hid (∀ w9 er a9 C9 L9 nx9 X9,ChE w1 w4 w.heap.size er w9 (fun k=>K k \/ (Value.slice va T.length vc).ownBlock=some k) sb rb ti tl n N a9 C9 L9 nx9 X9 -> Chs w1 w0 w9 K sb rb ti tl n N a9 C9 L9 nx9 X9):=Hd fun w9 er a9 C9 L9 nx9 X9 h9=>by
  have h1:=h9.st.mono (K':=K) fun k hk=>.inl (.inl hk)
  refine h1.to ?_
  exact ((HH.out.kept.trans E0.out.kp).trans (HS.out.2.2.mono fun k hk=>.inl hk)).trans (h9.kp.mono fun k hk=>.inl hk)
 obtain ⟨cx,fx,lx⟩:=E4.out.cell
 have E5:=Hd (E4.out.set 0)
 have R0:Hid (∃ Ci,Mg C (T.take 0) Ci /\ ChE w1 w4 w.heap.size 0 (w4.setCell ⟨w.heap.size,0,none⟩ (.int .i64 0)) (fun k=>K k \/ (Value.slice va T.length vc).ownBlock=some k) sb rb ti tl n N (a + 2 * 0) Ci (L.drop 0) nx X):=Hd ⟨C,by simpa using Mg.nil,by simpa using E5.out⟩
 have CE:Hid (∀ i (hi:i < T.length),∃ g,va=some ⟨g,0,none⟩ /\ ∀ W,Kept (fun k=>K k \/ (Value.slice va T.length vc).ownBlock=some k) w4 W -> W.cell? ⟨g,i * 3,none⟩=some (.string (lkey T[i].n)) /\ W.cell? ⟨g,i * 3 + 1,none⟩=some (.string T[i].id) /\ W.cell? ⟨g,i * 3 + 2,none⟩=some (.int .i64 T[i].by)):=Hd fun i hi=>by
  have hr:=HS.out.1
  rcases hr.2 with ⟨e,h0⟩ | ⟨g,cap,cur,e,h1,h2,-⟩
  ·omega
  ·cases e
   obtain ⟨x,y,z⟩:=entC_get T i hi
   refine ⟨g,rfl,fun W hW=>?_⟩
   have hb:W.heap[g]?=w4.heap[g]?:=hW g (.inr rfl)
   have q:∀ j v,w4.cell? ⟨g,j,none⟩=some v -> W.cell? ⟨g,j,none⟩=some v:=fun j v hv=>(World.cell?_of_block hb).trans hv
   refine ⟨q _ _ ?_,q _ _ ?_,q _ _ ?_⟩
   ·rw [hr.cellAt (i * 3) (by omega),x]
   ·rw [hr.cellAt (i * 3 + 1) (by omega),y]
   ·rw [hr.cellAt (i * 3 + 2) (by omega),z]
 clear HS E4 E5
 go_wp2_with fail
 go_loopg [8,9,10,11,12,13,14,30] T.length (fun g s8 s9 s10 s11 s12 s13 s14 s30 wr=>∃ (i:Nat),g=T.length - i /\ i <= T.length /\ s30=.int .i64 (i:Int) /\ Hid (∃ Ci,Mg C (T.take i) Ci /\ ChE w1 w4 w.heap.size 0 wr (fun k=>K k \/ (Value.slice va T.length vc).ownBlock=some k) sb rb ti tl n N (a + 2 * i) Ci (L.drop i) nx X))
 case atStart=>exact ⟨0,rfl,Nat.zero_le _,rfl,R0⟩
 case round =>
  obtain ⟨i,rfl,hi,rfl,HR⟩:=hrel
  clear R0 cx fx lx
  by_cases hlt:i < T.length
  ·obtain ⟨g,rfl,hcell⟩:=CE.out i hlt
   obtain ⟨Ci,hm,ER⟩:=HR.out
   obtain ⟨c0,c1,c2⟩:=hcell wr ER.kp
   obtain ⟨LD,hLD⟩:=exE (L.drop (i + 1))
   have hdrop:L.drop i=T[i] :: LD:=by
    rw [<- hLD]
    have h1:i < L.length:=by have:=HTL.out.1; omega
    rw [List.drop_eq_getElem_cons h1]
    congr 1
    have h2:=HTL.out.2
    have:L[i]?=T[i]?:=by
     conv=>lhs; rw [h2]
     exact List.getElem?_append_left hlt
    rw [List.getElem?_eq_getElem h1,List.getElem?_eq_getElem hlt] at this
    exact Option.some.inj this
   have hid:=HOK.out T[i] (List.getElem_mem hlt)
   have htk:T.take (i + 1)=T.take i ++ [T[i]]:=by rw [List.take_succ_eq_append_getElem hlt]
   have hcnt:=hm.cnts HB.out
   have htl:(T.take i).length <= 1000:=by have:=HTL.out.1; have:=HN.out; rw [List.length_take]; omega
   have hby:-1 <= T[i].by /\ T[i].by <= 1:=by unfold Lg.by; split <;> omega
   generalize T[i]=en at *
   rw [hdrop] at ER
   have HLT:=Hd hlt
   have hsm:i <= 1000000:=by have:=HTL.out.1; have:=HN.out; omega
   have hiN:a + 2 * i + 2 <= N:=by have:=HTL.out.1; have:=HN.out; omega
   have HIN:=Hd hiN
   have E6:=Hd (ER.new (.cells #[.string (lkey en.n),.string en.id,.int .i64 en.by] 146))
   have HM:Hid (∀ C2,MgStep Ci en C2 -> Mg C (T.take (i + 1)) C2):=Hd fun C2 h2=>by rw [htk]; exact Mg.snoc hm h2
   have HNX:Hid (∀ W C2,MgStep Ci en C2 -> ChE w1 (wr.alloc (.cells #[.string (lkey en.n),.string en.id,.int .i64 en.by] 146)) w.heap.size 0 W (fun k=>(K k \/ (Value.slice (some ⟨g,0,none⟩) T.length vc).ownBlock=some k) \/ k=wr.heap.size) sb rb ti tl n N (a + 2 * i + 2) C2 LD nx X -> ∃ Ci,Mg C (T.take (i + 1)) Ci /\ ChE w1 w4 w.heap.size 0 W (fun k=>K k \/ (Value.slice (some ⟨g,0,none⟩) T.length vc).ownBlock=some k) sb rb ti tl n N (a + 2 * (i + 1)) Ci (L.drop (i + 1)) nx X):=Hd fun W C2 hs h9=>⟨C2,HM.out C2 hs,by rw [hLD]; exact ER.old h9⟩
   have blk:Hid ((wr.alloc (.cells #[.string (lkey en.n),.string en.id,.int .i64 en.by] 146)).heap[wr.heap.size]?=some (.cells #[.string (lkey en.n),.string en.id,.int .i64 en.by] 146 (0,0))):=Hd (heap_alloc_new _ _)
   have CY:Hid (∀ W C2 L2 a2,ChE w1 (wr.alloc (.cells #[.string (lkey en.n),.string en.id,.int .i64 en.by] 146)) w.heap.size 0 W (fun k=>(K k \/ (Value.slice (some ⟨g,0,none⟩) T.length vc).ownBlock=some k) \/ k=wr.heap.size) sb rb ti tl n N a2 C2 L2 nx X -> (W.cell? ⟨sb,2,none⟩=some (.pointer (some ⟨tl,0,none⟩)) /\ W.cell? ⟨wr.heap.size,0,none⟩=some (.string (lkey en.n))) /\ W.cell? ⟨wr.heap.size,1,none⟩=some (.string en.id) /\ W.cell? ⟨wr.heap.size,2,none⟩=some (.int .i64 en.by) /\ wr.heap.size < W.heap.size /\ sb < W.heap.size):=Hd fun W C2 L2 a2 h9=>by
    have hb:=(h9.kp wr.heap.size (.inr rfl)).trans blk.out
    exact ⟨⟨h9.st.sbk.cells.2.2,cell_lit hb rfl⟩,cell_lit hb rfl,cell_lit hb rfl,lt_of_heap hb,lt_of_heap h9.st.sbk.1⟩
   have DL:Hid (∀ W C2 a2,a2 <= a + 2 * i + 1 -> Hid (ChE w1 (wr.alloc (.cells #[.string (lkey en.n),.string en.id,.int .i64 en.by] 146)) w.heap.size 0 W (fun k=>(K k \/ (Value.slice (some ⟨g,0,none⟩) T.length vc).ownBlock=some k) \/ k=wr.heap.size) sb rb ti tl n N a2 C2 (en :: LD) nx X) -> Calls Tryz.prog 74 #[.pointer (some ⟨tl,0,none⟩),.string (lkey en.n)] W fun e w'=>e=.returned (.tuple #[.bool true,.int .i64 0]) /\ (w'.cell? ⟨sb,2,none⟩=some (.pointer (some ⟨tl,0,none⟩)) /\ w'.cell? ⟨wr.heap.size,0,none⟩=some (.string (lkey en.n))) /\ Hid (ChE w1 (wr.alloc (.cells #[.string (lkey en.n),.string en.id,.int .i64 en.by] 146)) w.heap.size 0 w' (fun k=>(K k \/ (Value.slice (some ⟨g,0,none⟩) T.length vc).ownBlock=some k) \/ k=wr.heap.size) sb rb ti tl n N (a + 2 * i + 2) C2 LD nx X)):=Hd fun W C2 a2 ha hW=>by
    refine (log_del en (Hd hW.out.st) (by have:=HIN.out; have:=HN.out; omega)).mono ?_
    rintro e w' ⟨rfl,hE⟩
    have h9:=(hW.out.step hE.out).more (a':=a + 2 * i + 2) (by omega)
    exact ⟨rfl,(CY.out _ _ _ _ h9).1,Hd h9⟩
   cases hf:cAt Ci en.id with
   | none =>
     have FN:=find_no en.id (Hd E6.out.st) (by have:=HN.out; omega) (by omega) hf
     rw [show ck0=.agg #[.int .i64 0,.int .i64 0,.int .i64 0] from rfl] at FN
     have HS0:Hid (MgStep Ci en Ci):=Hd (.inl ⟨hf,rfl⟩)
     have HF:=Hd hf
     clear hf hcnt htl hby hiN hm ER hcell hdrop htk hid hi hLD
     generalize en.id=id at *
     generalize en.by=by_ at *
     generalize lkey en.n=ky at *
     clear hlt
     go_wp2_with fail
     refine FN.mono ?_
     rintro e w6 ⟨rfl,G6⟩
     have E7:=Hd (E6.out.step G6.out)
     obtain ⟨⟨d0,d1⟩,d2,d3,d4,d5⟩:=CY.out _ _ _ _ E7.out
     have E8:Hid (∀ o,ChE w1 _ w.heap.size 0 (w6.alloc o).drew _ sb rb ti tl n N (a + 2 * i) Ci (en :: LD) nx X):=Hd fun o=>E7.out.below ((Below.refl w6.heap.size w6).alloc (Nat.le_refl _) o).drew
     clear FN G6
     go_wp2_with fail
     go_region_held3 (fun w'=>w'.cell? ⟨sb,2,none⟩=some (.pointer (some ⟨tl,0,none⟩)) /\ w'.cell? ⟨wr.heap.size,0,none⟩=some (.string ky)) (go_keep) ((first
      | (go_at_call 74
         refine Calls.at_args (DL.out _ Ci (a + 2 * i) (by omega) (Hd (E8.out _))) (by with_reducible rfl) ?_
         rintro e w9 ⟨rfl,hk9,H9⟩)))
     all_goals go_wp2_with fail
     all_goals go_roundg (T.length - (i + 1))
     all_goals (first
      | (case measure=>have:=HLT.out; omega)
      | (case rel=>exact ⟨i + 1,rfl,HLT.out,by congr 1,Hd (HNX.out _ _ HS0.out H9.out)⟩))
   | some c =>
     obtain ⟨hmem,hcid⟩:=cAt_some hf
     have hok:=E6.out.st.ok.1 c hmem
     have hcb:=hcnt c hmem
     have FY:=find_yes en.id c (Hd E6.out.st) (by have:=HN.out; omega) (by omega) hf
     rw [show c.v=.agg #[.int .i64 (c.page:Int),.int .i64 (c.text.size:Int),.int .i64 c.cnt] from rfl] at FY
     have KP:Hid (∀ W,Hid (ChE w1 (wr.alloc (.cells #[.string (lkey en.n),.string en.id,.int .i64 en.by] 146)) w.heap.size 0 W (fun k=>(K k \/ (Value.slice (some ⟨g,0,none⟩) T.length vc).ownBlock=some k) \/ k=wr.heap.size) sb rb ti tl n N (a + 2 * i) Ci (en :: LD) nx X) -> Calls Tryz.prog 68 #[.pointer (some ⟨sb,0,none⟩),.string en.id,.agg #[.int .i64 (c.page:Int),.int .i64 (c.text.size:Int),.int .i64 (c.cnt + en.by)]] W fun e w'=>e=.returned (.int .i64 0) /\ Hid (∃ C2,MgStep Ci en C2 /\ ChE w1 (wr.alloc (.cells #[.string (lkey en.n),.string en.id,.int .i64 en.by] 146)) w.heap.size 0 w' (fun k=>(K k \/ (Value.slice (some ⟨g,0,none⟩) T.length vc).ownBlock=some k) \/ k=wr.heap.size) sb rb ti tl n N (a + 2 * i + 1) C2 (en :: LD) nx X)):=Hd fun W hW=>by
      have hk:=keep_k w1 W W _ sb rb ti tl n N (a + 2 * i) nx Ci (en :: LD) X (c.add en.by) (Ck.add_ok hok (by omega) (by omega)) (Hd hW.out.st) (by have:=HIN.out; have:=HN.out; omega)
      rw [show (c.add en.by).id=en.id from hcid] at hk
      refine hk.mono ?_
      rintro e w' ⟨rfl,hE⟩
      obtain ⟨C2,h1,h2⟩:=hE.out
      exact ⟨rfl,Hd ⟨C2,.inr ⟨c,hf,h2⟩,hW.out.step h1⟩⟩
     have kw:IntKind.i64.wrap (c.cnt + en.by)=c.cnt + en.by:=wrap_sgn (by omega) (by omega)
     clear hf hcnt htl hby hiN hm ER hcell hdrop htk hid hi hLD hmem hok hcb hcid
     generalize c.page=z0 at *
     generalize (c.text.size:Int)=z1 at *
     generalize c.cnt=z2 at *
     generalize en.id=id at *
     generalize en.by=by_ at *
     generalize lkey en.n=ky at *
     clear hlt
     go_wp2_with fail
     refine FY.mono ?_
     rintro e w6 ⟨rfl,G6⟩
     have E7:=Hd (E6.out.step G6.out)
     obtain ⟨⟨d0,d1⟩,d2,d3,d4,d5⟩:=CY.out _ _ _ _ E7.out
     have E8:Hid (∀ o,ChE w1 _ w.heap.size 0 (w6.alloc o) _ sb rb ti tl n N (a + 2 * i) Ci (en :: LD) nx X):=Hd fun o=>E7.out.below ((Below.refl w6.heap.size w6).alloc (Nat.le_refl _) o)
     clear FY G6
     go_wp2_with fail
     refine (KP.out _ (Hd (E8.out _))).mono ?_
     rintro e w7 ⟨rfl,H7⟩
     obtain ⟨C2,HS2,H8⟩:=H7.out
     have HS3:=Hd HS2
     have H9:=Hd H8
     have H10:=Hd (H8.below (Below.refl w7.heap.size w7).drew)
     clear HS2 d0 d1 d2 d3 d4 d5
     obtain ⟨⟨d0,d1⟩,d2,d3,d4,d5⟩:=CY.out _ _ _ _ H8
     clear H8 KP E8
     go_wp2_with fail
     go_region_held3 (fun w'=>w'.cell? ⟨sb,2,none⟩=some (.pointer (some ⟨tl,0,none⟩)) /\ w'.cell? ⟨wr.heap.size,0,none⟩=some (.string ky)) (go_keep) ((first
      | (go_at_call 74
         refine Calls.at_args (DL.out _ C2 (a + 2 * i + 1) (Nat.le_refl _) H10) (by with_reducible rfl) ?_
         rintro e w9 ⟨rfl,hk9,H11⟩)))
     all_goals go_wp2_with fail
     all_goals go_roundg (T.length - (i + 1))
     all_goals (first
      | (case measure=>have:=HLT.out; omega)
      | (case rel=>exact ⟨i + 1,rfl,HLT.out,by congr 1,Hd (HNX.out _ _ HS3.out H11.out)⟩))
  ·obtain rfl:i=T.length:=by omega
   obtain ⟨Ci,hm,hE⟩:=HR.out
   rw [List.take_length] at hm
   have hE8:=Hd (hE.set 0)
   have hfin:=hE8.out.cell.1
   obtain ⟨cx,fx,lx⟩:=hE.cell
   have HD:Hid (L.drop T.length=L.drop limit):=Hd (by
    have h1:=HTL.out.2
    rw [<- HT.out,List.length_take]
    by_cases hc:limit <= L.length
    ·rw [Nat.min_eq_left hc]
    ·rw [Nat.min_eq_right (by omega),List.drop_length,List.drop_eq_nil_of_le (by omega)])
   have HG:Hid (∃ C',Mg C T C' /\ Chs w1 w0 (wr.setCell ⟨w.heap.size,0,none⟩ (.int .i64 0)) K sb rb ti tl n N (a + 2 * T.length) C' (L.drop limit) nx X):=Hd ⟨Ci,hm,by rw [<- HD.out]; exact hend.out _ _ _ _ _ _ _ hE8.out⟩
   clear hlt hi hm hE
   go_wp2_with fail
   refine leaves_cons (f:=60) (args:=#[.pointer (some ⟨sb,0,none⟩),.int .i64 (k:Int),.pointer (some ⟨w.heap.size,0,none⟩)]) (by simp) (by simp [go_sem]) ?_
   refine (undo_d _ _ _ _ _ hfin).mono ?_
   rintro e u' w9 ⟨rfl,rfl,rfl⟩
   simp [Leaves,settle,results,Tryz.results20,go_sem,hfin]
   exact HG.out
end
set_option maxHeartbeats 1000000
theorem less_catK (p a b:List UInt8):Op.bytesLess (p ++ a) (p ++ b)=Op.bytesLess a b:=by
 induction p with
 | nil=>rfl
 | cons c p ih =>
   show (decide (c < c) || (c == c && Op.bytesLess (p ++ a) (p ++ b)))=_
   rw [ih]; simp
theorem kless_name (p:ByteArray) {j k:Nat} (hj:j < 256) (hk:k < 256):kless (nameB p j) (nameB p k)=decide (j < k):=by
 unfold kless
 rw [Lib.toList_data,Lib.toList_data,nameB_data,nameB_data,less_catK]
 show (decide (UInt8.ofNat j < UInt8.ofNat k) || (UInt8.ofNat j == UInt8.ofNat k && false))=_
 rw [Bool.and_false,Bool.or_false]
 apply decide_eq_decide.2
 rw [UInt8.lt_iff_toNat_lt,UInt8.toNat_ofNat',UInt8.toNat_ofNat']
 omega
theorem kless_ff (p:ByteArray) (j:Nat):kless (nameB p j) (p ++ ffB)=true:=by
 unfold kless
 rw [Lib.toList_data,Lib.toList_data,nameB_data,show (p ++ ffB).data.toList=p.data.toList ++ [255,255] by simp [ffB],less_catK]
 show (decide (UInt8.ofNat j < 255) || (UInt8.ofNat j == 255 && true))=true
 generalize UInt8.ofNat j=x
 by_cases h:x < 255
 ·simp [h]
 ·have:x=255:=by
   apply UInt8.toNat_inj.1
   rw [UInt8.lt_iff_toNat_lt] at h
   have:=x.toNat_lt
   have e:(255:UInt8).toNat=255:=rfl
   omega
  subst this; rfl
theorem NoC.none {C:List Ck} {p:ByteArray} {k:Nat} (h:NoC C (nameB p k) (p ++ ffB)) (hk:k < 256) (j:Nat) (h1:k <= j) (h2:j < 256):cAt C (nameB p j)=none :=
 cAt_no fun c hc e=>by
  have:=h c hc (by rw [e,kless_name p h2 hk]; simp; omega)
  rw [e,kless_ff] at this
  cases this
theorem names_len {C:List Ck} {p:ByteArray} {k:Nat} (hk:k <= 256) (h:∀ j,j < k -> cAt C (nameB p j) ≠ none):k <= C.length:=by
 refine Nat.le_of_not_lt fun hlt=>?_
 obtain ⟨q,q1,q2⟩:=pigeon k (C.map fun c=>(c.id.data.toList.getLast?.getD 0).toNat) (by rw [List.length_map]; exact hlt)
 cases hf:cAt C (nameB p q) with
 | none=>exact h q q1 hf
 | some c =>
   obtain ⟨h1,h2⟩:=cAt_some hf
   refine q2 (List.mem_map.2 ⟨c,h1,?_⟩)
   rw [h2,nameB_data]
   simp
   omega
def NoHit (C:List Ck) (p t:ByteArray) (i:Nat):Prop:=∀ j,j < i -> ∀ c,cAt C (nameB p j)=some c -> c.text ≠ t
def FreeAt (C:List Ck) (p:ByteArray) (i:Nat) (f:Int):Prop:=(f=-1 /\ ∀ j,j < i -> cAt C (nameB p j) ≠ none) \/ ∃ k:Nat,f=(k:Int) /\ k < i /\ cAt C (nameB p k)=none /\ ∀ j,j < k -> cAt C (nameB p j) ≠ none
theorem FreeAt.zero (C:List Ck) (p:ByteArray):FreeAt C p 0 (-1):=.inl ⟨rfl,fun j hj=>absurd hj (by omega)⟩
theorem FreeAt.yes {C:List Ck} {p:ByteArray} {i:Nat} {f:Int} {c:Ck} (h:FreeAt C p i f) (hc:cAt C (nameB p i)=some c):FreeAt C p (i + 1) f:=by
 rcases h with ⟨h1,h2⟩ | ⟨k,h1,h2,h3⟩
 ·refine .inl ⟨h1,fun j hj=>?_⟩
  by_cases e:j=i
  ·subst e; rw [hc]; simp
  ·exact h2 j (by omega)
 ·exact .inr ⟨k,h1,by omega,h3⟩
theorem FreeAt.no {C:List Ck} {p:ByteArray} {i:Nat} {f:Int} (h:FreeAt C p i f) (hc:cAt C (nameB p i)=none) (hf:f < 0):FreeAt C p (i + 1) (i:Int):=by
 rcases h with ⟨h1,h2⟩ | ⟨k,h1,h2,h3⟩
 ·exact .inr ⟨i,rfl,by omega,hc,h2⟩
 ·omega
theorem FreeAt.no' {C:List Ck} {p:ByteArray} {i:Nat} {f:Int} (h:FreeAt C p i f) (hf:¬ f < 0):FreeAt C p (i + 1) f:=by
 rcases h with ⟨h1,h2⟩ | ⟨k,h1,h2,h3⟩
 ·omega
 ·exact .inr ⟨k,h1,by omega,h3⟩
theorem FreeAt.fin {C:List Ck} {p:ByteArray} {f:Int} (h:FreeAt C p 256 f) (hC:C.length < 256):∃ k:Nat,f=(k:Int) /\ k < 256 /\ cAt C (nameB p k)=none /\ ∀ j,j < k -> cAt C (nameB p j) ≠ none:=by
 rcases h with ⟨h1,h2⟩ | ⟨k,h1,h2,h3⟩
 ·have:=names_len (by omega) h2; omega
 ·exact ⟨k,h1,h2,h3⟩
theorem FreeAt.pos {C:List Ck} {p:ByteArray} {f:Int} {i:Nat} (h:FreeAt C p i f) (hi:i <= 256) (hf:¬ f < 0):∃ k:Nat,f=(k:Int) /\ k < 256 /\ cAt C (nameB p k)=none /\ ∀ j,j < k -> cAt C (nameB p j) ≠ none:=by
 rcases h with ⟨h1,h2⟩ | ⟨k,h1,h2,h3⟩
 ·omega
 ·exact ⟨k,h1,by omega,h3⟩
theorem NoHit.zero (C:List Ck) (p t:ByteArray):NoHit C p t 0:=fun j hj=>absurd hj (by omega)
theorem NoHit.yes {C:List Ck} {p t:ByteArray} {i:Nat} {c:Ck} (h:NoHit C p t i) (hc:cAt C (nameB p i)=some c) (ht:c.text ≠ t):NoHit C p t (i + 1):=fun j hj d hd=>by
 by_cases e:j=i
 ·subst e; rw [hc] at hd; cases hd; exact ht
 ·exact h j (by omega) d hd
theorem NoHit.no {C:List Ck} {p t:ByteArray} {i:Nat} (h:NoHit C p t i) (hc:cAt C (nameB p i)=none):NoHit C p t (i + 1):=fun j hj d hd=>by
 by_cases e:j=i
 ·subst e; rw [hc] at hd; cases hd
 ·exact h j (by omega) d hd
theorem NoHit.all {C:List Ck} {p t:ByteArray} {i:Nat} (h:NoHit C p t i) (hi:i < 256) (hn:NoC C (nameB p i) (p ++ ffB)):NoHit C p t 256:=fun j hj d hd=>by
 by_cases e:j < i
 ·exact h j e d hd
 ·rw [hn.none hi j (by omega) hj] at hd; cases hd
def PutRes (w1 w0 w:World) (K:Nat -> Prop) (sb rb ti tl n N a:Nat) (C:List Ck) (L:List Lg) (nx:Nat) (X:List (Nat × ByteArray)) (p t:ByteArray) (id:ByteArray) (fresh:Bool):Prop :=
 (fresh=false /\ ∃ k c,k < 256 /\ id=nameB p k /\ cAt C id=some c /\ c.text=t /\ NoHit C p t k /\ Chs w1 w0 w K sb rb ti tl n N a C L nx X) \/
 (fresh=true /\ ∃ k page C',k < 256 /\ id=nameB p k /\ cAt C id=none /\ (∀ j,j < k -> cAt C (nameB p j) ≠ none) /\ NoHit C p t 256 /\ PutC ⟨id,page,0,t⟩ C C' /\ Chs w1 w0 w K sb rb ti tl n N (a + 2) C' L nx ((page,t) :: X))
set_option maxHeartbeats 4000000
section
variable (w1 w w0:World) (K:Nat -> Prop) (sb rb ti tl n N a nx:Nat) (C:List Ck) (L:List Lg) (X:List (Nat × ByteArray))
theorem Put_k (t:ByteArray) (h:Hid (Chs w1 w0 w K sb rb ti tl n N a C L nx X)) (hN:a + 2 <= N /\ N <= 1000) (ht1:1 <= t.size) (ht2:t.size <= 128) (hC:C.length <= 250) (hX:∀ c ∈ C,(c.page,c.text) ∈ X) :
 Calls Tryz.prog 18 #[.pointer (some ⟨sb,0,none⟩),.string t] w fun e w'=>∃ id fresh,e=.returned (.tuple #[.string id,.bool fresh,.int .i64 0]) /\ Hid (PutRes w1 w0 w' K sb rb ti tl n N a C L nx X (prB t) t id fresh):=by
 obtain ⟨x,hx⟩:=exE (w.heap.size)
 obtain ⟨wb,hwb⟩:=exE (w.alloc (.cells #[.int .i64 0] 34))
 have HOK:=Hd h.out.ok.1
 have E0:Hid (ChE w1 w x 0 wb K sb rb ti tl n N a C L nx X):=Hd (by subst hx hwb; exact ChE.start h.out)
 obtain ⟨k,MK⟩:=Mark_k w1 wb wb _ sb rb ti tl n N a nx C L X (Hd E0.out.st)
 have F0:=find_no ⟨#[]⟩ (Hd E0.out.st) ⟨by omega,hN.2⟩ (by decide) (cAt_no fun c hc e=>by have:=(HOK.out c hc).id; rw [e] at this; cases this)
 rw [show ck0=.agg #[.int .i64 0,.int .i64 0,.int .i64 0] from rfl] at F0
 have PR:=fun W=>Print_c t W (by omega)
 obtain ⟨p,hp⟩:=exE (prB t)
 have hps:p.size=32:=by rw [<- hp]; exact prB_size t
 have HSZ:Hid (∀ k,(nameB p k).size=33):=Hd fun k=>by rw [nameB_size,hps]
 rw [hp] at PR ⊢
 have NM:Hid (∀ W (k:Nat),k < 256 -> Calls Tryz.prog 64 #[.string p,.int .i64 (k:Int)] W fun e w'=>e=.returned (.string (nameB p k)) /\ Hid (Below W.heap.size W w')):=Hd fun W k hk=>name_c p k W (by omega) hk
 have FN:Hid (∀ W (s:ByteArray),s.size=33 -> cAt C s=none -> Hid (ChE w1 w x 0 W K sb rb ti tl n N a C L nx X) -> Calls Tryz.prog 62 #[.pointer (some ⟨sb,0,none⟩),.string s] W fun e w'=>e=.returned (.tuple #[.agg #[.int .i64 0,.int .i64 0,.int .i64 0],.bool false,.int .i64 0]) /\ Hid (ChE w1 w x 0 w' K sb rb ti tl n N a C L nx X)):=Hd fun W s hs hc hW=>by
  refine (find_no s (Hd hW.out.st) ⟨by omega,hN.2⟩ (by omega) hc).mono ?_
  rintro e w' ⟨rfl,hE⟩
  exact ⟨rfl,Hd (hW.out.step hE.out)⟩
 have FY:Hid (∀ W (s:ByteArray) (c:Ck),s.size=33 -> cAt C s=some c -> Hid (ChE w1 w x 0 W K sb rb ti tl n N a C L nx X) -> Calls Tryz.prog 62 #[.pointer (some ⟨sb,0,none⟩),.string s] W fun e w'=>e=.returned (.tuple #[.agg #[.int .i64 (c.page:Int),.int .i64 (c.text.size:Int),.int .i64 c.cnt],.bool true,.int .i64 0]) /\ Hid (ChE w1 w x 0 w' K sb rb ti tl n N a C L nx X)):=Hd fun W s c hs hc hW=>by
  refine (find_yes s c (Hd hW.out.st) ⟨by omega,hN.2⟩ (by omega) hc).mono ?_
  rintro e w' ⟨rfl,hE⟩
  exact ⟨rfl,Hd (hW.out.step hE.out)⟩
 have LS:Hid (∀ W (k:Nat),k < 256 -> Hid (ChE w1 w x 0 W K sb rb ti tl n N a C L nx X) -> Calls Tryz.prog 65 #[.pointer (some ⟨sb,0,none⟩),.string p,.int .i64 (k:Int)] W fun e w'=>∃ b:Bool,e=.returned (.tuple #[.bool b,.int .i64 0]) /\ (b=true ↔ NoC C (nameB p k) (p ++ ffB)) /\ Hid (ChE w1 w x 0 w' K sb rb ti tl n N a C L nx X)):=Hd fun W k hk hW=>by
  refine (last_k w1 W W _ sb rb ti tl n N a nx C L X p k (by omega) hk (Hd hW.out.st) ⟨by omega,hN.2⟩ (by omega)).mono ?_
  rintro e w' ⟨b,rfl,hb,hE⟩
  exact ⟨b,rfl,hb,Hd (hW.out.step hE.out)⟩
 have BG:Hid (∀ W WA g (c:Ck),c ∈ C -> Hid (ChE w1 WA x 0 W (fun k=>K k \/ k=g) sb rb ti tl n N a C L nx X) -> WA.cell? ⟨g,0,none⟩=some (.int .i64 (c.page:Int)) -> Calls Tryz.prog 66 #[.pointer (some ⟨rb,0,none⟩),.int .i64 (c.page:Int)] W fun e w'=>e=.returned (.tuple #[.string c.text,.int .i64 0]) /\ (w'.cell? ⟨sb,0,none⟩=some (.pointer (some ⟨rb,0,none⟩)) /\ w'.cell? ⟨g,0,none⟩=some (.int .i64 (c.page:Int))) /\ Hid (ChE w1 WA x 0 w' (fun k=>K k \/ k=g) sb rb ti tl n N a C L nx X)):=Hd fun W WA g c hc hW hg=>by
  refine (blob_get w1 W W _ sb rb ti tl n N a nx C L X c.page c.text (hX c hc) (HOK.out c hc).t2 (Hd hW.out.st) ⟨by omega,hN.2⟩).mono ?_
  rintro e w' ⟨rfl,hE⟩
  have hs:=hW.out.step hE.out
  exact ⟨rfl,⟨hs.st.sbk.cells.1,(World.cell?_of_block (hs.kp g (.inr rfl))).trans hg⟩,Hd hs⟩
 have BP:Hid (∀ W,Hid (ChE w1 w x 0 W K sb rb ti tl n N a C L nx X) -> Calls Tryz.prog 67 #[.pointer (some ⟨rb,0,none⟩),.string t] W fun e w'=>∃ page:Nat,e=.returned (.tuple #[.int .i64 (page:Int),.int .i64 0]) /\ Hid (page < 65536 /\ ChE w1 w x 0 w' K sb rb ti tl n N (a + 1) C L nx ((page,t) :: X))):=Hd fun W hW=>by
  refine (blob_put w1 W W _ sb rb ti tl n N a nx C L X t ht2 (Hd hW.out.st) ⟨by omega,hN.2⟩).mono ?_
  rintro e w' ⟨page,rfl,hE⟩
  exact ⟨page,rfl,Hd ⟨hE.out.1,hW.out.step hE.out.2⟩⟩
 have KP:Hid (∀ W (page:Nat) (s:ByteArray),page < 65536 -> s.size=33 -> Hid (ChE w1 w x 0 W K sb rb ti tl n N (a + 1) C L nx ((page,t) :: X)) -> Calls Tryz.prog 68 #[.pointer (some ⟨sb,0,none⟩),.string s,.agg #[.int .i64 (page:Int),.int .i64 (t.size:Int),.int .i64 0]] W fun e w'=>e=.returned (.int .i64 0) /\ Hid (∃ C',PutC ⟨s,page,0,t⟩ C C' /\ ChE w1 w x 0 w' K sb rb ti tl n N (a + 2) C' L nx ((page,t) :: X))):=Hd fun W page s hpg hs hW=>by
  refine (keep_k w1 W W _ sb rb ti tl n N (a + 1) nx C L ((page,t) :: X) ⟨s,page,0,t⟩ ⟨hs,hpg,ht1,ht2,by show (-1000000000:Int) <= 0; decide,by show (0:Int) <= 1000000000; decide⟩ (Hd hW.out.st) ⟨by omega,hN.2⟩).mono ?_
  rintro e w' ⟨rfl,hE⟩
  obtain ⟨C',h1,h2⟩:=hE.out
  exact ⟨rfl,Hd ⟨C',h2,hW.out.step h1⟩⟩
 have HH:=Hd h.out
 have k1:((t.size:Int) < 1)=False:=by simp; omega
 have k2:((128:Int) < t.size)=False:=by simp; omega
 have HCL:Hid (C.length < 256):=Hd (by omega)
 clear h hN ht1 ht2 hC hX hp hps
 go_enter_defers Tryz.func18,Tryz.ntmps18
 go_wp2_with fail
 subst hx
 refine MK.mono ?_
 rintro e wm ⟨rfl,rfl⟩
 go_wp2_with fail
 refine F0.mono ?_
 rintro e w2 ⟨rfl,G2⟩
 have E2:=Hd (E0.out.step G2.out)
 have E3:Hid (∀ o,ChE w1 w w.heap.size 0 (w2.alloc o) K sb rb ti tl n N a C L nx X):=Hd fun o=>E2.out.below ((Below.refl _ _).alloc (Nat.le_refl _) o)
 clear F0 MK G2
 go_wp2_with fail
 refine (PR _).mono ?_
 rintro e w3 ⟨rfl,hb3⟩
 have R0:Hid (FreeAt C p 0 (-1) /\ NoHit C p t 0 /\ ChE w1 w w.heap.size 0 w3 K sb rb ti tl n N a C L nx X):=Hd ⟨FreeAt.zero C p,NoHit.zero C p t,(E3.out _).below hb3.out⟩
 clear E2 E3 hb3 PR k1 k2
 go_wp2_with fail
 go_loopg [11,12,13,14,15,16,17,18,43,55,59,94,98] 256 (fun g s11 s12 s13 s14 s15 s16 s17 s18 s43 s55 s59 s94 s98 wr=>∃ (i:Nat) (f:Int),g=256 - i /\ i <= 256 /\ s43=.int .i64 (i:Int) /\ s11=.int .i64 f /\ Hid (FreeAt C p i f /\ NoHit C p t i /\ ChE w1 w w.heap.size 0 wr K sb rb ti tl n N a C L nx X))
 case atStart=>exact ⟨0,-1,rfl,Nat.zero_le _,rfl,rfl,R0⟩
 case round =>
  obtain ⟨i,f,rfl,hi,rfl,rfl,HR⟩:=hrel
  clear R0
  have HE:=Hd HR.out.2.2
  have HFA:=Hd (And.intro HR.out.1 HR.out.2.1)
  clear HR
  by_cases hlt:i < 256
  ·have NMi:=NM.out wr i hlt
   have hsz:=HSZ.out i
   have LSi:Hid (∀ W,Hid (ChE w1 w w.heap.size 0 W K sb rb ti tl n N a C L nx X) -> Calls Tryz.prog 65 #[.pointer (some ⟨sb,0,none⟩),.string p,.int .i64 (i:Int)] W fun e w'=>∃ b:Bool,e=.returned (.tuple #[.bool b,.int .i64 0]) /\ (b=true ↔ NoC C (nameB p i) (p ++ ffB)) /\ Hid (ChE w1 w w.heap.size 0 w' K sb rb ti tl n N a C L nx X)):=Hd fun W hW=>LS.out W i hlt hW
   have HLT:=Hd hlt
   have hltI:(i:Int) < 256:=by omega
   cases hf:cAt C (nameB p i) with
   | none =>
     have FNi:=fun W=>FN.out W _ hsz hf
     have HF:=Hd hf
     clear hf hlt hi hsz
     go_wp2_with fail
     refine NMi.mono ?_
     rintro e w4 ⟨rfl,hb4⟩
     go_wp2_with fail
     refine (FNi _ (Hd (HE.out.below hb4.out))).mono ?_
     rintro e w5 ⟨rfl,HE5⟩
     have HE6:Hid (∀ o,ChE w1 w w.heap.size 0 (w5.alloc o) K sb rb ti tl n N a C L nx X):=Hd fun o=>HE5.out.below ((Below.refl _ _).alloc (Nat.le_refl _) o)
     clear NMi FNi hb4
     by_cases hneg:f < 0
     ·have HNG:=Hd hneg
      go_wp2_with fail
      refine (LSi.out _ (Hd (HE6.out _))).mono ?_
      rintro e w6 ⟨bb,rfl,hbb,HE7⟩
      clear HE5 HE6
      cases bb with
      | false =>
        clear hbb
        go_wp2_with fail
        go_roundg (256 - (i + 1))
        case measure=>have:=HLT.out; omega
        case rel=>exact ⟨i + 1,_,rfl,HLT.out,by congr 1,rfl,Hd ⟨HFA.out.1.no HF.out HNG.out,HFA.out.2.no HF.out,HE7.out⟩⟩
      | true =>
        have HKF:Hid (i < 256 /\ cAt C (nameB p i)=none /\ (∀ j,j < i -> cAt C (nameB p j) ≠ none) /\ NoHit C p t 256):=Hd (by
         obtain ⟨k',e1,e2,e3,e4⟩:=(HFA.out.1.no HF.out HNG.out).pos HLT.out (by omega)
         obtain rfl:k'=i:=by omega
         exact ⟨e2,e3,e4,HFA.out.2.all HLT.out (hbb.1 rfl)⟩)
        clear hbb
        have CF:=Hd (HE7.out.st.sbk.cells)
        have BPw:=BP.out _ HE7
        obtain ⟨s0,s1,s2⟩:=CF.out
        obtain ⟨cx,fx,lx⟩:=HE7.out.cell
        have lsb:sb < w6.heap.size:=lt_of_heap HE7.out.st.sbk.1
        clear CF
        go_wp2_with fail
        refine BPw.mono ?_
        rintro e w5 ⟨page,rfl,HP5⟩
        have HPG:Hid (page < 65536):=Hd HP5.out.1
        have E5:=Hd HP5.out.2
        clear BPw cx fx lx s0 s1 s2 lsb HP5
        obtain ⟨cx,fx,lx⟩:=E5.out.cell
        have E6:=Hd (E5.out.set 0)
        obtain ⟨w6,hw6⟩:=exE (w5.setCell ⟨w.heap.size,0,none⟩ (.int .i64 0))
        rw [hw6] at E6
        have lx6:=E6.out.cell.1
        obtain ⟨s0,s1,s2⟩:=E6.out.st.sbk.cells
        have NM6:=NM.out w6 i HKF.out.1
        go_wp2_with fail
        refine NM6.mono ?_
        rintro e w7 ⟨rfl,hb7⟩
        have E7:=Hd (E6.out.below hb7.out)
        have KPw:=KP.out _ page (nameB p i) HPG.out (HSZ.out _) E7
        clear NM6 hb7 lx6 s0 s1 s2 hw6
        obtain ⟨s0,s1,s2⟩:=E7.out.st.sbk.cells
        go_wp2_with fail
        refine KPw.mono ?_
        rintro e w8 ⟨rfl,HK8⟩
        obtain ⟨C',hpc,hE8⟩:=HK8.out
        have E8:=Hd hE8
        have HPC:=Hd hpc
        clear KPw HK8 hE8 hpc cx fx lx s0 s1 s2
        have NM8:=NM.out w8 i HKF.out.1
        go_wp2_with fail
        refine NM8.mono ?_
        rintro e w9 ⟨rfl,hb9⟩
        have E9:=Hd (E8.out.below hb9.out)
        clear NM8 hb9
        obtain ⟨cx,fx,lx⟩:=E9.out.cell
        have E10:=Hd (E9.out.set 0)
        have hfin:=E10.out.cell.1
        have HG:Hid (PutRes w1 w0 (w9.setCell ⟨w.heap.size,0,none⟩ (.int .i64 0)) K sb rb ti tl n N a C L nx X p t (nameB p i) true):=Hd (.inr ⟨rfl,i,page,C',HKF.out.1,rfl,HKF.out.2.1,HKF.out.2.2.1,HKF.out.2.2.2,HPC.out,ChE.end_ HH.out E10.out⟩)
        go_wp2_with fail
        refine leaves_cons (f:=60) (args:=#[.pointer (some ⟨sb,0,none⟩),.int .i64 (k:Int),.pointer (some ⟨w.heap.size,0,none⟩)]) (by simp) (by simp [go_sem]) ?_
        refine (undo_d _ _ _ _ _ hfin).mono ?_
        rintro e u' wz ⟨rfl,rfl,rfl⟩
        simp [Leaves,settle,results,Tryz.results18,go_sem,hfin]
        exact HG
     ·have hpos:Hid (∃ kf:Nat,f=(kf:Int) /\ kf < 256 /\ cAt C (nameB p kf)=none /\ ∀ j,j < kf -> cAt C (nameB p j) ≠ none):=Hd (HFA.out.1.pos (Nat.le_of_lt HLT.out) hneg)
      have HNG:=Hd hneg
      go_wp2_with fail
      refine (LSi.out _ (Hd (HE6.out _))).mono ?_
      rintro e w6 ⟨bb,rfl,hbb,HE7⟩
      clear HE5 HE6
      cases bb with
      | false =>
        clear hbb
        go_wp2_with fail
        go_roundg (256 - (i + 1))
        case measure=>have:=HLT.out; omega
        case rel=>exact ⟨i + 1,_,rfl,HLT.out,by congr 1,rfl,Hd ⟨HFA.out.1.no' (by have:=HNG.out; omega),HFA.out.2.no HF.out,HE7.out⟩⟩
      | true =>
        obtain ⟨kf,hkf,q1,q2,q3⟩:=hpos.out
        have HKF:Hid (kf < 256 /\ cAt C (nameB p kf)=none /\ (∀ j,j < kf -> cAt C (nameB p j) ≠ none) /\ NoHit C p t 256):=Hd ⟨q1,q2,q3,HFA.out.2.all HLT.out (hbb.1 rfl)⟩
        subst hkf
        clear hbb q1 q2 q3 hneg HFA HNG hpos
        have CF:=Hd (HE7.out.st.sbk.cells)
        have BPw:=BP.out _ HE7
        obtain ⟨s0,s1,s2⟩:=CF.out
        obtain ⟨cx,fx,lx⟩:=HE7.out.cell
        have lsb:sb < w6.heap.size:=lt_of_heap HE7.out.st.sbk.1
        clear CF
        go_wp2_with fail
        refine BPw.mono ?_
        rintro e w5 ⟨page,rfl,HP5⟩
        have HPG:Hid (page < 65536):=Hd HP5.out.1
        have E5:=Hd HP5.out.2
        clear BPw cx fx lx s0 s1 s2 lsb HP5
        obtain ⟨cx,fx,lx⟩:=E5.out.cell
        have E6:=Hd (E5.out.set 0)
        obtain ⟨w6,hw6⟩:=exE (w5.setCell ⟨w.heap.size,0,none⟩ (.int .i64 0))
        rw [hw6] at E6
        have lx6:=E6.out.cell.1
        obtain ⟨s0,s1,s2⟩:=E6.out.st.sbk.cells
        have NM6:=NM.out w6 kf HKF.out.1
        go_wp2_with fail
        refine NM6.mono ?_
        rintro e w7 ⟨rfl,hb7⟩
        have E7:=Hd (E6.out.below hb7.out)
        have KPw:=KP.out _ page (nameB p kf) HPG.out (HSZ.out _) E7
        clear NM6 hb7 lx6 s0 s1 s2 hw6
        obtain ⟨s0,s1,s2⟩:=E7.out.st.sbk.cells
        go_wp2_with fail
        refine KPw.mono ?_
        rintro e w8 ⟨rfl,HK8⟩
        obtain ⟨C',hpc,hE8⟩:=HK8.out
        have E8:=Hd hE8
        have HPC:=Hd hpc
        clear KPw HK8 hE8 hpc cx fx lx s0 s1 s2
        have NM8:=NM.out w8 kf HKF.out.1
        go_wp2_with fail
        refine NM8.mono ?_
        rintro e w9 ⟨rfl,hb9⟩
        have E9:=Hd (E8.out.below hb9.out)
        clear NM8 hb9
        obtain ⟨cx,fx,lx⟩:=E9.out.cell
        have E10:=Hd (E9.out.set 0)
        have hfin:=E10.out.cell.1
        have HG:Hid (PutRes w1 w0 (w9.setCell ⟨w.heap.size,0,none⟩ (.int .i64 0)) K sb rb ti tl n N a C L nx X p t (nameB p kf) true):=Hd (.inr ⟨rfl,kf,page,C',HKF.out.1,rfl,HKF.out.2.1,HKF.out.2.2.1,HKF.out.2.2.2,HPC.out,ChE.end_ HH.out E10.out⟩)
        go_wp2_with fail
        refine leaves_cons (f:=60) (args:=#[.pointer (some ⟨sb,0,none⟩),.int .i64 (k:Int),.pointer (some ⟨w.heap.size,0,none⟩)]) (by simp) (by simp [go_sem]) ?_
        refine (undo_d _ _ _ _ _ hfin).mono ?_
        rintro e u' wz ⟨rfl,rfl,rfl⟩
        simp [Leaves,settle,results,Tryz.results18,go_sem,hfin]
        exact HG
   | some c =>
     have hcm:=(cAt_some hf).1
     have FYi:=fun W=>FY.out W _ c hsz hf
     have HF:=Hd hf
     have BGi:Hid (∀ W WA g,Hid (ChE w1 WA w.heap.size 0 W (fun k=>K k \/ k=g) sb rb ti tl n N a C L nx X) -> WA.cell? ⟨g,0,none⟩=some (.int .i64 (c.page:Int)) -> Calls Tryz.prog 66 #[.pointer (some ⟨rb,0,none⟩),.int .i64 (c.page:Int)] W fun e w'=>e=.returned (.tuple #[.string c.text,.int .i64 0]) /\ (w'.cell? ⟨sb,0,none⟩=some (.pointer (some ⟨rb,0,none⟩)) /\ w'.cell? ⟨g,0,none⟩=some (.int .i64 (c.page:Int))) /\ Hid (ChE w1 WA w.heap.size 0 w' (fun k=>K k \/ k=g) sb rb ti tl n N a C L nx X)):=Hd fun W WA g h1 h2=>BG.out W WA g c hcm h1 h2
     clear hf hlt hi hsz hcm
     obtain ⟨tx,htx⟩:=exE (c.text)
     have HTX:=Hd htx
     rw [htx] at BGi FYi
     generalize c.page=z0 at *
     generalize c.cnt=z2 at *
     generalize (tx.size:Int)=z1 at *
     clear htx
     go_wp2_with fail
     refine NMi.mono ?_
     rintro e w4 ⟨rfl,hb4⟩
     go_wp2_with fail
     refine (FYi _ (Hd (HE.out.below hb4.out))).mono ?_
     rintro e w5 ⟨rfl,HE5⟩
     clear NMi FYi hb4
     have HE6:=Hd (HE5.out.new (.cells #[.int .i64 (z0:Int),.int .i64 z1,.int .i64 z2] 124))
     have HOLD:Hid (∀ W,ChE w1 (w5.alloc (.cells #[.int .i64 (z0:Int),.int .i64 z1,.int .i64 z2] 124)) w.heap.size 0 W (fun k=>K k \/ k=w5.heap.size) sb rb ti tl n N a C L nx X -> ChE w1 w w.heap.size 0 W K sb rb ti tl n N a C L nx X):=Hd fun W h9=>ChE.old HE5.out h9
     obtain ⟨w6,hw6⟩:=exE (w5.alloc (.cells #[.int .i64 (z0:Int),.int .i64 z1,.int .i64 z2] 124))
     have g0:w6.cell? ⟨w5.heap.size,0,none⟩=some (.int .i64 (z0:Int)):=by rw [<- hw6]; exact cell_lit (heap_alloc_new _ _) rfl
     rw [hw6] at HE6 HOLD
     obtain ⟨s0,s1,s2⟩:=HE6.out.st.sbk.cells
     have lsb:sb < w6.heap.size:=lt_of_heap HE6.out.st.sbk.1
     have HE7:Hid (ChE w1 w6 w.heap.size 0 w6.drew (fun k=>K k \/ k=w5.heap.size) sb rb ti tl n N a C L nx X):=Hd (HE6.out.below (Below.refl _ _).drew)
     have HG0:=Hd g0
     clear HE5
     go_wp2_with fail
     go_region_held3 (fun w'=>w'.cell? ⟨sb,0,none⟩=some (.pointer (some ⟨rb,0,none⟩)) /\ w'.cell? ⟨w5.heap.size,0,none⟩=some (.int .i64 (z0:Int))) (go_keep) ((first
      | (go_at_call 66
         refine Calls.at_args (BGi.out _ _ _ HE7 HG0.out) (by with_reducible rfl) ?_
         rintro e w7 ⟨rfl,hk7,HE8⟩)))
     all_goals (
      have HE9:=Hd (HOLD.out _ HE8.out)
      clear HE6 HE7 HE8 HOLD s0 s1 s2 lsb g0 HG0 hk7 hw6 BGi
      by_cases he:tx=t
      ·have q:(tx.toList == t.toList)=true:=by rw [baK_eq]; simp [he]
       have NM2:=NM.out w7 i HLT.out
       have HQ:=Hd he
       clear he
       go_wp2_with fail
       refine NM2.mono ?_
       rintro e w9 ⟨rfl,hb9⟩
       have E9:=Hd (HE9.out.below hb9.out)
       clear NM2 hb9
       obtain ⟨cx,fx,lx⟩:=E9.out.cell
       have E10:=Hd (E9.out.set 0)
       have hfin:=E10.out.cell.1
       have HG:Hid (PutRes w1 w0 (w9.setCell ⟨w.heap.size,0,none⟩ (.int .i64 0)) K sb rb ti tl n N a C L nx X p t (nameB p i) false):=Hd (.inl ⟨rfl,i,c,HLT.out,rfl,HF.out,HTX.out.trans HQ.out,HFA.out.2,ChE.end_ HH.out E10.out⟩)
       go_wp2_with fail
       refine leaves_cons (f:=60) (args:=#[.pointer (some ⟨sb,0,none⟩),.int .i64 (k:Int),.pointer (some ⟨w.heap.size,0,none⟩)]) (by simp) (by simp [go_sem]) ?_
       refine (undo_d _ _ _ _ _ hfin).mono ?_
       rintro e u' wz ⟨rfl,rfl,rfl⟩
       simp [Leaves,settle,results,Tryz.results18,go_sem,hfin]
       exact HG
      ·have q:(tx.toList == t.toList)=false:=by rw [baK_eq]; simp [he]
       have HQ:=Hd he
       clear he
       go_wp2_with fail
       go_roundg (256 - (i + 1))
       case measure=>have:=HLT.out; omega
       case rel=>exact ⟨i + 1,_,rfl,HLT.out,by congr 1,rfl,Hd ⟨HFA.out.1.yes HF.out,HFA.out.2.yes HF.out (fun e=>HQ.out (HTX.out.symm.trans e)),HE9.out⟩⟩)
  ·obtain rfl:i=256:=by omega
   obtain ⟨kf,hkf,q1,q2,q3⟩:=HFA.out.1.fin HCL.out
   have HKF:Hid (kf < 256 /\ cAt C (nameB p kf)=none /\ (∀ j,j < kf -> cAt C (nameB p j) ≠ none) /\ NoHit C p t 256):=Hd ⟨q1,q2,q3,HFA.out.2⟩
   subst hkf
   clear q1 q2 q3 HFA hlt hi
   have CF:=Hd (HE.out.st.sbk.cells)
   have BPw:=BP.out _ HE
   obtain ⟨s0,s1,s2⟩:=CF.out
   obtain ⟨cx,fx,lx⟩:=HE.out.cell
   have lsb:sb < wr.heap.size:=lt_of_heap HE.out.st.sbk.1
   clear CF
   go_wp2_with fail
   refine BPw.mono ?_
   rintro e w5 ⟨page,rfl,HP5⟩
   have HPG:Hid (page < 65536):=Hd HP5.out.1
   have E5:=Hd HP5.out.2
   clear BPw cx fx lx s0 s1 s2 lsb HP5
   obtain ⟨cx,fx,lx⟩:=E5.out.cell
   have E6:=Hd (E5.out.set 0)
   obtain ⟨w6,hw6⟩:=exE (w5.setCell ⟨w.heap.size,0,none⟩ (.int .i64 0))
   rw [hw6] at E6
   have lx6:=E6.out.cell.1
   obtain ⟨s0,s1,s2⟩:=E6.out.st.sbk.cells
   have NM6:=NM.out w6 kf HKF.out.1
   go_wp2_with fail
   refine NM6.mono ?_
   rintro e w7 ⟨rfl,hb7⟩
   have E7:=Hd (E6.out.below hb7.out)
   have KPw:=KP.out _ page (nameB p kf) HPG.out (HSZ.out _) E7
   clear NM6 hb7 lx6 s0 s1 s2 hw6
   obtain ⟨s0,s1,s2⟩:=E7.out.st.sbk.cells
   go_wp2_with fail
   refine KPw.mono ?_
   rintro e w8 ⟨rfl,HK8⟩
   obtain ⟨C',hpc,hE8⟩:=HK8.out
   have E8:=Hd hE8
   have HPC:=Hd hpc
   clear KPw HK8 hE8 hpc cx fx lx s0 s1 s2
   have NM8:=NM.out w8 kf HKF.out.1
   go_wp2_with fail
   refine NM8.mono ?_
   rintro e w9 ⟨rfl,hb9⟩
   have E9:=Hd (E8.out.below hb9.out)
   clear NM8 hb9
   obtain ⟨cx,fx,lx⟩:=E9.out.cell
   have E10:=Hd (E9.out.set 0)
   have hfin:=E10.out.cell.1
   have HG:Hid (PutRes w1 w0 (w9.setCell ⟨w.heap.size,0,none⟩ (.int .i64 0)) K sb rb ti tl n N a C L nx X p t (nameB p kf) true):=Hd (.inr ⟨rfl,kf,page,C',HKF.out.1,rfl,HKF.out.2.1,HKF.out.2.2.1,HKF.out.2.2.2,HPC.out,ChE.end_ HH.out E10.out⟩)
   go_wp2_with fail
   refine leaves_cons (f:=60) (args:=#[.pointer (some ⟨sb,0,none⟩),.int .i64 (k:Int),.pointer (some ⟨w.heap.size,0,none⟩)]) (by simp) (by simp [go_sem]) ?_
   refine (undo_d _ _ _ _ _ hfin).mono ?_
   rintro e u' wz ⟨rfl,rfl,rfl⟩
   simp [Leaves,settle,results,Tryz.results18,go_sem,hfin]
   exact HG
end
set_option maxHeartbeats 1000000
theorem PutC.nil {c:Ck} {C':List Ck} (h:PutC c [] C'):C'=[c]:=by
 obtain ⟨A,B,rfl,h',-,-⟩:=h
 rcases h' with h' | ⟨c0,-,h'⟩
 ·have:=List.append_eq_nil_iff.1 h'.symm
  rw [this.1,this.2]; rfl
 ·simp at h'
theorem PutC.same {c c0:Ck} {C':List Ck} (h:PutC c [c0] C') (e:c0.id=c.id):C'=[c]:=by
 obtain ⟨A,B,rfl,h',hA,hB⟩:=h
 rcases h' with h' | ⟨c1,-,h'⟩
 ·exfalso
  have hm:c0 ∈ A ++ B:=by rw [<- h']; simp
  rcases List.mem_append.1 hm with hm | hm
  ·exact kless_ne (hA c0 hm) e
  ·exact kless_ne (hB c0 hm) e.symm
 ·cases A with
  | nil =>
    rw [List.nil_append] at h'
    have:=(List.cons.inj h').2
    subst this; rfl
  | cons x A =>
    rw [List.cons_append] at h'
    have:=(List.cons.inj h').2
    simp at this
theorem cAt_one {c:Ck}:cAt [c] c.id=some c:=by simp [cAt]
theorem cAt_one_some {c d:Ck} {s:ByteArray} (h:cAt [c] s=some d):d=c /\ c.id=s:=by
 obtain ⟨h1,h2⟩:=cAt_some h
 simp at h1
 subst h1
 exact ⟨rfl,h2⟩
theorem Mg.one {c:Ck} {T:List Lg} {C':List Ck} (h:Mg [c] T C') (hT:∀ e ∈ T,e.id=c.id):C'=[c.add (pend T c.id)]:=by
 induction h with
 | nil=>simp [pend,Ck.add]
 | @snoc T C1 C2 e h1 h2 ih =>
   have e1:=ih fun x hx=>hT x (by simp [hx])
   have e2:=hT e (by simp)
   subst e1
   rcases h2 with ⟨h3,-⟩ | ⟨d,h3,h4⟩
   ·exact absurd e2.symm (cAt_none h3 (c.add (pend T c.id)) (by simp))
   ·obtain ⟨rfl,h5⟩:=cAt_one_some h3
    have:=h4.same rfl
    rw [this,pend_snoc,if_pos e2]
    simp only [Ck.add,List.cons.injEq,Ck.mk.injEq,and_true,true_and]
    omega
section
variable {w1 w0 w:World} {K:Nat -> Prop} {sb rb ti tl n N a nx:Nat} {C:List Ck} {L:List Lg} {X:List (Nat × ByteArray)} {p t id:ByteArray} {fresh:Bool}
theorem PutRes.empty (h:PutRes w1 w0 w K sb rb ti tl n N a [] L nx X p t id fresh):fresh=true /\ id=nameB p 0 /\ ∃ page,Chs w1 w0 w K sb rb ti tl n N (a + 2) [⟨id,page,0,t⟩] L nx ((page,t) :: X):=by
 rcases h with ⟨-,k,c,-,-,h,-⟩ | ⟨h1,k,page,C',-,h2,-,h3,-,h4,h5⟩
 ·simp [cAt] at h
 ·have hk:k=0:=by
   rcases Nat.eq_zero_or_pos k with h | h
   ·exact h
   ·exact absurd rfl (h3 0 h)
  subst hk
  rw [h4.nil] at h5
  exact ⟨h1,h2,page,h5⟩
theorem PutRes.one {c:Ck} (h:PutRes w1 w0 w K sb rb ti tl n N a [c] L nx X p t id fresh) (hi:c.id=nameB p 0) (ht:c.text=t):fresh=false /\ id=c.id /\ Chs w1 w0 w K sb rb ti tl n N a [c] L nx X:=by
 rcases h with ⟨h1,k,d,-,h2,h,-,-,h5⟩ | ⟨-,k,page,C',-,-,-,-,h4,-⟩
 ·obtain ⟨rfl,h6⟩:=cAt_one_some h
  exact ⟨h1,h6.symm,h5⟩
 ·exact absurd ht (h4 0 (by decide) c (by rw [<- hi]; exact cAt_one))
end
set_option maxHeartbeats 4000000
def aB:ByteArray:=⟨#[97]⟩
theorem awake11_c (w:World):Calls Tryz.prog 13 #[] w fun e w'=>e=.returned (.bool true) /\ Hid (Below w.heap.size w w'):=by
 have WD:=Wide_c 3000 w (by decide) (by decide)
 rw [show ((3000:Nat):Int)=3000 from rfl] at WD
 go_enter Tryz.func13,Tryz.ntmps13
 go_wp2_with fail
 refine WD.mono ?_
 rintro e wb ⟨db,lb,FL,rfl,H1⟩
 clear WD
 go_wp2_with fail
 refine (Begin_c lb wb).mono ?_
 rintro e wc ⟨rfl,H2⟩
 have OF:=Of_c _ lb 3000 FL _ [] wc (chg_new H1.out H2.out) (by decide)
 go_wp2_with fail
 refine OF.mono ?_
 rintro e wd ⟨rb,G,rfl,H3⟩
 have NR:=Hd (NewRoom.of (w1:=w) (Below.refl _ _) H1.out H2.out H3.out)
 clear OF H1 H2 H3
 have AT:=At_k rb wd
 go_wp2_with fail
 refine AT.mono ?_
 rintro e we ⟨sb,ti,tl,rfl,HT⟩
 have M0:=Hd (Chs.start (N:=20) NR.out (by decide) (by decide) HT.out.1 HT.out.2.1 HT.out.2.2)
 clear NR HT AT
 have P1:=Put_k w we we (fun _=>False) sb rb ti tl 3000 20 0 0 [] [] [] aB M0 (by decide) (by decide) (by decide) (by decide) (fun c hc=>by cases hc)
 rw [show aB=⟨#[97]⟩ from rfl] at P1
 clear M0
 go_wp2_with fail
 refine P1.mono ?_
 rintro e w3 ⟨id,fresh,rfl,HP⟩
 obtain ⟨rfl,hid,page,HC⟩:=PutRes.empty HP.out
 have M1:=Hd HC
 have hsz:id.size=33:=by rw [hid,nameB_size,prB_size]
 have HI:=Hd hid
 clear HP HC P1 hid
 have P2:=Put_k w w3 we (fun _=>False) sb rb ti tl 3000 20 2 0 [⟨id,page,0,⟨#[97]⟩⟩] [] [(page,⟨#[97]⟩)] aB M1 (by decide) (by decide) (by decide) (show 1 <= 250 by decide) (fun c hc=>by simp at hc; subst hc; simp)
 rw [show aB=⟨#[97]⟩ from rfl] at P2
 clear M1
 go_wp2_with fail
 refine P2.mono ?_
 rintro e w4 ⟨id2,fresh,rfl,HP⟩
 obtain ⟨rfl,hid,HC⟩:=PutRes.one HP.out HI.out rfl
 obtain rfl:id2=id:=hid
 have M2:=Hd HC
 clear HP HC P2
 have AD:=Add_yes w w4 we (fun _=>False) sb rb ti tl 3000 20 2 0 [⟨id2,page,0,⟨#[97]⟩⟩] [] [(page,⟨#[97]⟩)] id2 true ⟨id2,page,0,⟨#[97]⟩⟩ M2 (by decide) hsz cAt_one
 rw [show byI true=1 from rfl] at AD
 clear M2
 go_wp2_with fail
 refine AD.mono ?_
 rintro e w5 ⟨rfl,M3⟩
 clear AD
 have MG:=Merge_k w w5 we (fun _=>False) sb rb ti tl 3000 20 3 1 [⟨id2,page,0,⟨#[97]⟩⟩] ([] ++ [Lg.mk 0 true id2]) [(page,⟨#[97]⟩)] 9 9 rfl (by decide) M3 (show 3 + 2 * 1 <= 20 /\ 20 <= 1000 by decide) (fun c hc=>by simp at hc; subst hc; exact ⟨by show (-1000000:Int) <= 0; decide,by show (0:Int) <= 1000000; decide⟩)
 have e9:(List.take 9 (([]:List Lg) ++ [(⟨0,true,id2⟩:Lg)])).length=1:=rfl
 rw [e9,show ((1:Nat):Int)=1 from rfl] at MG
 clear M3
 go_wp2_with fail
 refine MG.mono ?_
 rintro e w6 ⟨rfl,HM⟩
 have M4:Hid (Chs w we w6 (fun _=>False) sb rb ti tl 3000 20 5 [⟨id2,page,1,⟨#[97]⟩⟩] [] 1 [(page,⟨#[97]⟩)]):=Hd (by
  obtain ⟨C',h1,h2⟩:=HM.out
  have:=Mg.one h1 (fun e he=>by simp at he; subst he; rfl)
  rw [this] at h2
  simpa [Ck.add,pend,Lg.by] using h2)
 clear HM MG
 have CT:=Count_yes w w6 we (fun _=>False) sb rb ti tl 3000 20 5 1 [⟨id2,page,1,⟨#[97]⟩⟩] [] [(page,⟨#[97]⟩)] id2 ⟨id2,page,1,⟨#[97]⟩⟩ M4 (by decide) (by omega) cAt_one (by decide)
 simp only [pend] at CT
 clear M4
 go_wp2_with fail
 refine CT.mono ?_
 rintro e w7 ⟨rfl,M5⟩
 clear CT
 have GT:=Get_yes w w7 we (fun _=>False) sb rb ti tl 3000 20 5 1 [⟨id2,page,1,⟨#[97]⟩⟩] [] [(page,⟨#[97]⟩)] id2 ⟨id2,page,1,⟨#[97]⟩⟩ M5 (by decide) (by omega) cAt_one (by simp)
 simp only at GT
 have HB:Hid (∀ w8,Hid (Chs w we w8 (fun _=>False) sb rb ti tl 3000 20 5 [⟨id2,page,1,⟨#[97]⟩⟩] [] 1 [(page,⟨#[97]⟩)]) -> Below w.heap.size w w8):=Hd fun w8 h=>h.out.bel
 have hse:((id2.size:Int) == 33)=true:=by rw [hsz]; rfl
 clear M5 hsz
 go_wp2_with fail
 refine GT.mono ?_
 rintro e w8 ⟨rfl,M6⟩
 clear GT
 go_wp2_with fail
 go_ret
 exact ⟨rfl,Hd (HB.out _ M6)⟩
set_option maxHeartbeats 2000000
theorem wrap_up {k n:Nat} (h:k < n) (hn:n <= 9223372036854775807):wrap64 ((k:Int) + 1)=((k + 1:Nat):Int):=by
 have e:(k:Int) + 1=((k + 1:Nat):Int):=by push_cast; rfl
 rw [e]
 unfold wrap64; omega
theorem read_ck (c:Ck) (hc:c.Ok) (W:World):Calls Tryz.prog 88 #[.string ⟨#[104,98,110]⟩,.string c.val] W fun e w'=>∃ g k,W.heap.size <= g /\ e=.returned (.tuple #[.slice (some ⟨g,0,none⟩) 3 k,.bool true]) /\ (w'.cell? ⟨g,2,none⟩=some (.int .u64 (c.text.size:Int)) /\ w'.cell? ⟨g,4,none⟩=some (.int .u64 (sgn64 c.cnt:Int))) /\ Hid (Below W.heap.size W w'):=by
 have RC:=Read_cK kindsC c.val W (by decide) (by have:=Ck.val_size c; omega)
 rw [Ck.read hc] at RC
 refine RC.mono ?_
 intro e w' hp
 obtain ⟨v,rfl,ho,hbl⟩:=hp
 rcases ho.2 with ⟨rfl,h0⟩ | ⟨g,cap,cur,rfl,hbg,-⟩
 ·exact absurd h0 (by simp [Ck.flds])
 ·refine ⟨g,cap,hbg,rfl,?_,Hd hbl⟩
  have c:=fun i (hi:i < 6)=>ho.cellAt i (by simpa [Ck.flds] using hi)
  exact ⟨c 2 (by decide),c 4 (by decide)⟩
theorem infoC:(Tryz.prog.info? 106).map (fun i=>(i.zero,i.size,i.bytes))=some (some (.agg #[.string ⟨#[]⟩,.int .i64 0,.int .i64 0]),3,32):=by kernel_rfl
def chkC (C:List Ck):List Value:=C.flatMap fun c=>[.string c.id,.int .i64 (c.text.size:Int),.int .i64 c.cnt]
theorem chkC_snoc (T:List Ck) (c:Ck):chkC (T ++ [c])=chkC T ++ [.string c.id,.int .i64 (c.text.size:Int),.int .i64 c.cnt]:=by simp [chkC]
def AlRel (W0:World) (T:List Ck) (i:Nat) (v:Value) (wr:World):Prop:=wr.ownsRow W0.heap.size 106 3 v i (chkC (T.take i)) /\ Below W0.heap.size W0 wr
def AllEnd (w1 w w':World) (K:Nat -> Prop) (sb rb ti tl n N a:Nat) (C:List Ck) (L:List Lg) (nx:Nat) (X:List (Nat × ByteArray)) (v:Value):Prop :=
 w'.ownsRow 0 106 3 v C.length (chkC C) /\ Chs w1 w' w' (fun k=>K k \/ v.ownBlock=some k) sb rb ti tl n N a C L nx X /\ Kept K w w'
def IdxSc (w1 w w':World) (K:Nat -> Prop) (sb rb ti tl n N a:Nat) (C:List Ck) (L:List Lg) (nx:Nat) (X:List (Nat × ByteArray)) (v:Value):Prop :=
 w'.ownsRow (w.heap.size + 2) 170 2 v C.length (pairC (C.map encC)) /\ Chs w1 w' w' (fun k=>K k \/ (w.heap.size <= k /\ k < w'.heap.size)) sb rb ti tl n N a C L nx X /\ Kept K w w'
section
variable (w1 w w0:World) (K:Nat -> Prop) (sb rb ti tl n N a nx:Nat) (C:List Ck) (L:List Lg) (X:List (Nat × ByteArray))
theorem idx_scan (h:Hid (Chs w1 w0 w K sb rb ti tl n N a C L nx X)) (hN:a <= N /\ N <= 1000) (hL:C.length <= 1000000) :
 Calls Tryz.prog 87 #[.pointer (some ⟨ti,0,none⟩),.string ⟨#[]⟩,.string ⟨#[]⟩,.int .i64 33554432] w fun e w'=>∃ v,e=.returned (.tuple #[v,.int .i64 0]) /\ Hid (IdxSc w1 w w' K sb rb ti tl n N a C L nx X v):=by
 obtain ⟨S,o0,o1,h1,h2,h3,h4,h5⟩:=h.out
 have hl:(entsO o0).length=C.length:=by rw [h3.eq,List.length_map]
 have SC:=scan_g w1 w _ ti rb 0 n (300 * a) S o0 ⟨#[]⟩ ⟨#[]⟩ 33554432 h1.1.1 h1.1.2.2.1 (.inr (.inr (.inl rfl))) h2.t0 (by decide) (by omega) (by have:=h2.hgt0 (by omega); omega) (by omega) (by decide) (by decide)
 rw [from_nil,sRun_take 33554432 _ [] (Nat.zero_le _),List.nil_append,h3.eq,List.length_nil,Nat.sub_zero,<- List.map_take,List.take_of_length_le (by omega),List.length_map] at SC
 refine SC.mono ?_
 rintro e w' ⟨v,rfl,hE⟩
 obtain ⟨r1,r2,r3⟩:=hE.out
 have hg:=h1.1.of (r2.mono fun k hk=>.inl hk) r3
 refine ⟨v,rfl,Hd ⟨r1,⟨S,o0,o1,⟨⟨r2.mono fun k hk=>?_,hg.1.2⟩,fun _ _=>rfl⟩,h2,h3,h4,h5⟩,hg.2⟩⟩
 rcases hk with (hk | hk) | hk
 ·exact .inl (.inl hk)
 ·exact .inr hk
 ·exact .inl (.inr hk)
theorem All_k (h:Hid (Chs w1 w0 w K sb rb ti tl n N a C L nx X)) (hN:a <= N /\ N <= 1000) (hL:C.length <= 1000000) :
 Calls Tryz.prog 30 #[.pointer (some ⟨sb,0,none⟩)] w fun e w'=>∃ v,e=.returned (.tuple #[v,.int .i64 0]) /\ Hid (AllEnd w1 w w' K sb rb ti tl n N a C L nx X v):=by
 have SC:=idx_scan w1 w w0 K sb rb ti tl n N a nx C L X h hN hL
 have HOK:Hid (∀ c ∈ C,c.Ok):=Hd h.out.ok.1
 have HLEN:Hid (C.length <= 1000000):=Hd hL
 obtain ⟨s0,s1,s2⟩:=h.out.sbk.cells
 have HH:=Hd h.out.kept
 clear h hN hL
 go_enter Tryz.func30,Tryz.ntmps30
 go_wp2_with fail
 refine SC.mono ?_
 rintro e w4 ⟨v,rfl,HS⟩
 clear SC
 obtain ⟨va,vc,hv⟩:∃ va vc,v=.slice va C.length vc:=by
  rcases HS.out.1.2 with ⟨rfl,h0⟩ | ⟨g,cap,cur,rfl,-⟩
  ·exact ⟨_,_,by rw [h0]⟩
  ·exact ⟨_,_,rfl⟩
 subst hv
 have CE:Hid (∀ i (hi:i < C.length),∃ g,va=some ⟨g,0,none⟩ /\ g < w4.heap.size /\ w4.cell? ⟨g,i * 2,none⟩=some (.string C[i].id) /\ w4.cell? ⟨g,i * 2 + 1,none⟩=some (.string C[i].val)):=Hd fun i hi=>by
  have hr:=HS.out.1
  rcases hr.2 with ⟨e,h0⟩ | ⟨g,cap,cur,e,h1,h2,-⟩
  ·omega
  ·cases e
   have hl:i < (C.map encC).length:=by simpa using hi
   obtain ⟨x,y⟩:=pairK_get (C.map encC) i hl
   refine ⟨g,rfl,lt_of_heap h2,?_,?_⟩
   ·rw [hr.cellAt (i * 2) (by omega),x]; simp [encC]
   ·rw [hr.cellAt (i * 2 + 1) (by omega),y]; simp [encC]
 have R0:Hid (AlRel w4 C 0 (.slice none 0 0) w4):=Hd ⟨World.ownsRow_nil _ _ _ _,Below.refl _ _⟩
 have HEND:Hid (∀ v w',AlRel w4 C C.length v w' -> AllEnd w1 w w' K sb rb ti tl n N a C L nx X v):=Hd fun v w' hr=>by
  obtain ⟨h1,h2⟩:=hr
  rw [List.take_length] at h1
  obtain ⟨g1,g2⟩:=HS.out.2
  have hm:=g1.mono (K':=K) fun k hk=>.inl hk
  have hb:Chs w1 w' w' (fun k=>K k \/ v.ownBlock=some k) sb rb ti tl n N a C L nx X:=by
   obtain ⟨S,o0,o1,x1,x2⟩:=hm
   refine ⟨S,o0,o1,⟨(x1.1.belowK h2).1.mono fun k hk=>hk.imp id fun hk=>h1.lt k hk,fun _ _=>rfl⟩,x2⟩
  exact ⟨own_le h1 (Nat.zero_le _),hb,g2.trans (hm.keep h2)⟩
 obtain ⟨jE,hjE,hE0,hE1,hE2⟩:=info_parts infoC
 go_wp2_with fail
 go_loopg [6,8,9,10,26] C.length (fun g s6 s8 s9 s10 s26 wr=>∃ (i:Nat) (sv:Value),g=C.length - i /\ i <= C.length /\ s26=.int .i64 (i:Int) /\ sv=s6 /\ Hid (AlRel w4 C i sv wr))
 case atStart=>exact ⟨0,_,rfl,Nat.zero_le _,rfl,rfl,R0⟩
 case round =>
  obtain ⟨i,sv,rfl,hi,rfl,rfl,HR⟩:=hrel
  clear R0
  by_cases hlt:i < C.length
  ·obtain ⟨g,rfl,hg,c0,c1⟩:=CE.out i hlt
   have hbl:=HR.out.2
   have d0:wr.cell? ⟨g,i * 2,none⟩=some (.string C[i].id):=(hbl.cell (p:=⟨g,i * 2,none⟩) hg).trans c0
   have d1:wr.cell? ⟨g,i * 2 + 1,none⟩=some (.string C[i].val):=(hbl.cell (p:=⟨g,i * 2 + 1,none⟩) hg).trans c1
   have hok:=HOK.out C[i] (List.getElem_mem hlt)
   have RD:=fun W=>read_ck C[i] hok W
   have HSTEP:Hid (∀ v' W5,W5.ownsRow w4.heap.size 106 3 v' (i + 1) (chkC (C.take i) ++ [.string C[i].id,.int .i64 (C[i].text.size:Int),.int .i64 C[i].cnt]) -> Below w4.heap.size w4 W5 -> AlRel w4 C (i + 1) v' W5):=Hd fun v' W5 ho hb=>by
    refine ⟨?_,hb⟩
    rw [List.take_succ_eq_append_getElem hlt,chkC_snoc]
    exact ho
   have u0:IntKind.i64.wrap ((C[i].text.size:Nat):Int)=((C[i].text.size:Nat):Int):=wrap_sgn (by omega) (by have:=hok.t2; omega)
   have u1:IntKind.i64.wrap (sgn64 C[i].cnt:Int)=C[i].cnt:=sgn64_back _ (by have:=hok.c1; omega) (by have:=hok.c2; omega)
   have HLT:=Hd hlt
   have hl64:i <= 1000000:=by have:=HLEN.out; omega
   clear c0 c1 hok hi
   have HL:Hid (i + 1 <= maxLen /\ (i + 1) * 32 <= 140737488355328):=Hd (by unfold maxLen; omega)
   generalize C[i].val=vl at *
   generalize C[i].id=ky at *
   generalize C[i].text.size=z1 at *
   generalize sgn64 C[i].cnt=z2 at *
   generalize C[i].cnt=z3 at *
   clear hlt hbl
   go_wp2_with fail
   refine (RD _).mono ?_
   rintro e w6 ⟨gf,kf,hgf,rfl,⟨f2,f4⟩,hb6⟩
   have hbp:w6.cell? ⟨wr.heap.size,0,none⟩=some (.string ky):=cell_lit ((hb6.out.block wr.heap.size (by simp)).trans (heap_alloc_new wr _)) rfl
   have hb7:Below wr.heap.size wr w6:=((Below.refl wr.heap.size wr).alloc (Nat.le_refl _) _).trans (hb6.out.mono (by simp))
   have HB6:Hid (Below w4.heap.size w4 w6.drew):=Hd (HR.out.2.trans (hb7.drew.mono HR.out.2.size))
   have HOD:Hid (w6.drew.ownsRow w4.heap.size 106 3 sv i (chkC (C.take i))):=Hd (ownsRow_upd HR.out.1 (hb7.drew.upd' (Nat.le_refl _)) (fun _ _ e=>e))
   have HBX:Hid (∀ o,w4.heap.size <= (w6.drew.alloc o).heap.size):=Hd fun o=>by have:=HB6.out.size; simp at this ⊢; omega
   have CK:Hid (∀ o W5,(w6.drew.alloc o).grownBy W5 sv.ownBlock -> W5.cell? ⟨wr.heap.size,0,none⟩=some (.string ky) /\ W5.cell? ⟨gf,2,none⟩=some (.int .u64 (z1:Int)) /\ W5.cell? ⟨gf,4,none⟩=some (.int .u64 (z2:Int))):=Hd fun o W5 hg=>by
    have q:∀ b i v,wr.heap.size <= b -> w6.cell? ⟨b,i,none⟩=some v -> W5.cell? ⟨b,i,none⟩=some v:=fun b i v hb hc=>by
     have hbb:Below w6.heap.size w6 (w6.drew.alloc o):=((Below.refl w6.heap.size w6).drew).alloc (Nat.le_refl _) _
     refine hg.cell ((hbb.cell (p:=⟨b,i,none⟩) (World.block_lt_of_cell? w6 _ hc)).trans hc) fun e=>?_
     have:=HR.out.1.lt b e.symm
     omega
    have hgf':wr.heap.size <= gf:=by simp at hgf; omega
    exact ⟨q _ _ _ (Nat.le_refl _) hbp,q _ _ _ hgf' f2,q _ _ _ hgf' f4⟩
   clear hb6 hb7 RD d0 d1 hgf
   go_wp2_with fail
   go_region_held3 (fun w'=>w'.cell? ⟨wr.heap.size,0,none⟩=some (.string ky) /\ w'.cell? ⟨gf,2,none⟩=some (.int .u64 (z1:Int)) /\ w'.cell? ⟨gf,4,none⟩=some (.int .u64 (z2:Int))) (go_keep) ((first
    | (refine step_append_y (by rfl) _ _ _ (by rfl) w4.heap.size 106 jE _ 3 32 Tryz.underlying68 hjE hE0 hE1 hE2 rfl (by decide) _ _ _ (by rfl) (HOD.out.alloc _) _ 1 _ (by rfl) (yields_boxL _ #[.string ky,.int .i64 (z1:Int),.int .i64 z3] _ 1 1) rfl (one3 _ _ _ rfl rfl rfl) HL.out.1 HL.out.2 (HBX.out _) ?_
       intro v5 W5 ho5 hg5 ha5
       have HN5:=Hd (HSTEP.out v5 W5 ho5 ((HB6.out.alloc HB6.out.size _).grown hg5 (HBX.out _) (fun k e=>(HOD.out.lt k e).1)))
       obtain ⟨k0,k1,k2⟩:=CK.out _ W5 hg5
       clear ho5 hg5 ha5)))
   all_goals go_wp2_with fail
   all_goals go_roundg (C.length - (i + 1))
   all_goals (first
    | (case measure=>have:=HLT.out; omega)
    | (case rel=>exact ⟨i + 1,_,rfl,HLT.out,by congr 1,rfl,HN5⟩))
  ·obtain rfl:i=C.length:=by omega
   have HE:=Hd (HEND.out _ _ HR.out)
   clear hlt hi
   go_wp2_with fail
   go_ret2
   exact ⟨_,rfl,HE⟩
end
open Go.RowKit Go.MapKept
section
variable {κ α:Type} [DecidableEq κ] {K:KEnc κ} {V:α -> Value} {w:World} {r it:Nat} {m left:List (κ × α)}
end
end Go.Proofs.YtdcjhpafipbpkaaGreatDoor
