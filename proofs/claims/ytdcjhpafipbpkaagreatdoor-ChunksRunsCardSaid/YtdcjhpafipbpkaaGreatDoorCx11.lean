/- Parts of the proof of ChunksRuns,joined: MapEb,MapF,MapG,MapH,MapI,MapJ,MapK,ManyA. No condition. -/
import Derived.Test.YtdcjhpafipbpkaaGreatDoorCx10
import Derived.Sort.OwnSortedInts
set_option linter.unusedSimpArgs false
set_option linter.unusedVariables false
set_option linter.unusedSectionVars false
namespace Go.Proofs.YtdcjhpafipbpkaaGreatDoor
set_option maxRecDepth 100000
set_option maxHeartbeats 20000000
open Go.RowKit
theorem geq_of {k tt:ByteArray} (h:kless k tt=false):Op.bytesLess k.toList tt.toList=false /\ (Op.bytesLess tt.toList k.toList=true \/ (Op.bytesLess tt.toList k.toList=false /\ (k.toList == tt.toList)=true /\ (tt.toList == k.toList)=true /\ (k.toList=tt.toList)=True /\ (tt.toList=k.toList)=True)):=by
 refine ⟨h,?_⟩
 cases g:kless tt k with
 | true=>exact .inl g
 | false =>
   have e:tt=k:=kless_total g h
   subst e
   exact .inr ⟨g,by simp⟩
theorem geq_no {k tt:ByteArray} (h:kless k tt=true):Op.bytesLess k.toList tt.toList=true /\ Op.bytesLess tt.toList k.toList=false /\ (k.toList == tt.toList)=false /\ (tt.toList == k.toList)=false /\ (¬ k.toList=tt.toList /\ ¬ tt.toList=k.toList):=by
 have h1:kless tt k=false:=kless_asymm h
 have h2:k.toList ≠ tt.toList:=fun e=>by
  have:Op.bytesLess k.toList tt.toList=true:=h
  rw [e] at this
  have h3:kless tt tt=true:=this
  rw [kless_irrefl] at h3; cases h3
 exact ⟨h,h1,by simpa using h2,by simpa using fun e=>h2 e.symm,h2,fun e=>h2 e.symm⟩
theorem scan_leaf2 (w0 W:World) (G:Nat -> Prop) (tb rb place n m:Nat) (S:RS) (p:Nat) (t:PT 0) (frm tt:ByteArray) (limit lb deep base:Nat) (L:List (ByteArray × ByteArray)) (v:Value) (hB:TBase w0 W G G tb rb place n m S) (hA:Acc base W lb L v) (hl:w0.heap.size <= lb) (hb:w0.heap.size <= base) (hbW:base <= W.heap.size) (hG:∀ k,G k -> k < w0.heap.size) (hT:Tr S 0 p t) (hd:deep <= 20) (hm:m <= 3900000) (hcap:L.length + (ents 0 t).length <= 40000000) (hlim:limit <= 9223372036854775807) (htt:tt.size ≠ 0) :
 Calls Tryz.prog 142 #[.pointer (some ⟨tb,0,none⟩),.int .i64 (p:Int),.string frm,.string tt,.int .i64 (limit:Int),.pointer (some ⟨lb,0,none⟩),.int .i64 (deep:Int)] W fun e w'=>∃ ok,e=.returned (.bool ok) /\ Hid (ScanEnd base W w' lb v frm tt limit (ents 0 t) L ok):=by
 have hnot:∀ (x:Bool) (w:World),(Op.unary .not (.bool x)).run Tryz.prog w=.ok (.bool (!x)) w:=fun _ _=>rfl
 have RD:=Hd (tail_read hB (by omega) hT.on hT.fit hT.ok)
 have hd1:¬ (20:Int) < (deep:Int):=by omega
 obtain ⟨A,B,rfl,hA1,hB1,-⟩:=lb_split t frm hT.wf.srt
 have HF:Hid (from_ frm (ents 0 (A ++ B))=B):=Hd (by
  show from_ frm (A ++ B)=B
  rw [from_app,from_none hA1,from_all hB1,List.nil_append])
 have hpos:0 < (A ++ B).length:=by have:=hT.pos; rw [nd_len0] at this; exact this
 have hl6:(Nd.leaf (A ++ B)).len <= 1000000:=Nat.le_of_lt (Nat.lt_trans hT.ok.few (by decide))
 have hlab:(A ++ B).length <= 65536:=by have:=hT.ok.few; rw [nd_len0] at this; exact Nat.le_of_lt this
 have HTH:∃ there:Bool,there=true ↔ ∃ B',B.map Prod.fst=frm :: B':=by
  by_cases h:∃ B',B.map Prod.fst=frm :: B'
  ·exact ⟨true,⟨fun _=>h,fun _=>rfl⟩⟩
  ·exact ⟨false,⟨(fun e=>by cases e),fun e=>absurd e h⟩⟩
 obtain ⟨there,hth⟩:=HTH
 have FD:Hid (∀ W' q,RdN w0 W' G q (nd 0 (A ++ B)) -> Calls Tryz.prog 165 #[.pointer (some ⟨q,0,none⟩),.string frm] W' fun e w'=>e=.returned (.tuple #[.int .i64 (A.length:Nat),.bool there]) /\ ∃ q,w'=W'.drewN q):=Hd fun W' q hr=>by
  obtain ⟨vk,vv,vi,hv⟩:=hr.view
  have:=find_c there q (.leaf (A ++ B)) vk vv vi (A.map Prod.fst) (B.map Prod.fst) frm W' hv (by simp [Nd.keys]) hT.pos hl6 (fun a ha=>by obtain ⟨e,he,rfl⟩:=List.mem_map.1 ha; exact hA1 e he) (fun b hb=>by obtain ⟨e,he,rfl⟩:=List.mem_map.1 hb; exact hB1 e he) hth
  rw [List.length_map] at this; exact this
 have HB:=Hd hB
 have HAcc:=Hd hA
 have HG:=Hd hG
 have HLB:Hid (lb < W.heap.size):=Hd (lt_of_heap hA.blk)
 have HCAP:=Hd hcap
 have HBW:=Hd hbW
 have HBB:=Hd hb
 clear hB hA hG hT hA1 hB1 hm hcap hth hl6 hd hbW hb
 go_enter Tryz.func142,Tryz.ntmps142
 go_wp2_with fail
 refine RD.out.mono ?_
 rintro e w3 ⟨q,rfl,HO⟩
 have N3:Hid (RdN w0 w3 G q (nd 0 (A ++ B))):=Hd (HO.out.rdN HB.out.up.size HB.out.room.lt)
 have HFN:Hid (∀ k,w3.heap.size <= k -> W.heap.size <= k):=Hd fun k hk=>Nat.le_trans HO.out.below.size hk
 have FD3:=Hd (FD.out w3 q N3.out)
 obtain ⟨vk,vv,vi,hv⟩:=N3.out.view
 have c0:w3.cell? ⟨q,0,none⟩=some (.bool true):=cell_lit hv.blk rfl
 have HO2:=HO
 clear RD FD hv
 go_wp2_with fail
 refine FD3.out.mono ?_
 rintro e w4 ⟨rfl,qn,rfl⟩
 have HO4:Hid (∃ F,IsNd (w3.drewN qn) F q (nd 0 (A ++ B)) /\ ∀ k,F k -> W.heap.size <= k):=Hd (by
  obtain ⟨F,a,b,c⟩:=HO2.out
  exact ⟨F,a.below (drewN_below w3 qn) (Nat.le_refl _),b⟩)
 have A4:=Hd ((HAcc.out.below HO2.out.below).below (drewN_below w3 qn))
 have BL4:Hid (Below W.heap.size W (w3.drewN qn)):=Hd (HO2.out.below.trans (Below.drewN (Below.refl _ _) qn))
 generalize w3.drewN qn=w4 at *
 clear FD3 N3 HO HO2 c0
 go_wp2_with fail
 go_loopg [18] B.length (fun gg s18 wr=>∃ (j:Nat),gg=B.length - j /\ j <= B.length /\ s18=.int .i64 ((A.length + j:Nat):Int) /\ Hid (∃ Lj vj,sRun tt limit (B.take j) L=(Lj,true) /\ Lj.length <= L.length + j /\ Acc base wr lb Lj vj /\ (∀ k,vj.ownBlock=some k -> v.ownBlock=some k \/ w4.heap.size <= k) /\ Upd (fun k=>k=lb \/ v.ownBlock=some k) w4 wr))
 case atStart=>exact ⟨0,rfl,Nat.zero_le _,rfl,Hd ⟨L,v,by simp [sRun],Nat.le_refl _,A4.out,fun k e=>.inl e,Upd.refl _ _⟩⟩
 case round =>
  obtain ⟨j,hgk,hj,rfl,HI⟩:=hrel
  obtain ⟨Lj,vj,hs,hll,ha,hn,hu⟩:=HI.out
  obtain ⟨F5,f1,f2⟩:=HO4.out
  have N5:RdIn wr q (.leaf (A ++ B)) F5:=(f1.upd hu fun k hk e=>by
   have:=f2 k hk
   rcases e with e | e
   ·have:=HLB.out; omega
   ·have:=(HAcc.out.row.lt k e).2; omega).rdIn
  have HF5:Hid (∀ k,F5 k -> W.heap.size <= k /\ k < w4.heap.size):=Hd fun k hk=>⟨f2 k hk,f1.lt k hk⟩
  obtain ⟨g1,o1,c1,g2,o2,c2,k1,k2,hFF,kc⟩:=leaf_cells N5 hpos
  have HFF:=Hd hFF
  clear hFF f1 f2
  obtain ⟨la,lc,hvj⟩:∃ a c,vj=.slice a Lj.length c:=by
   rcases ha.row.2 with ⟨rfl,h0⟩ | ⟨g,cap,cur,rfl,-⟩
   ·exact ⟨none,0,by rw [h0]⟩
   ·exact ⟨_,_,rfl⟩
  subst hvj
  have m0:wr.cell? ⟨lb,0,none⟩=some (.slice la Lj.length lc):=cell_lit ha.blk rfl
  have m1:wr.frozen? ⟨lb,0,none⟩=false:=frozen_lit ha.blk 0
  have hlbl:=lt_of_heap ha.blk
  by_cases hjl:j < B.length
  ·obtain ⟨kx,ky⟩:=kc (A.length + j) (by simp; omega)
   rw [List.getElem_append_right (by omega)] at kx ky
   simp only [Nat.add_sub_cancel_left] at kx ky
   have hlt:((A.length + j:Nat):Int) < (((A ++ B).length:Nat):Int):=by simp; omega
   have hixb:A.length + j <= 65536:=by simp at hlab; omega
   obtain ⟨LN,hLN⟩:=exE (Lj.length)
   obtain ⟨e,he⟩:=exE (B[j])
   have HE:Hid (B[j]?=some e):=Hd (by rw [List.getElem?_eq_getElem hjl,he])
   rw [he] at kx ky
   rw [hLN] at m0
   have HLN:=Hd hLN
   have HJ:=Hd hj
   have HJL:=Hd hjl
   have HS:=Hd hs
   have HLL:=Hd hll
   have HA2:=Hd ha
   have HN2:=Hd hn
   have HU2:=Hd hu
   have QC:Hid (∀ W5,Upd (fun k=>k=lb \/ (Value.slice la Lj.length lc).ownBlock=some k) wr W5 -> W5.cell? ⟨q,1,none⟩=some (.slice (some ⟨g1,o1,none⟩) (A ++ B).length c1) /\ W5.cell? ⟨q,2,none⟩=some (.slice (some ⟨g2,o2,none⟩) (A ++ B).length c2) /\ W5.cell? ⟨g1,o1 + (A.length + j),none⟩=some (.string e.1) /\ W5.cell? ⟨g2,o2 + (A.length + j),none⟩=some (.string e.2)):=Hd fun W5 hU5=>by
    have nn:∀ k,F5 k -> k < wr.heap.size -> W5.heap[k]?=wr.heap[k]?:=fun k hk hlt=>hU5.block k hlt fun e=>by
     obtain ⟨h1,h2⟩:=HF5.out k hk
     rcases e with e | e
     ·have:=HLB.out; omega
     ·rcases hn k e with e | e
      ·have:=(HAcc.out.row.lt k e).2; omega
      ·omega
    exact ⟨(World.cell?_of_block (nn q HFF.out.1 (World.block_lt_of_cell? _ _ k1))).trans k1,(World.cell?_of_block (nn q HFF.out.1 (World.block_lt_of_cell? _ _ k2))).trans k2,(World.cell?_of_block (nn g1 HFF.out.2.1 (World.block_lt_of_cell? _ _ kx))).trans kx,(World.cell?_of_block (nn g2 HFF.out.2.2 (World.block_lt_of_cell? _ _ ky))).trans ky⟩
   have HGK:=Hd hgk
   clear kc
   obtain ⟨ix,hix⟩:=exE (A.length + j)
   have HIX:=Hd hix
   rw [hix] at kx ky hlt hixb QC ⊢
   clear hix
   generalize (A ++ B).length=NN at *
   clear hj hjl hs hll ha hn hu N5 hgk he hLN HI hlab hpos
   have hb':B=B.take j ++ e :: B.drop (j + 1):=by
    have h1:=HE.out
    obtain ⟨h2,h3⟩:=List.getElem?_eq_some_iff.1 h1
    rw [<- h3]; exact (List.take_append_drop j B).symm.trans (by rw [List.drop_eq_getElem_cons h2])
   have HSTOP:Hid (LN=limit \/ (tt.size ≠ 0 /\ kless e.1 tt=false) -> ScanEnd base W wr lb v frm tt limit (ents 0 (A ++ B)) L false):=Hd fun hst=>by
    refine ⟨Lj,?_,(AccGo.below_left BL4.out ⟨⟨_,HA2.out,HN2.out⟩,HU2.out⟩)⟩
    rw [HF.out,hb',sRun_true HS.out,sRun_cons,if_pos (by rw [HLN.out]; exact hst)]
   have HGO:Hid (¬ (LN=limit \/ (tt.size ≠ 0 /\ kless e.1 tt=false)) -> sRun tt limit (B.take (j + 1)) L=(Lj ++ [e],true)):=Hd fun hst=>by
    have h1:=HE.out
    obtain ⟨h2,h3⟩:=List.getElem?_eq_some_iff.1 h1
    rw [List.take_succ_eq_append_getElem h2,h3,sRun_true HS.out,sRun_cons,if_neg (by rw [HLN.out]; exact hst)]; rfl
   have hfew:LN + 1 <= 40000000:=by
    have h1:=HLL.out
    have h2:=HCAP.out
    have h3:(ents 0 (A ++ B)).length=(A ++ B).length:=rfl
    have h4:=HJL.out
    rw [HLN.out] at h1
    rw [h3,List.length_append] at h2; omega
   clear hb'
   have htl:tt.toList=[] ↔ tt.size=0:=by rw [Lib.toList_data,Lib.size_eq]; exact List.length_eq_zero_iff.symm
   by_cases hst:LN=limit \/ (tt.size ≠ 0 /\ kless e.1 tt=false)
   ·have HE2:=Hd (HSTOP.out hst)
    by_cases hc1:LN=limit
    ·have q1:((LN:Int) == (limit:Int))=true:=by simp; omega
     clear HSTOP HGO hfew htl hst htt
     go_wp2_with fail
     all_goals (go_ret; exact ⟨false,rfl,HE2⟩)
    ·have hc2:kless e.1 tt=false:=by rcases hst with h | ⟨-,h⟩; exact absurd h hc1; exact h
     have q1:((LN:Int) == (limit:Int))=false:=by simp; omega
     have q0:tt.toList.isEmpty=false:=by cases h:tt.toList with | nil=>exact absurd (htl.1 h) htt | cons a r=>rfl
     obtain ⟨r1,r2⟩:=geq_of hc2
     clear HSTOP HGO hfew htl hst htt hc1 hc2
     rcases r2 with r2 | ⟨r2,r3,r4,r5,r6⟩
     ·go_wp2_with fail
      all_goals (go_ret; exact ⟨false,rfl,HE2⟩)
     ·go_wp2_with fail
      all_goals (go_ret; exact ⟨false,rfl,HE2⟩)
   ·have HR:=Hd (HGO.out hst)
    have q1:((LN:Int) == (limit:Int))=false:=by simp; exact fun h=>hst (.inl (by omega))
    have q0:tt.toList.isEmpty=false:=by cases h:tt.toList with | nil=>exact absurd (htl.1 h) htt | cons a r=>rfl
    have hc2:kless e.1 tt=true:=by
     cases h:kless e.1 tt with
     | true=>rfl
     | false=>exact absurd (.inr ⟨htt,h⟩) hst
    obtain ⟨r1,r2,r3,r4,r5⟩:=geq_no hc2
    obtain ⟨jP,hjP,hP0,hP1,hP2⟩:=info_parts infoP
    have hdr:=(Below.refl wr.heap.size wr).drew
    have AD:=Hd (HA2.out.below hdr)
    have UD:=Hd (HU2.out.trans' (hdr.upd' (Nat.le_refl _)) fun _ _ e=>False.elim e)
    have HBS:Hid (base <= wr.drew.heap.size):=Hd (by
     have h1:=HU2.out.size; have h2:=BL4.out.size; have h3:=HBW.out
     show base <= wr.heap.size; omega)
    have d0:wr.drew.cell? ⟨lb,0,none⟩=some (.slice la Lj.length lc):=by rw [<- HLN.out] at m0; exact m0
    have dl:lb < wr.drew.heap.size:=hlbl
    have HN5':Hid (wr.drew.heap.size=wr.heap.size):=Hd rfl
    have HFEW:Hid (Lj.length + 1 <= maxLen /\ (Lj.length + 1) * 32 <= 140737488355328 /\ Lj.length + 1 <= 40000000):=Hd (by have:=HLN.out; unfold maxLen; omega)
    clear HSTOP HGO htl hst hfew htt hc2
    rw [<- HLN.out] at m0 q1
    have w1:IntKind.i64.wrap ((ix:Int) + 1)=(ix:Int) + 1:=wrap_small (by omega) (by omega)
    go_wp2_with fail
    all_goals (
     have AW:=Hd (HA2.out.below (((Below.refl wr.heap.size wr).alloc (Nat.le_refl _) (.cells #[.string e.1,.string e.2] 170)).drew))
     have hbW:Below wr.heap.size wr ((wr.alloc (.cells #[.string e.1,.string e.2] 170)).drew):=((Below.refl wr.heap.size wr).alloc (Nat.le_refl _) _).drew
     go_region_law ((first
      | (refine step_append_y (by rfl) _ _ _ (by rfl) base 170 jP _ 2 32 Tryz.underlying166 hjP hP0 hP1 hP2 rfl (by decide) _ _ _ (by rfl) AW.out.row _ 1 _ (by rfl) (show Yields ((wr.alloc (.cells #[.string e.1,.string e.2] 170)).drew) (.slice (some ⟨wr.heap.size,0,none⟩) 1 1) 1 [.string e.1,.string e.2] from yields_boxL wr #[.string e.1,.string e.2] 170 1 1) rfl (one2 _ _ rfl rfl) HFEW.out.1 HFEW.out.2.1 (by have:=HBS.out; show base <= (wr.alloc _).heap.size; rw [World.size_alloc]; have:=HN5'.out; omega) ?_
         intro v5 W5 ho5 hg5 ha5
         have PU:=Hd (acc_push (e:=e) HA2.out (((Below.refl wr.heap.size wr).alloc (Nat.le_refl _) (.cells #[.string e.1,.string e.2] 170)).drew) ho5 hg5 ha5 HFEW.out.2.2)
         obtain ⟨xa,xm,xc,rfl⟩:∃ a b c,v5=.slice a b c:=by
          rcases ho5.2 with ⟨rfl,_⟩ | ⟨g,cap,cur,rfl,_⟩
          ·exact ⟨_,_,_,rfl⟩
          ·exact ⟨_,_,_,rfl⟩
         have p0:=PU.out.1.1
         have p1:=PU.out.1.2
         clear ho5 hg5 ha5)))
     all_goals (
      go_wp2_with fail
      go_roundg (B.length - (j + 1))))
    all_goals (first
     | (case measure=>have:=HGK.out; have:=HJL.out; omega)
     | (case rel =>
         refine ⟨j + 1,rfl,HJL.out,by have:=HIX.out; congr 1; omega,Hd ⟨Lj ++ [e],_,HR.out,by have:=HLL.out; simp; omega,PU.out.2.1,fun k hk=>?_,HU2.out.trans' PU.out.2.2.2 fun k hk e=>?_⟩⟩
         ·rcases PU.out.2.2.1 k hk with e | e
          ·exact HN2.out k e
          ·have:=HU2.out.size; have:=HN5'.out; exact .inr (by omega)
         ·rcases e with e | e
          ·exact .inl e
          ·exact .inr ((HN2.out k e).resolve_right (by omega))))
  ·obtain rfl:j=B.length:=by omega
   rw [List.take_length] at hs
   have HE2:Hid (ScanEnd base W wr lb v frm tt limit (ents 0 (A ++ B)) L true):=Hd ⟨Lj,by rw [HF.out]; exact hs,AccGo.below_left BL4.out ⟨⟨_,ha,hn⟩,hu⟩⟩
   have hlt:¬ ((A.length + B.length:Nat):Int) < (((A ++ B).length:Nat):Int):=by simp
   clear kc
   generalize (A ++ B).length=NN at *
   clear HI ha hn hu N5 hgk
   clear hs hll
   go_wp2_with fail
   go_ret
   first | exact ⟨true,rfl,HE2⟩ | exact .inr ⟨rfl,HE2⟩
set_option maxHeartbeats 1000000
theorem kids_sl {W:World} {F:Nat -> Prop} {q:Nat} {l:List (ByteArray × Nat)} (h:RdIn W q (.inner l) F) (hp:0 < l.length) :
 ∃ g o c,W.cell? ⟨q,3,none⟩=some (.slice (some ⟨g,o,none⟩) l.length c) /\ l.length <= c /\ (F q /\ F g) /\ ∀ i (hi:i < l.length),W.cell? ⟨g,o + i,none⟩=some (.int .i64 (l[i].2:Int)):=by
 obtain ⟨vk,vv,vi,a,b⟩:=h
 obtain ⟨g2,o2,c2,e2,h2,k2⟩:=a.is.lit (by simpa [Nd.kids] using hp)
 subst e2
 refine ⟨g2,o2,c2,?_,by simpa [Nd.kids] using h2,⟨(b q (.inl rfl)).2,(b g2 (.inr (.inr (.inr rfl)))).2⟩,fun i hi=>?_⟩
 ·have:=cell_lit (i:=3) a.blk rfl
  simpa [Nd.kids] using this
 ·have:=k2 i (by simpa [Nd.kids] using hi)
  rw [this]; simp [Nd.kids]
theorem from_len (key:ByteArray) (E:List (ByteArray × ByteArray)):(from_ key E).length <= E.length:=List.length_filter_le _ _
theorem scan_c:∀ (h:Nat) (w0 W:World) (G:Nat -> Prop) (tb rb place n m:Nat) (S:RS) (p:Nat) (t:PT h) (frm tt:ByteArray) (limit lb deep base:Nat) (L:List (ByteArray × ByteArray)) (v:Value) (_:TBase w0 W G G tb rb place n m S) (_:Acc base W lb L v) (_:w0.heap.size <= lb) (_:w0.heap.size <= base) (_:base <= W.heap.size) (_:∀ k,G k -> k < w0.heap.size) (_:Tr S h p t) (_:deep + h <= 20) (_:m <= 3900000) (_:L.length + (ents h t).length <= 40000000) (_:limit <= 9223372036854775807),
 Calls Tryz.prog 142 #[.pointer (some ⟨tb,0,none⟩),.int .i64 (p:Int),.string frm,.string tt,.int .i64 (limit:Int),.pointer (some ⟨lb,0,none⟩),.int .i64 (deep:Int)] W fun e w'=>∃ ok,e=.returned (.bool ok) /\ Hid (ScanEnd base W w' lb v frm tt limit (ents h t) L ok)
 | 0,w0,W,G,tb,rb,place,n,m,S,p,t,frm,tt,limit,lb,deep,base,L,v,hB,hA,hl,hb,hbW,hG,hT,hd,hm,hcap,hlim=>by
   by_cases htt:tt.size=0
   ·exact scan_leaf w0 W G tb rb place n m S p t frm tt limit lb deep base L v hB hA hl hb hbW hG hT (by omega) hm hcap hlim htt
   ·exact scan_leaf2 w0 W G tb rb place n m S p t frm tt limit lb deep base L v hB hA hl hb hbW hG hT (by omega) hm hcap hlim htt
 | hh + 1,w0,W,G,tb,rb,place,n,m,S,p,t,frm,tt,limit,lb,deep,base,L,v,hB,hA,hl,hb,hbW,hG,hT,hd,hm,hcap,hlim=>by
   have hnot:∀ (x:Bool) (w:World),(Op.unary .not (.bool x)).run Tryz.prog w=.ok (.bool (!x)) w:=fun _ _=>rfl
   have RD:=Hd (tail_read hB (by omega) hT.on hT.fit hT.ok)
   have hd1:¬ (20:Int) < (deep:Int):=by omega
   have hd2:deep <= 20:=by omega
   have hpos:=hT.pos
   rw [nd_lenS] at hpos
   obtain ⟨A,x,B,rfl,hW,hAx⟩:=way_split t frm (hT.wf.2.keys fun x hx=>ents_pos (hT.wf.1 x hx).2.2.2.2 (hT.wf.1 x hx).2.2.1) hpos
   have hlen:(nd (hh + 1) (A ++ x :: B:List (Kid hh))).len <= 1000000:=Nat.le_of_lt (Nat.lt_trans hT.ok.few (by decide))
   have hfew:=hT.ok.few
   rw [nd_lenS] at hfew
   have hK:∀ y ∈ x :: B,Tr S hh y.2.1 y.2.2:=fun y hy=>hT.kid (x:=y) (by simp at hy ⊢; exact .inr hy)
   have HF:Hid (from_ frm (ents (hh + 1) (A ++ x :: B:List (Kid hh)))=from_ frm (ents (hh + 1) (x :: B:List (Kid hh)))):=Hd (by
    obtain ⟨w1,w2⟩:=hT.wf.2.way hW
    rw [ents_app,from_app,from_none (fun e he=>by obtain ⟨y,hy,he⟩:=(ents_mem hh A e).1 he; exact w1 y hy e he),List.nil_append])
   have HCE:Hid (L.length + (ents (hh + 1) (x :: B:List (Kid hh))).length <= 40000000):=Hd (by
    rw [ents_app,List.length_append] at hcap; omega)
   have IH:Hid (∀ wr Lj vj,∀ y ∈ x :: B,TBase w0 wr G G tb rb place n m S -> Acc base wr lb Lj vj -> base <= wr.heap.size -> Lj.length + (ents hh y.2.2).length <= 40000000 -> Calls Tryz.prog 142 #[.pointer (some ⟨tb,0,none⟩),.int .i64 (y.2.1:Int),.string frm,.string tt,.int .i64 (limit:Int),.pointer (some ⟨lb,0,none⟩),.int .i64 ((deep:Int) + 1)] wr fun e w'=>∃ ok,e=.returned (.bool ok) /\ Hid (ScanEnd base wr w' lb vj frm tt limit (ents hh y.2.2) Lj ok)):=Hd fun wr Lj vj y hy hb1 ha1 hbw1 hc1=>by
    have:=scan_c hh w0 wr G tb rb place n m S y.2.1 y.2.2 frm tt limit lb (deep + 1) base Lj vj hb1 ha1 hl hb hbw1 hG (hK y hy) (by omega) hm hc1 hlim
    rw [show ((deep + 1:Nat):Int)=(deep:Int) + 1 by omega] at this
    exact this
   have HB:=Hd hB
   have HAcc:=Hd hA
   have HG:=Hd hG
   have HLB:Hid (lb < W.heap.size):=Hd (lt_of_heap hA.blk)
   have HBW:=Hd hbW
   have HBB:=Hd hb
   have HLO:=Hd hl
   have HW:=Hd hW
   have HAX:=Hd hAx
   have HLEN:=Hd hlen
   clear hB hA hG hT hm hcap hd hbW hb hK hW hAx hlen hpos hl
   go_enter Tryz.func142,Tryz.ntmps142
   go_wp2_with fail
   refine RD.out.mono ?_
   rintro e w3 ⟨q,rfl,HO⟩
   have HO3:Hid (∃ F,RdIn w3 q (nd (hh + 1) (A ++ x :: B:List (Kid hh))) F /\ (∀ k,F k -> W.heap.size <= k /\ k < w3.heap.size) /\ Below W.heap.size W w3):=Hd (by
    obtain ⟨F,a,b,c⟩:=HO.out
    exact ⟨F,a.rdIn,fun k hk=>⟨b k hk,a.lt k hk⟩,c⟩)
   have N3:Hid (RdN w0 w3 G q (nd (hh + 1) (A ++ x :: B:List (Kid hh)))):=Hd (HO.out.rdN HB.out.up.size HB.out.room.lt)
   obtain ⟨F3,f1,f2,f3⟩:=HO3.out
   have c0:w3.cell? ⟨q,0,none⟩=some (.bool false):=by obtain ⟨vk,vv,vi,a,b⟩:=f1; exact cell_lit a.blk rfl
   rw [show nd (hh + 1) (A ++ x :: B:List (Kid hh))=.inner ((A ++ x :: B:List (Kid hh)).map (fun x:Kid hh=>(x.1,x.2.1))) by rfl] at f1
   obtain ⟨g3,o3,cp3,k3,hcp,hFF,kc⟩:=kids_sl f1 (by simp; omega)
   rw [List.length_map] at k3 hcp
   have KC:Hid (∀ i (hi:i < (x :: B).length),w3.cell? ⟨g3,o3 + (A.length + i),none⟩=some (.int .i64 ((x :: B)[i].2.1:Int))):=Hd fun i hi=>by
    have:=kc (A.length + i) (by simp at hi ⊢; omega)
    rw [List.getElem_map,List.getElem_append_right (by omega)] at this
    simp only [Nat.add_sub_cancel_left] at this
    exact this
   have hdr:=(Below.refl w3.heap.size w3).drew
   have WN:Hid (Calls Tryz.prog 166 #[.pointer (some ⟨q,0,none⟩),.string frm] w3.drew fun e w'=>e=.returned (.int .i64 (A.length:Nat)) /\ w'.cell? ⟨q,3,none⟩=some (.slice (some ⟨g3,o3,none⟩) (A ++ x :: B).length cp3) /\ Hid (Below w3.heap.size w3 w')):=Hd (by
    refine (way_nd (N3.out.below hdr) HLEN.out HW.out HAX.out).mono ?_
    rintro e w' ⟨rfl,hb⟩
    have hb':Below w3.heap.size w3 w':=hdr.trans hb.out
    exact ⟨rfl,(World.cell?_of_block (hb'.block _ (World.block_lt_of_cell? _ _ k3))).trans k3,hb'⟩)
   have HFF:=Hd hFF
   have HF2:=Hd f2
   have HF3:=Hd f3
   have hAB:(A ++ x :: B).length=A.length + (x :: B).length:=by simp
   have s1:(A.length <= (A ++ x :: B).length)=True:=by simp
   have s2:(cp3=A.length)=False:=by simp at hcp; simp; omega
   have s3:(A ++ x :: B).length - A.length=(x :: B).length:=by simp
   have s4:(x :: B).length <= 65536:=by simp at hfew ⊢; omega
   have HABL:=Hd hAB
   clear f1 f2 f3 hFF kc hdr hfew hcp hAB RD HO
   generalize (A ++ x :: B).length=NN at *
   go_wp2_with fail
   go_region_held3 (fun w'=>w'.cell? ⟨q,3,none⟩=some (.slice (some ⟨g3,o3,none⟩) NN cp3)) (go_keep) ((go_at_call 166; refine Calls.at_args WN.out (by with_reducible rfl) ?_; rintro e w4 ⟨rfl,hk4,HB4⟩))
   all_goals (
    have BL4:Hid (Below W.heap.size W w4):=Hd (HF3.out.trans (HB4.out.mono HF3.out.size))
    have A4:=Hd (HAcc.out.below BL4.out)
    have B4:=Hd (HB.out.below BL4.out)
    have KC4:Hid (∀ wr,Upd (fun k=>k=lb \/ v.ownBlock=some k) w4 wr -> ∀ i (hi:i < (x :: B).length),wr.cell? ⟨g3,o3 + (A.length + i),none⟩=some (.int .i64 ((x :: B)[i].2.1:Int))):=Hd fun wr hu i hi=>by
     have h0:=KC.out i hi
     have h1:=(World.cell?_of_block (HB4.out.block _ (World.block_lt_of_cell? _ _ h0))).trans h0
     have h2:=HF2.out g3 HFF.out.2
     refine (World.cell?_of_block (hu.block _ (World.block_lt_of_cell? _ _ h1) fun e=>?_)).trans h1
     rcases e with e | e
     ·have:=HLB.out; simp only at e; omega
     ·have:=(HAcc.out.row.lt _ e).2; simp only at this; omega
    have hk0:(x :: B).length=B.length + 1:=List.length_cons
    rw [List.length_cons] at s3 s4
    generalize hBN:B.length=BN at s3 s4 hk0 ⊢
    have HKN:=Hd hk0
    clear hk0
    clear KC WN k3 N3 c0 HO3 hk4
    clear hBN
    go_wp2_with fail
    go_loopg [40] (BN + 1) (fun gg s40 wr=>∃ (j:Nat),gg=BN + 1 - j /\ j <= BN + 1 /\ s40=.int .i64 (j:Int) /\ Hid (∃ Lj vj,sRun tt limit (from_ frm (ents (hh + 1) ((x :: B).take j:List (Kid hh)))) L=(Lj,true) /\ Acc base wr lb Lj vj /\ (∀ k,vj.ownBlock=some k -> v.ownBlock=some k \/ w4.heap.size <= k) /\ Upd (fun k=>k=lb \/ v.ownBlock=some k) w4 wr)))
   all_goals (first
    | (case atStart=>exact ⟨0,rfl,Nat.zero_le _,rfl,Hd ⟨L,v,by simp [ents,from_,sRun],A4.out,fun k e=>.inl e,Upd.refl _ _⟩⟩)
    | skip)
   all_goals (
    obtain ⟨j,hgk,hj,rfl,HI⟩:=hrel
    obtain ⟨Lj,vj,hs,ha,hn,hu⟩:=HI.out
    have HGK:=Hd hgk
    have HS:=Hd hs
    have HN:=Hd hn
    have HU:=Hd hu
    have HA2:=Hd ha
    by_cases hjl:j < BN + 1
    ·have hjx:j < (x :: B).length:=by rw [HKN.out]; exact hjl
     have k5:=KC4.out wr hu j hjx
     rw [<- Nat.add_assoc] at k5
     obtain ⟨y,hy⟩:=exE ((x :: B)[j])
     rw [hy] at k5
     have hym:y ∈ x :: B:=by rw [<- hy]; exact List.getElem_mem hjx
     have hsum:ents (hh + 1) ((x :: B).take (j + 1):List (Kid hh))=ents (hh + 1) ((x :: B).take j:List (Kid hh)) ++ ents hh y.2.2:=by
      rw [List.take_succ_eq_append_getElem hjx,hy,ents_app]; simp [ents]
     have hle:(ents (hh + 1) ((x :: B).take (j + 1):List (Kid hh))).length <= (ents (hh + 1) (x :: B:List (Kid hh))).length:=by
      have e1:ents (hh + 1) (x :: B:List (Kid hh))=ents (hh + 1) ((x :: B).take (j + 1):List (Kid hh)) ++ ents (hh + 1) ((x :: B).drop (j + 1):List (Kid hh)):=by
       rw [<- ents_app,List.take_append_drop]
      rw [e1,List.length_append]; omega
     have hfewj:Lj.length + (ents hh y.2.2).length <= 40000000:=by
      have h1:=sRun_len hs
      have h2:=from_len frm (ents (hh + 1) ((x :: B).take j:List (Kid hh)))
      have h3:=HCE.out
      rw [hsum,List.length_append] at hle; omega
     have hBr:TBase w0 wr G G tb rb place n m S:=B4.out.acc A4.out HLO.out HBB.out HG.out ⟨⟨vj,ha,hn⟩,hu⟩
     have CL:=Hd (IH.out wr Lj vj y hym hBr ha (by have:=hu.size; have:=BL4.out.size; have:=HBW.out; omega) hfewj)
     have HSUM:=Hd hsum
     have HJL:=Hd hjl
     have hKT:Hid ((x :: B).take (BN + 1)=x :: B):=Hd (by rw [<- HKN.out]; exact List.take_length)
     have hlt:(j:Int) < (BN:Int) + 1:=by omega
     have hj6:j <= 65536:=by omega
     have HDROP:Hid (from_ frm (ents (hh + 1) (x :: B:List (Kid hh)))=from_ frm (ents (hh + 1) ((x :: B).take (j + 1):List (Kid hh))) ++ from_ frm (ents (hh + 1) ((x :: B).drop (j + 1):List (Kid hh)))):=Hd (by
      rw [<- from_app,<- ents_app,List.take_append_drop])
     clear hjx hy hym hsum hle hfewj hBr hs ha hn hu HI IH hgk hj
     go_wp2_with fail
     refine CL.out.mono ?_
     rintro e w7 ⟨ok,rfl,HE⟩
     obtain ⟨L7,r1,r2⟩:=HE.out
     have hrun:sRun tt limit (from_ frm (ents (hh + 1) ((x :: B).take (j + 1):List (Kid hh)))) L=(L7,ok):=by
      rw [HSUM.out,from_app,sRun_true HS.out]; exact r1
     have HRUN:=Hd hrun
     have HGO7:Hid (AccGo base w4 w7 lb v L7):=Hd (AccGo.trans HU.out HN.out r2)
     clear CL k5 r1 r2 hrun HE
     cases ok with
     | false =>
       have HE2:Hid (ScanEnd base W w7 lb v frm tt limit (ents (hh + 1) (A ++ x :: B:List (Kid hh))) L false):=Hd ⟨L7,by rw [HF.out,HDROP.out]; exact sRun_false HRUN.out,AccGo.below_left BL4.out HGO7.out⟩
       go_wp2_with fail
       go_ret
       first | exact ⟨false,rfl,HE2⟩ | exact .inl ⟨rfl,HE2⟩
     | true =>
       go_wp2_with fail
       go_roundg (BN + 1 - (j + 1))
       case measure=>have:=HGK.out; have:=HJL.out; omega
       case rel =>
        obtain ⟨⟨v7,x1,x2⟩,x3⟩:=HGO7.out
        exact ⟨j + 1,rfl,HJL.out,by congr 1,Hd ⟨L7,v7,HRUN.out,x1,x2,x3⟩⟩
    ·have hje:j=BN + 1:=by omega
     have HE2:Hid (ScanEnd base W wr lb v frm tt limit (ents (hh + 1) (A ++ x :: B:List (Kid hh))) L true):=Hd ⟨Lj,by
      rw [HF.out]
      rw [hje,<- HKN.out,List.take_length] at hs
      exact hs,AccGo.below_left BL4.out ⟨⟨vj,ha,hn⟩,hu⟩⟩
     have hlt:¬ (j:Int) < (BN:Int) + 1:=by omega
     have hlt2:decide ((j:Int) < (BN:Int) + 1)=false:=by simp; omega
     have hlt3:((j:Int) < (BN:Int) + 1)=False:=by simp; omega
     clear hs ha hn hu HI IH hgk hj
     go_wp2_with fail
     go_ret
     first | exact ⟨true,rfl,HE2⟩ | exact .inr ⟨rfl,HE2⟩)
def scanW (w:World):World:=(w.alloc (.cells #[.slice none 0 0] 166)).alloc (.cells #[.int .i64 0] 34)
theorem scanW_below (w:World):Below w.heap.size w (scanW w):=((Below.refl w.heap.size w).alloc (Nat.le_refl _) _).alloc (by simp) _
theorem scanW_size (w:World):(scanW w).heap.size=w.heap.size + 2:=by unfold scanW; simp
theorem scanW_acc (w:World):Acc (w.heap.size + 2) (scanW w) w.heap.size [] (.slice none 0 0):=by
 refine ⟨?_,⟨rfl,.inl ⟨rfl,rfl⟩⟩,by simp [Value.ownBlock],by simp⟩
 unfold scanW; rw [heap_alloc_at,if_neg (by simp),heap_alloc_new]
theorem scanW_e (w:World):(scanW w).heap[w.heap.size + 1]?=some (.cells #[.int .i64 0] 34 (0,0)):=by
 unfold scanW; rw [heap_alloc_at,if_pos (by simp)]
def StK (w w':World) (G:Nat -> Prop) (rb n m:Nat) (S:RS):Prop:=RmS w' G rb n m S /\ Upd G w w'
theorem StG.keep {w W:World} {G:Nat -> Prop} {rb n m:Nat} {S:RS} (h:StG w W G G rb n m S):StK w W G rb n m S:=⟨h.room,h.up⟩
def ScanRes (w w':World) (G:Nat -> Prop) (rb n m:Nat) (S:RS) (E:List (ByteArray × ByteArray)) (v:Value):Prop:=w'.ownsRow (w.heap.size + 2) 170 2 v E.length (pairC E) /\ StK w w' G rb n m S
theorem Scan_none (G:Nat -> Prop) (tb rb place n m:Nat) (S:RS) (w:World) (frm tt:ByteArray) (limit:Int) (h:RmS w G rb n m S) (ht:TB w tb rb place) (hg:¬ G tb) (hp:place < 16) (hm:m <= 3900000) (hr:S.root place=0) :
 Calls Tryz.prog 87 #[.pointer (some ⟨tb,0,none⟩),.string frm,.string tt,.int .i64 limit] w fun e w'=>∃ v,e=.returned (.tuple #[v,.int .i64 0]) /\ Hid (ScanRes w w' G rb n m S [] v):=by
 have hmf:∀ (fn:Fn) (first cap:Array Value) (w:World),(Instr.makeFunc fn first cap).run Tryz.prog w=.ok (.func fn first cap) w:=fun _ _ _ _=>rfl
 have B0:=Hd ((TBase.start h ht hg).below (scanW_below w))
 have HG:=Hd h.lt
 have HM:=Hd hm
 have A0:=Hd (scanW_acc w)
 have E0:=Hd (scanW_e w)
 have S0:=Hd (scanW_size w)
 have RT:=root_c G tb rb place n m S _ B0.out.room B0.out.blk hp (by omega) (by rw [hr]; omega)
 rw [hr] at RT
 clear h ht hg hp hm hr
 go_enter_defers Tryz.func87,Tryz.ntmps87
 go_wp2_with fail
 change Calls Tryz.prog 125 #[.pointer (some ⟨tb,0,none⟩)] (scanW w) _
 generalize scanW w=W0 at *
 refine RT.mono ?_
 rintro e w2 ⟨rfl,hb⟩
 have B9:=Hd (B0.out.below hb.out)
 have A9:=Hd (A0.out.below hb.out)
 have E9:Hid (w2.heap[w.heap.size + 1]?=some (.cells #[.int .i64 0] 34 (0,0))):=Hd ((hb.out.block _ (lt_of_heap E0.out)).trans E0.out)
 obtain ⟨v9,hv9⟩:=exE (Value.slice none 0 0)
 rw [hv9] at A9
 clear hv9 RT hb
 have hfl:((w2.setCell ⟨w.heap.size,0,none⟩ v9).setCell ⟨w.heap.size + 1,0,none⟩ (.int .i64 0)).cell? ⟨w.heap.size,0,none⟩=some v9:=cell_lit ((heap_set_ne _ (by omega)).trans (heap_set_lit A9.out.blk _)) rfl
 have hfe:((w2.setCell ⟨w.heap.size,0,none⟩ v9).setCell ⟨w.heap.size + 1,0,none⟩ (.int .i64 0)).cell? ⟨w.heap.size + 1,0,none⟩=some (.int .i64 0):=cell_lit (heap_set_lit ((heap_set_ne _ (by omega)).trans E9.out) _) rfl
 have HRES:Hid (ScanRes w ((w2.setCell ⟨w.heap.size,0,none⟩ v9).setCell ⟨w.heap.size + 1,0,none⟩ (.int .i64 0)) G rb n m S [] v9):=Hd (by
  refine ⟨ownsRow_of2 A9.out.row fun k hk=>?_,(((StG.of B9.out (Below.refl _ _)).loc (x:=w.heap.size) (Nat.le_refl _) (fun e=>by have:=HG.out _ e; omega) 0 _).loc (x:=w.heap.size + 1) (by omega) (fun e=>by have:=HG.out _ e; omega) 0 _).keep⟩
  have h1:=(A9.out.row.lt k hk).1
  exact (heap_set_ne _ (by omega)).trans (heap_set_ne _ (by omega)))
 have m0:w2.cell? ⟨w.heap.size,0,none⟩=some v9:=cell_lit A9.out.blk rfl
 have m1:w2.frozen? ⟨w.heap.size,0,none⟩=false:=frozen_lit A9.out.blk 0
 have m2:w2.cell? ⟨w.heap.size + 1,0,none⟩=some (.int .i64 0):=cell_lit E9.out rfl
 have m3:w2.frozen? ⟨w.heap.size + 1,0,none⟩=false:=frozen_lit E9.out 0
 obtain ⟨xa,xm,xc,rfl⟩:∃ a b c,v9=.slice a b c:=by
  rcases A9.out.row.2 with ⟨rfl,_⟩ | ⟨g,cap,cur,rfl,_⟩
  ·exact ⟨_,_,_,rfl⟩
  ·exact ⟨_,_,_,rfl⟩
 clear B0 A0 E0
 go_wp2_with fail
 refine leaves_cons (f:=124) (args:=#[.pointer (some ⟨w.heap.size + 1,0,none⟩)]) (by simp) (by simp [go_sem]) ?_
 refine (guard_idle _ _).mono ?_
 rintro e u' wa ⟨rfl,rfl,rfl⟩
 refine leaves_cons (f:=141) (args:=#[.pointer (some ⟨w.heap.size + 1,0,none⟩),.pointer (some ⟨w.heap.size,0,none⟩)]) (by simp [settle]) (by simp [go_sem]) ?_
 refine (scan1_idle _ _ _ _ hfe).mono ?_
 rintro e u' wb ⟨rfl,rfl,rfl⟩
 simp [Leaves,settle,results,Tryz.results87,go_sem,hfe,hfl]
 exact HRES
theorem Scan_gen (G:Nat -> Prop) (tb rb place n m:Nat) (S:RS) (hh p:Nat) (t:PT hh) (w:World) (frm tt:ByteArray) (limit:Nat) (h:RmS w G rb n m S) (ht:TB w tb rb place) (hg:¬ G tb) (hp:place < 16) (hm:m <= 3900000) (hr:S.root place=p + 1) (hT:Tr S hh p t) (hh20:hh <= 20) (hl0:(ents hh t).length <= 40000000) (hl1:0 < limit) (hl2:limit <= 9223372036854775807) :
 Calls Tryz.prog 87 #[.pointer (some ⟨tb,0,none⟩),.string frm,.string tt,.int .i64 (limit:Int)] w fun e w'=>∃ v,e=.returned (.tuple #[v,.int .i64 0]) /\ Hid (ScanRes w w' G rb n m S (sRun tt limit (from_ frm (ents hh t)) []).1 v):=by
 have hmf:∀ (fn:Fn) (first cap:Array Value) (w:World),(Instr.makeFunc fn first cap).run Tryz.prog w=.ok (.func fn first cap) w:=fun _ _ _ _=>rfl
 obtain ⟨RL,hRL⟩:=exE ((sRun tt limit (from_ frm (ents hh t)) []).1)
 rw [hRL]
 have HRL:=Hd hRL
 clear hRL
 have hp65:p < 65536:=by
  have:=h.lim p hT.on.top.1
  have:=h.bounds
  unfold pagesN at *; omega
 have B0:=Hd ((TBase.start h ht hg).below (scanW_below w))
 have HG:=Hd h.lt
 have HM:=Hd hm
 have A0:=Hd (scanW_acc w)
 have E0:=Hd (scanW_e w)
 have S0:=Hd (scanW_size w)
 have RT:=root_c G tb rb place n m S _ B0.out.room B0.out.blk hp (by omega) (by rw [hr]; omega)
 rw [hr,show (((p + 1:Nat):Int) - 1)=(p:Int) by omega] at RT
 have HT:=Hd hT
 have HH:=Hd hh20
 have HL0:=Hd hl0
 have HL2:=Hd hl2
 have hlim1:(0:Int) < (limit:Int):=by omega
 have hp0:(0:Int) <= (p:Int):=by omega
 clear h ht hg hp hm hr hT hh20 hl0 hl1 hl2 hp65
 go_enter_defers Tryz.func87,Tryz.ntmps87
 go_wp2_with fail
 change Calls Tryz.prog 125 #[.pointer (some ⟨tb,0,none⟩)] (scanW w) _
 generalize scanW w=W0 at *
 refine RT.mono ?_
 rintro e w2 ⟨rfl,hb⟩
 have B2:=Hd (B0.out.below hb.out)
 have A2:=Hd (A0.out.below hb.out)
 have E2:Hid (w2.heap[w.heap.size + 1]?=some (.cells #[.int .i64 0] 34 (0,0))):=Hd ((hb.out.block _ (lt_of_heap E0.out)).trans E0.out)
 have SC0:=scan_c hh w w2 G tb rb place n m S p t frm tt limit w.heap.size 0 (w.heap.size + 2) [] (.slice none 0 0) B2.out A2.out (Nat.le_refl _) (by omega) (by have:=hb.out.size; have:=S0.out; omega) HG.out HT.out (by have:=HH.out; omega) HM.out (by have:=HL0.out; simp; omega) (by have:=HL2.out; omega)
 rw [show ((0:Nat):Int)=0 from rfl] at SC0
 have SC:=Hd SC0
 clear RT hb SC0 B0 A0 E0
 go_wp2_with fail
 refine SC.out.mono ?_
 rintro e w9 ⟨ok,rfl,HE⟩
 clear SC
 obtain ⟨L9,hr9,hgo⟩:=HE.out
 obtain rfl:RL=L9:=HRL.out.symm.trans (congrArg Prod.fst hr9)
 have B9:=Hd (B2.out.acc A2.out (Nat.le_refl _) (by omega:w.heap.size <= w.heap.size + 2) HG.out hgo)
 obtain ⟨⟨v9,a9,b9⟩,c9⟩:=hgo
 have A9:=Hd a9
 have E9:Hid (w9.heap[w.heap.size + 1]?=some (.cells #[.int .i64 0] 34 (0,0))):=Hd (c9.at E2.out fun e=>by
  rcases e with e | e
  ·omega
  ·simp [Value.ownBlock] at e)
 clear a9 b9 c9 hr9 HE B2 A2 E2
 have hfl:((w9.setCell ⟨w.heap.size,0,none⟩ v9).setCell ⟨w.heap.size + 1,0,none⟩ (.int .i64 0)).cell? ⟨w.heap.size,0,none⟩=some v9:=cell_lit ((heap_set_ne _ (by omega)).trans (heap_set_lit A9.out.blk _)) rfl
 have hfe:((w9.setCell ⟨w.heap.size,0,none⟩ v9).setCell ⟨w.heap.size + 1,0,none⟩ (.int .i64 0)).cell? ⟨w.heap.size + 1,0,none⟩=some (.int .i64 0):=cell_lit (heap_set_lit ((heap_set_ne _ (by omega)).trans E9.out) _) rfl
 have HRES:Hid (ScanRes w ((w9.setCell ⟨w.heap.size,0,none⟩ v9).setCell ⟨w.heap.size + 1,0,none⟩ (.int .i64 0)) G rb n m S RL v9):=Hd (by
  refine ⟨ownsRow_of2 A9.out.row fun k hk=>?_,(((StG.of B9.out (Below.refl _ _)).loc (x:=w.heap.size) (Nat.le_refl _) (fun e=>by have:=HG.out _ e; omega) 0 _).loc (x:=w.heap.size + 1) (by omega) (fun e=>by have:=HG.out _ e; omega) 0 _).keep⟩
  have h1:=(A9.out.row.lt k hk).1
  exact (heap_set_ne _ (by omega)).trans (heap_set_ne _ (by omega)))
 have m0:w9.cell? ⟨w.heap.size,0,none⟩=some v9:=cell_lit A9.out.blk rfl
 have m1:w9.frozen? ⟨w.heap.size,0,none⟩=false:=frozen_lit A9.out.blk 0
 have m2:w9.cell? ⟨w.heap.size + 1,0,none⟩=some (.int .i64 0):=cell_lit E9.out rfl
 have m3:w9.frozen? ⟨w.heap.size + 1,0,none⟩=false:=frozen_lit E9.out 0
 obtain ⟨xa,xm,xc,rfl⟩:∃ a b c,v9=.slice a b c:=by
  rcases A9.out.row.2 with ⟨rfl,_⟩ | ⟨g,cap,cur,rfl,_⟩
  ·exact ⟨_,_,_,rfl⟩
  ·exact ⟨_,_,_,rfl⟩
 go_wp2_with fail
 refine leaves_cons (f:=124) (args:=#[.pointer (some ⟨w.heap.size + 1,0,none⟩)]) (by simp) (by simp [go_sem]) ?_
 refine (guard_idle _ _).mono ?_
 rintro e u' wa ⟨rfl,rfl,rfl⟩
 refine leaves_cons (f:=141) (args:=#[.pointer (some ⟨w.heap.size + 1,0,none⟩),.pointer (some ⟨w.heap.size,0,none⟩)]) (by simp [settle]) (by simp [go_sem]) ?_
 refine (scan1_idle _ _ _ _ hfe).mono ?_
 rintro e u' wb ⟨rfl,rfl,rfl⟩
 simp [Leaves,settle,results,Tryz.results87,go_sem,hfe,hfl]
 exact HRES
section
variable {base b c tb:Nat} {W W':World} {P:List Nat} {v:Value} {lv:Int} {sm:Bool} {la:ByteArray}
end
set_option maxHeartbeats 4000000
set_option maxHeartbeats 1000000
def RSt (w1 w:World) (K:Nat -> Prop) (rb n m:Nat) (S:RS):Prop :=
 ∃ G,RmS w G rb n m S /\ (∀ k,G k -> w1.heap.size <= k) /\ (∀ k,K k -> k < w.heap.size /\ ¬ G k) /\ Below w1.heap.size w1 w
def Kept (K:Nat -> Prop) (w w':World):Prop:=∀ k,K k -> w'.heap[k]?=w.heap[k]?
section
variable {w1 w w':World} {K:Nat -> Prop} {rb n m:Nat} {S:RS}
theorem Kept.trans {w2:World} (h:Kept K w w') (g:Kept K w' w2):Kept K w w2:=fun k hk=>(g k hk).trans (h k hk)
theorem Kept.mono {K':Nat -> Prop} (h:Kept K w w') (hK:∀ k,K' k -> K k):Kept K' w w':=fun k hk=>h k (hK k hk)
theorem Kept.tb {tb place:Nat} (h:Kept K w w') (ht:TB w tb rb place) (hk:K tb):TB w' tb rb place:=(h tb hk).trans ht
theorem RSt.below (h:RSt w1 w K rb n m S) (hb:Below w.heap.size w w'):RSt w1 w' (fun k=>K k \/ (w.heap.size <= k /\ k < w'.heap.size)) rb n m S /\ Kept K w w':=by
 obtain ⟨G,a,b,d,e⟩:=h
 refine ⟨⟨G,a.below hb,b,fun k hk=>?_,e.trans (hb.mono e.size)⟩,fun k hk=>hb.block k (d k hk).1⟩
 rcases hk with hk | hk
 ·exact ⟨Nat.lt_of_lt_of_le (d k hk).1 hb.size,(d k hk).2⟩
 ·exact ⟨hk.2,fun hg=>by have:=a.lt k hg; omega⟩
theorem RSt.mono {K':Nat -> Prop} (h:RSt w1 w K rb n m S) (hK:∀ k,K' k -> K k):RSt w1 w K' rb n m S:=by
 obtain ⟨G,a,b,d,e⟩:=h
 exact ⟨G,a,b,fun k hk=>d k (hK k hk),e⟩
theorem RSt.more {m':Nat} (h:RSt w1 w K rb n m S) (hm:m <= m'):RSt w1 w K rb n m' S:=by
 obtain ⟨G,a,b,d,e⟩:=h
 exact ⟨G,a.more hm,b,d,e⟩
theorem RSt.bel (h:RSt w1 w K rb n m S):Below w1.heap.size w1 w:=by obtain ⟨G,a,b,d,e⟩:=h; exact e
theorem RSt.of {G:Nat -> Prop} {S':RS} {m':Nat} (b:∀ k,G k -> w1.heap.size <= k) (d:∀ k,K k -> k < w.heap.size /\ ¬ G k) (e:Below w1.heap.size w1 w) (h:StGo w w' G rb n m' S'):RSt w1 w' K rb n m' S' /\ Kept K w w':=by
 obtain ⟨G',r,t⟩:=h
 have hs:=e.size
 refine ⟨⟨G',r,fun k hk=>?_,fun k hk=>⟨Nat.lt_of_lt_of_le (d k hk).1 t.upd.size,fun hg=>?_⟩,e.trans (t.upd.below hs fun k hk hg=>by have:=b k hg; omega)⟩,fun k hk=>t.upd.block k (d k hk).1 (d k hk).2⟩
 ·rcases t.sub k hk with h1 | h1
  ·exact b k h1
  ·omega
 ·rcases t.sub k hg with h1 | h1
  ·exact (d k hk).2 h1
  ·have:=(d k hk).1; omega
theorem RSt.ofK {G:Nat -> Prop} {S':RS} {m':Nat} (a:RmS w G rb n m S) (b:∀ k,G k -> w1.heap.size <= k) (d:∀ k,K k -> k < w.heap.size /\ ¬ G k) (e:Below w1.heap.size w1 w) (h:StK w w' G rb n m' S'):RSt w1 w' (fun k=>K k \/ (w.heap.size <= k /\ k < w'.heap.size)) rb n m' S' /\ Kept K w w':=by
 have hs:=e.size
 refine ⟨⟨G,h.1,b,fun k hk=>?_,e.trans (h.2.below hs fun k hk hg=>by have:=b k hg; omega)⟩,fun k hk=>h.2.block k (d k hk).1 (d k hk).2⟩
 rcases hk with hk | hk
 ·exact ⟨Nat.lt_of_lt_of_le (d k hk).1 h.2.size,(d k hk).2⟩
 ·exact ⟨hk.2,fun hg=>by have:=a.lt k hg; omega⟩
end
section
variable (w1 w:World) (K:Nat -> Prop) (tb rb place n m:Nat) (S:RS) (o:Option TT)
theorem put_r (k:Nat) (key val:ByteArray) (h:RSt w1 w K rb n m S) (ht:TB w tb rb place) (hK:K tb) (ho:TreeSt S place o) (hs:Spare S n (k + 2)) (hp:place < 16) (hm:m <= 3900000) (hks:key.size <= 96) (hvs:val.size <= 56) (hk20:k <= 20) (hh:hgtO o <= k) :
 Calls Tryz.prog 71 #[.pointer (some ⟨tb,0,none⟩),.string key,.string val] w fun e w'=>e=.returned (.int .i64 0) /\ Hid (∃ S' o',RSt w1 w' K rb n (m + 100) S' /\ Kept K w w' /\ PutGo place n S S' o o' key val):=by
 obtain ⟨G,a,b,d,e⟩:=h
 have fin:∀ w',PutEnd w w' G rb n m place S o key val -> ∃ S' o',RSt w1 w' K rb n (m + 100) S' /\ Kept K w w' /\ PutGo place n S S' o o' key val:=fun w' ⟨S',o',hs,hg⟩ =>
  ⟨S',o',(RSt.of b d e hs).1,(RSt.of b d e hs).2,hg⟩
 cases o with
 | none =>
   refine (Put_new G tb rb place n m S key val w a ht (d tb hK).2 hp hm hks hvs ho (hs.less (by omega))).mono ?_
   rintro e w' ⟨rfl,hE⟩
   exact ⟨rfl,Hd (fin w' hE.out)⟩
 | some T =>
   have hT:T.h <= k:=hh
   refine (Put_old G tb rb place n m S T key val w a ht (d tb hK).2 hp hm hks hvs ho (by omega) (hs.less (by omega))).mono ?_
   rintro e w' ⟨rfl,hE⟩
   exact ⟨rfl,Hd (fin w' hE.out)⟩
theorem del_r (key:ByteArray) (h:RSt w1 w K rb n m S) (ht:TB w tb rb place) (hK:K tb) (ho:TreeSt S place o) (hp:place < 16) (hm:m <= 3900000) (hh:hgtO o <= 20) :
 Calls Tryz.prog 74 #[.pointer (some ⟨tb,0,none⟩),.string key] w fun e w'=>∃ was:Bool,e=.returned (.tuple #[.bool was,.int .i64 0]) /\ Hid (∃ S' o',RSt w1 w' K rb n (m + 300) S' /\ Kept K w w' /\ ((was=true /\ DelGo place n S S' o o' key) \/ (was=false /\ S'=S /\ o'=o /\ ∀ e ∈ entsO o,e.1 ≠ key))):=by
 obtain ⟨G,a,b,d,e⟩:=h
 have fin:∀ w' was,DelEnd w w' G rb n m place S o key was -> ∃ S' o',RSt w1 w' K rb n (m + 300) S' /\ Kept K w w' /\ ((was=true /\ DelGo place n S S' o o' key) \/ (was=false /\ S'=S /\ o'=o /\ ∀ e ∈ entsO o,e.1 ≠ key)):=fun w' was hE=>by
  cases was with
  | true =>
    unfold DelEnd at hE
    rw [if_pos rfl] at hE
    obtain ⟨S',o',hs,hg⟩:=hE
    exact ⟨S',o',(RSt.of b d e hs).1,(RSt.of b d e hs).2,.inl ⟨rfl,hg⟩⟩
  | false =>
    unfold DelEnd at hE
    rw [if_neg (by simp)] at hE
    exact ⟨S,o,(RSt.of b d e hE.1).1,(RSt.of b d e hE.1).2,.inr ⟨rfl,rfl,rfl,hE.2⟩⟩
 cases o with
 | none =>
   refine (Delete_none G tb rb place n m S key w a ht (d tb hK).2 hp hm ho).mono ?_
   rintro e w' ⟨was,rfl,hE⟩
   exact ⟨was,rfl,Hd (fin w' was hE.out)⟩
 | some T =>
   refine (Delete_some G tb rb place n m S T.h T.p T.t key w a ht (d tb hK).2 hp hm ho.1 ho.2 hh).mono ?_
   rintro e w' ⟨was,rfl,hE⟩
   exact ⟨was,rfl,Hd (fin w' was hE.out)⟩
theorem get_r (key:ByteArray) (h:RSt w1 w K rb n m S) (ht:TB w tb rb place) (hK:K tb) (ho:TreeSt S place o) (hp:place < 16) (hm:m <= 3900000) (hh:hgtO o <= 19) :
 Calls Tryz.prog 115 #[.pointer (some ⟨tb,0,none⟩),.string key] w fun e w'=>∃ v ok,e=.returned (.tuple #[.string v,.bool ok,.int .i64 0]) /\ Got key (entsO o) v ok /\ Hid (RSt w1 w' K rb n m S /\ Kept K w w'):=by
 obtain ⟨G,a,b,d,e⟩:=h
 cases o with
 | none =>
   refine (Get_none G tb rb place n m S key w a ht (d tb hK).2 hp hm ho).mono ?_
   rintro e' w' ⟨v,ok,rfl,hg,hE⟩
   exact ⟨v,ok,rfl,hg,Hd (RSt.of b d e hE.out)⟩
 | some T =>
   refine (Get_some G tb rb place n m S T.h T.p T.t key w a ht (d tb hK).2 hp hm ho.1 ho.2 hh).mono ?_
   rintro e' w' ⟨v,ok,rfl,hg,hE⟩
   exact ⟨v,ok,rfl,hg,Hd (RSt.of b d e hE.out)⟩
def ReadK (w1 w w':World) (K:Nat -> Prop) (rb n m:Nat) (S:RS):Prop:=RSt w1 w' (fun k=>K k \/ (w.heap.size <= k /\ k < w'.heap.size)) rb n m S /\ Kept K w w'
theorem scan_g (frm tt:ByteArray) (limit:Nat) (h:RSt w1 w K rb n m S) (ht:TB w tb rb place) (hK:K tb) (ho:TreeSt S place o) (hp:place < 16) (hm:m <= 3900000) (hh:hgtO o <= 20) (hl0:(entsO o).length <= 40000000) (hl1:0 < limit) (hl2:limit <= 9223372036854775807) :
 Calls Tryz.prog 87 #[.pointer (some ⟨tb,0,none⟩),.string frm,.string tt,.int .i64 (limit:Int)] w fun e w'=>∃ v,e=.returned (.tuple #[v,.int .i64 0]) /\ Hid (w'.ownsRow (w.heap.size + 2) 170 2 v (sRun tt limit (from_ frm (entsO o)) []).1.length (pairC (sRun tt limit (from_ frm (entsO o)) []).1) /\ ReadK w1 w w' K rb n m S):=by
 obtain ⟨G,a,b,d,e⟩:=h
 cases o with
 | none =>
   refine (Scan_none G tb rb place n m S w frm tt limit a ht (d tb hK).2 hp hm ho).mono ?_
   rintro e' w' ⟨v,rfl,hE⟩
   exact ⟨v,rfl,Hd ⟨hE.out.1,RSt.ofK a b d e hE.out.2⟩⟩
 | some T =>
   refine (Scan_gen G tb rb place n m S T.h T.p T.t w frm tt limit a ht (d tb hK).2 hp hm ho.1 ho.2 hh hl0 hl1 hl2).mono ?_
   rintro e' w' ⟨v,rfl,hE⟩
   exact ⟨v,rfl,Hd ⟨hE.out.1,RSt.ofK a b d e hE.out.2⟩⟩
end
section
variable (w1 w:World) (tb rb place n m c:Nat) (o:Option TT)
end
theorem At_c (rb place:Nat) (w:World):Calls Tryz.prog 51 #[.pointer (some ⟨rb,0,none⟩),.int .i64 (place:Int)] w fun e w'=>e=.returned (.pointer (some ⟨w.heap.size,0,none⟩)) /\ Hid (TB w' w.heap.size rb place /\ Below w.heap.size w w'):=by
 go_enter Tryz.func51,Tryz.ntmps51
 go_wp2_with fail
 go_ret
 exact ⟨rfl,heap_alloc_new _ _,(Below.refl w.heap.size w).alloc (Nat.le_refl _) _⟩
theorem pigeon_spare (n:Nat) (c:Nat) (h:c <= pagesN n):Spare ⟨fun _=>0,fun _=>false,fun _=>pad0,[]⟩ n c:=⟨[],fun q hq=>(by cases hq),by simpa using h⟩
theorem NewRoom.of {w1 wa wb wc wd:World} {FL G:Nat -> Prop} {lb rb n tx:Nat} (ha:Below w1.heap.size w1 wa) (h1:IsLog wb FL lb n /\ (∀ k,FL k -> wa.heap.size <= k) /\ Below wa.heap.size wa wb) (h2:IsTx wc (fun k=>k=wb.heap.size + 1 \/ k=wb.heap.size) tx lb [] /\ Below wb.heap.size wb wc)
 (h3:Rm wd G rb n [] /\ (∀ k,G k -> (FL k \/ (k=wb.heap.size + 1 \/ k=wb.heap.size)) \/ wc.heap.size <= k) /\ Below wc.heap.size wc wd):NewRoom w1 wd G rb n:=by
 have s1:=ha.size
 have s2:=h1.2.2.size
 have s3:=h2.2.size
 refine ⟨h3.1,fun k hk=>?_,((ha.trans (h1.2.2.mono s1)).trans (h2.2.mono (by omega))).trans (h3.2.2.mono (by omega))⟩
 rcases h3.2.1 k hk with (e | e | e) | e
 ·have:=h1.2.1 k e; omega
 ·omega
 ·omega
 ·omega
theorem chg_new {wa wb wc:World} {FL:Nat -> Prop} {lb n tx:Nat} (h1:IsLog wb FL lb n /\ (∀ k,FL k -> wa.heap.size <= k) /\ Below wa.heap.size wa wb) (h2:IsTx wc (fun k=>k=wb.heap.size + 1 \/ k=wb.heap.size) tx lb [] /\ Below wb.heap.size wb wc):Chg wc FL (fun k=>k=wb.heap.size + 1 \/ k=wb.heap.size) tx lb n [] :=
 ⟨h1.1.below h2.2,h2.1,fun k hk e=>by have:=h1.1.lt k hk; omega⟩
theorem RSt.start {w1 w:World} {G:Nat -> Prop} {rb n:Nat} (h:NewRoom w1 w G rb n) (h4:4 <= n):RSt w1 w (fun _=>False) rb n 0 ⟨fun _=>0,fun _=>false,fun _=>pad0,[]⟩ :=
 ⟨G,⟨[],Nat.le_refl _,h.1,Rep.start n h4⟩,h.2.1,fun _ hk=>hk.elim,h.2.2⟩
end Go.Proofs.YtdcjhpafipbpkaaGreatDoor
