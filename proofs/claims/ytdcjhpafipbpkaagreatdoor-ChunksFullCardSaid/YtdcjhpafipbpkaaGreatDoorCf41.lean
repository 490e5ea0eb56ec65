/- Parts of the proof of ChunksFull,joined: MapE. No condition. -/
import Derived.Test.YtdcjhpafipbpkaaGreatDoorCf4
import Derived.StillTailTactics
import Derived.Laws.BitsAllLaws
import Derived.BigQuiet
import Derived.Deep.QuietTactic
import Derived.Deep.RegionHeld3
import Derived.Lib.Strings
import Derived.ScopeJumps
import Derived.WalkMore
set_option maxRecDepth 100000
set_option maxHeartbeats 20000000
set_option linter.unusedSimpArgs false
set_option linter.unusedVariables false
set_option linter.unusedSectionVars false
namespace Go.Proofs.YtdcjhpafipbpkaaGreatDoor
open Go.RowKit
theorem zme (w0 W:World) (G:Nat->Prop) (tb rb place n m:Nat) (S:RS) (p:Nat) (t:PT 0) (frm tt:ByteArray) (limit lb deep base:Nat) (L:List (ByteArray × ByteArray)) (v:Value) (hB:zak w0 W G G tb rb place n m S) (hA:Acc base W lb L v) (hl:w0.heap.size<=lb) (hb:w0.heap.size<=base) (hbW:base<=W.heap.size) (hG:∀ k,G k->k<w0.heap.size) (hT:Tr S 0 p t) (hd:deep<=20) (hm:m<=3900000) (hcap:L.length+(ents 0 t).length<=40000000) (hlim:limit<=9223372036854775807) (htt:tt.size=0) :
 Calls Tryz.prog 142 #[.pointer (some ⟨tb,0,none⟩),.int .i64 (p:Int),.string frm,.string tt,.int .i64 (limit:Int),.pointer (some ⟨lb,0,none⟩),.int .i64 (deep:Int)] W λ e w'=>∃ ok,e=.returned (.bool ok)/\Hid (zcx base W w' lb v frm tt limit (ents 0 t) L ok):=by
 have hnot:∀ (x:Bool) (w:World),(Op.unary .not (.bool x)).run Tryz.prog w=.ok (.bool (!x)) w:=λ _ _=>rfl
 have RD:=Hd (zcf hB (by omega) hT.on hT.fit hT.ok)
 have hd1:¬(20:Int)<(deep:Int):=by omega
 obtain ⟨A,B,rfl,hA1,hB1,-⟩:=zcP t frm hT.wf.srt
 have HF:Hid (zbi frm (ents 0 (A++B))=B):=Hd (by
  show zbi frm (A++B)=B
  rw [zer,zfG hA1,zgO hB1,List.nil_append])
 have hpos:0<(A++B).length:=by have:=hT.pos;rw [zaP] at this;exact this
 have hl6:(Nd.leaf (A++B)).len<=1000000:=Nat.le_of_lt (Nat.lt_trans hT.ok.few (by decide))
 have hlab:(A++B).length<=65536:=by have:=hT.ok.few;rw [zaP] at this;exact Nat.le_of_lt this
 have HTH:∃ there:Bool,there=true ↔ ∃ B',B.map Prod.fst=frm::B':=by
  by_cases h:∃ B',B.map Prod.fst=frm::B'
  ·exact ⟨true,⟨λ _=>h,λ _=>rfl⟩⟩
  ·exact ⟨false,⟨(λ e=>by cases e),λ e=>absurd e h⟩⟩
 obtain ⟨there,hth⟩:=HTH
 have FD:Hid (∀ W' q,RdN w0 W' G q (nd 0 (A++B))->Calls Tryz.prog 165 #[.pointer (some ⟨q,0,none⟩),.string frm] W' λ e w'=>e=.returned (.tuple #[.int .i64 (A.length:Nat),.bool there])/\∃ q,w'=W'.drewN q):=Hd λ W' q hr=>by
  obtain ⟨vk,vv,vi,hv⟩:=hr.view
  have:=zdh there q (.leaf (A++B)) vk vv vi (A.map Prod.fst) (B.map Prod.fst) frm W' hv (by simp [Nd.keys]) hT.pos hl6 (λ a ha=>by obtain ⟨e,he,rfl⟩:=List.mem_map.1 ha;exact hA1 e he) (λ b hb=>by obtain ⟨e,he,rfl⟩:=List.mem_map.1 hb;exact hB1 e he) hth
  rw [zLm] at this;exact this
 have HB:=Hd hB
 have HAcc:=Hd hA
 have HG:=Hd hG
 have HLB:Hid (lb<W.heap.size):=Hd (zab hA.blk)
 have HCAP:=Hd hcap
 have HBW:=Hd hbW
 have HBB:=Hd hb
 clear hB hA hG hT hA1 hB1 hm hcap hth hl6 hd hbW hb
 go_enter Tryz.func142,Tryz.ntmps142
 go_wp2_with fail
 refine RD.out.mono ?_
 rintro e w3 ⟨q,rfl,HO⟩
 have N3:Hid (RdN w0 w3 G q (nd 0 (A++B))):=Hd (HO.out.rdN HB.out.up.size HB.out.room.lt)
 have HFN:Hid (∀ k,w3.heap.size<=k->W.heap.size<=k):=Hd λ k hk=>Nat.le_trans HO.out.below.size hk
 have FD3:=Hd (FD.out w3 q N3.out)
 obtain ⟨vk,vv,vi,hv⟩:=N3.out.view
 have c0:w3.cell? ⟨q,0,none⟩=some (.bool true):=zaa hv.blk rfl
 have HO2:=HO
 clear RD FD hv
 go_wp2_with fail
 refine FD3.out.mono ?_
 rintro e w4 ⟨rfl,qn,rfl⟩
 have HO4:Hid (∃ F,zc8 (w3.drewN qn) F q (nd 0 (A++B))/\∀ k,F k->W.heap.size<=k):=Hd (by
  obtain ⟨F,a,b,c⟩:=HO2.out
  exact ⟨F,a.below (zar w3 qn) (zNr _),b⟩)
 have A4:=Hd ((HAcc.out.below HO2.out.below).below (zar w3 qn))
 have BL4:Hid (Below W.heap.size W (w3.drewN qn)):=Hd (HO2.out.below.trans (Below.drewN (zBr _ _) qn))
 generalize w3.drewN qn=w4 at *
 clear FD3 N3 HO HO2 c0
 go_wp2_with fail
 go_loopg [18] B.length (λ gg s18 wr=>∃ (j:Nat),gg=B.length-j/\j<=B.length/\s18=.int .i64 ((A.length+j:Nat):Int)/\Hid (∃ Lj vj,zd5 tt limit (B.take j) L=(Lj,true)/\Lj.length<=L.length+j/\Acc base wr lb Lj vj/\(∀ k,vj.ownBlock=some k->v.ownBlock=some k\/w4.heap.size<=k)/\Upd (λ k=>k=lb\/v.ownBlock=some k) w4 wr))
 case atStart=>exact ⟨0,rfl,zNz _,rfl,Hd ⟨L,v,by simp [zd5],zNr _,A4.out,λ k e=>.inl e,Upd.refl _ _⟩⟩
 case round =>
  obtain ⟨j,hgk,hj,rfl,HI⟩:=hrel
  obtain ⟨Lj,vj,hs,hll,ha,hn,hu⟩:=HI.out
  obtain ⟨F5,f1,f2⟩:=HO4.out
  have N5:ziD wr q (.leaf (A++B)) F5:=(f1.upd hu λ k hk e=>by
   have:=f2 k hk
   rcases e with e|e
   ·have:=HLB.out;omega
   ·have:=(HAcc.out.row.lt k e).2;omega).rdIn
  have HF5:Hid (∀ k,F5 k->W.heap.size<=k/\k<w4.heap.size):=Hd λ k hk=>⟨f2 k hk,f1.lt k hk⟩
  obtain ⟨g1,o1,c1,g2,o2,c2,k1,k2,hFF,kc⟩:=zgk N5 hpos
  have HFF:=Hd hFF
  clear hFF f1 f2
  obtain ⟨la,lc,hvj⟩:∃ a c,vj=.slice a Lj.length c:=by
   rcases ha.row.2 with ⟨rfl,h0⟩|⟨g,cap,cur,rfl,-⟩
   ·exact ⟨none,0,by rw [h0]⟩
   ·exact ⟨_,_,rfl⟩
  subst hvj
  have m0:wr.cell? ⟨lb,0,none⟩=some (.slice la Lj.length lc):=zaa ha.blk rfl
  have m1:wr.frozen? ⟨lb,0,none⟩=false:=zad ha.blk 0
  have hlbl:=zab ha.blk
  by_cases hjl:j<B.length
  ·obtain ⟨kx,ky⟩:=kc (A.length+j) (by simp;omega)
   rw [List.getElem_append_right (by omega)] at kx ky
   simp only [Nat.add_sub_cancel_left] at kx ky
   have hlt:((A.length+j:Nat):Int)<(((A++B).length:Nat):Int):=by simp;omega
   have hixb:A.length+j<=65536:=by simp at hlab;omega
   obtain ⟨LN,hLN⟩:=exE (Lj.length)
   obtain ⟨e,he⟩:=exE (B[j])
   have HE:Hid (B[j]?=some e):=Hd (by rw [List.getElem?_eq_getElem hjl,he])
   rw [he] at kx ky
   rw [hLN] at m0
   have HLN:=Hd hLN
   have HJ:=Hd hj
   have HJL:=Hd hjl
   have HS:=Hd hs
   have HLL:=Hd hll
   have HA2:=Hd ha
   have HN2:=Hd hn
   have HU2:=Hd hu
   have QC:Hid (∀ W5,Upd (λ k=>k=lb\/(Value.slice la Lj.length lc).ownBlock=some k) wr W5->W5.cell? ⟨q,1,none⟩=some (.slice (some ⟨g1,o1,none⟩) (A++B).length c1)/\W5.cell? ⟨q,2,none⟩=some (.slice (some ⟨g2,o2,none⟩) (A++B).length c2)/\W5.cell? ⟨g1,o1+(A.length+j),none⟩=some (.string e.1)/\W5.cell? ⟨g2,o2+(A.length+j),none⟩=some (.string e.2)):=Hd λ W5 hU5=>by
    have nn:∀ k,F5 k->k<wr.heap.size->W5.heap[k]?=wr.heap[k]?:=λ k hk hlt=>hU5.block k hlt λ e=>by
     obtain ⟨h1,h2⟩:=HF5.out k hk
     rcases e with e|e
     ·have:=HLB.out;omega
     ·rcases hn k e with e|e
      ·have:=(HAcc.out.row.lt k e).2;omega
      ·omega
    exact ⟨(zCb (nn q HFF.out.1 (World.block_lt_of_cell? _ _ k1))).trans k1,(zCb (nn q HFF.out.1 (World.block_lt_of_cell? _ _ k2))).trans k2,(zCb (nn g1 HFF.out.2.1 (World.block_lt_of_cell? _ _ kx))).trans kx,(zCb (nn g2 HFF.out.2.2 (World.block_lt_of_cell? _ _ ky))).trans ky⟩
   have HGK:=Hd hgk
   clear kc
   obtain ⟨ix,hix⟩:=exE (A.length+j)
   have HIX:=Hd hix
   rw [hix] at kx ky hlt hixb QC ⊢
   clear hix
   generalize (A++B).length=NN at *
   clear hj hjl hs hll ha hn hu N5 hgk he hLN HI hlab hpos
   have hb':B=B.take j++e::B.drop (j+1):=by
    have h1:=HE.out
    obtain ⟨h2,h3⟩:=List.getElem?_eq_some_iff.1 h1
    rw [<-h3];exact (List.take_append_drop j B).symm.trans (by rw [List.drop_eq_getElem_cons h2])
   have HSTOP:Hid (LN=limit\/(tt.size≠0/\zah e.1 tt=false)->zcx base W wr lb v frm tt limit (ents 0 (A++B)) L false):=Hd λ hst=>by
    refine ⟨Lj,?_,(zdn.below_left BL4.out ⟨⟨_,HA2.out,HN2.out⟩,HU2.out⟩)⟩
    rw [HF.out,hb',zdm HS.out,zaZ,if_pos (by rw [HLN.out];exact hst)]
   have HGO:Hid (¬(LN=limit\/(tt.size≠0/\zah e.1 tt=false))->zd5 tt limit (B.take (j+1)) L=(Lj++[e],true)):=Hd λ hst=>by
    have h1:=HE.out
    obtain ⟨h2,h3⟩:=List.getElem?_eq_some_iff.1 h1
    rw [zTs h2,h3,zdm HS.out,zaZ,if_neg (by rw [HLN.out];exact hst)];rfl
   have hfew:LN+1<=40000000:=by
    have h1:=HLL.out
    have h2:=HCAP.out
    have h3:(ents 0 (A++B)).length=(A++B).length:=rfl
    have h4:=HJL.out
    rw [HLN.out] at h1
    rw [h3,zLa] at h2;omega
   clear hb'
   have htl:tt.toList=[] ↔ tt.size=0:=by rw [Lib.toList_data,Lib.size_eq];exact List.length_eq_zero_iff.symm
   by_cases hst:LN=limit\/(tt.size≠0/\zah e.1 tt=false)
   ·have HE2:=Hd (HSTOP.out hst)
    have hc1:LN=limit:=by rcases hst with h|⟨h,-⟩;exact h;exact absurd htt h
    have q1:((LN:Int) == (limit:Int))=true:=by simp;omega
    have q0:=htl.2 htt
    clear HSTOP HGO hfew htl
    go_wp2_with fail
    all_goals (go_ret;exact ⟨false,rfl,HE2⟩)
   ·have HR:=Hd (HGO.out hst)
    have q1:((LN:Int) == (limit:Int))=false:=by simp;exact λ h=>hst (.inl (by omega))
    have q0:=htl.2 htt
    obtain ⟨jP,hjP,hP0,hP1,hP2⟩:=info_parts zrT
    have hdr:=(zBr wr.heap.size wr).drew
    have AD:=Hd (HA2.out.below hdr)
    have UD:=Hd (HU2.out.trans' (hdr.upd' (zNr _)) λ _ _ e=>False.elim e)
    have HBS:Hid (base<=wr.drew.heap.size):=Hd (by
     have h1:=HU2.out.size;have h2:=BL4.out.size;have h3:=HBW.out
     show base<=wr.heap.size;omega)
    have d0:wr.drew.cell? ⟨lb,0,none⟩=some (.slice la Lj.length lc):=by rw [<-HLN.out] at m0;exact m0
    have dl:lb<wr.drew.heap.size:=hlbl
    have HN5':Hid (wr.drew.heap.size=wr.heap.size):=Hd rfl
    have HFEW:Hid (Lj.length+1<=maxLen/\(Lj.length+1)*32<=140737488355328/\Lj.length+1<=40000000):=Hd (by have:=HLN.out;unfold maxLen;omega)
    clear HSTOP HGO htl hst hfew htt
    rw [<-HLN.out] at m0 q1
    have w1:IntKind.i64.wrap ((ix:Int)+1)=(ix:Int)+1:=zaz (by omega) (by omega)
    go_wp2_with fail
    all_goals (
     have AW:=Hd (HA2.out.below (((zBr wr.heap.size wr).alloc (zNr _) (.cells #[.string e.1,.string e.2] 170)).drew))
     have hbW:Below wr.heap.size wr ((wr.alloc (.cells #[.string e.1,.string e.2] 170)).drew):=((zBr wr.heap.size wr).alloc (zNr _) _).drew
     go_region_law ((first
      | (refine zat (by rfl) _ _ _ (by rfl) base 170 jP _ 2 32 Tryz.underlying166 hjP hP0 hP1 hP2 rfl (by decide) _ _ _ (by rfl) AW.out.row _ 1 _ (by rfl) (show zbV ((wr.alloc (.cells #[.string e.1,.string e.2] 170)).drew) (.slice (some ⟨wr.heap.size,0,none⟩) 1 1) 1 [.string e.1,.string e.2] from zai wr #[.string e.1,.string e.2] 170 1 1) rfl (znn _ _ rfl rfl) HFEW.out.1 HFEW.out.2.1 (by have:=HBS.out;show base<=(wr.alloc _).heap.size;rw [World.size_alloc];have:=HN5'.out;omega) ?_
         intro v5 W5 ho5 hg5 ha5
         have PU:=Hd (zjG (e:=e) HA2.out (((zBr wr.heap.size wr).alloc (zNr _) (.cells #[.string e.1,.string e.2] 170)).drew) ho5 hg5 ha5 HFEW.out.2.2)
         obtain ⟨xa,xm,xc,rfl⟩:∃ a b c,v5=.slice a b c:=by
          rcases ho5.2 with ⟨rfl,_⟩|⟨g,cap,cur,rfl,_⟩
          ·exact ⟨_,_,_,rfl⟩
          ·exact ⟨_,_,_,rfl⟩
         have p0:=PU.out.1.1
         have p1:=PU.out.1.2
         clear ho5 hg5 ha5)))
     all_goals (
      go_wp2_with fail
      go_roundg (B.length-(j+1))))
    all_goals (first
     | (case measure=>have:=HGK.out;have:=HJL.out;omega)
     | (case rel =>
         refine ⟨j+1,rfl,HJL.out,by have:=HIX.out;congr 1;omega,Hd ⟨Lj++[e],_,HR.out,by have:=HLL.out;simp;omega,PU.out.2.1,λ k hk=>?_,HU2.out.trans' PU.out.2.2.2 λ k hk e=>?_⟩⟩
         ·rcases PU.out.2.2.1 k hk with e|e
          ·exact HN2.out k e
          ·have:=HU2.out.size;have:=HN5'.out;exact .inr (by omega)
         ·rcases e with e|e
          ·exact .inl e
          ·exact .inr ((HN2.out k e).resolve_right (by omega))))
  ·obtain rfl:j=B.length:=by omega
   rw [List.take_length] at hs
   have HE2:Hid (zcx base W wr lb v frm tt limit (ents 0 (A++B)) L true):=Hd ⟨Lj,by rw [HF.out];exact hs,zdn.below_left BL4.out ⟨⟨_,ha,hn⟩,hu⟩⟩
   have hlt:¬((A.length+B.length:Nat):Int)<(((A++B).length:Nat):Int):=by simp
   clear kc
   generalize (A++B).length=NN at *
   clear HI ha hn hu N5 hgk
   clear hs hll
   go_wp2_with fail
   go_ret
   first|exact ⟨true,rfl,HE2⟩|exact .inr ⟨rfl,HE2⟩
end Go.Proofs.YtdcjhpafipbpkaaGreatDoor
