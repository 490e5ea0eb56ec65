/- Parts of the proof of ChunksFull,joined: MapF,MapG,MapH,MapI,MapJ,MapK,ManyA,FitA,LogI,RoomI,FullA,FullB,FullC,FullD,FullE,FullF,FitB,ChkA,ChkB,PackLk. No condition. -/
import Derived.Test.YtdcjhpafipbpkaaGreatDoorCf41
import Derived.Test.YtdcjhpafipbpkaaGreatDoorCf42
import Derived.Sort.OwnSortedInts
import Derived.LoopN
import Derived.Laws.BitsAllLaws
import Derived.BigQuiet
import Derived.Deep.QuietTactic
import Derived.Lib.SlTrimSet
import Derived.Lib.Strings
set_option maxRecDepth 100000
set_option maxHeartbeats 20000000
set_option linter.unusedSimpArgs false
set_option linter.unusedVariables false
set_option linter.unusedSectionVars false
namespace Go.Proofs.YtdcjhpafipbpkaaGreatDoor
open Go.RowKit
theorem zqg {W:World} {F:Nat->Prop} {q:Nat} {l:List (ByteArray × Nat)} (h:ziD W q (.inner l) F) (hp:0<l.length) :
 ∃ g o c,W.cell? ⟨q,3,none⟩=some (.slice (some ⟨g,o,none⟩) l.length c)/\l.length<=c/\(F q/\F g)/\∀ i (hi:i<l.length),W.cell? ⟨g,o+i,none⟩=some (.int .i64 (l[i].2:Int)):=by
 obtain ⟨vk,vv,vi,a,b⟩:=h
 obtain ⟨g2,o2,c2,e2,h2,k2⟩:=a.is.lit (by simpa [Nd.kids] using hp)
 subst e2
 refine ⟨g2,o2,c2,?_,by simpa [Nd.kids] using h2,⟨(b q (.inl rfl)).2,(b g2 (.inr (.inr (.inr rfl)))).2⟩,λ i hi=>?_⟩
 ·have:=zaa (i:=3) a.blk rfl
  simpa [Nd.kids] using this
 ·have:=k2 i (by simpa [Nd.kids] using hi)
  rw [this];simp [Nd.kids]
theorem zn9 (key:ByteArray) (E:List (ByteArray × ByteArray)):(zbi key E).length<=E.length:=List.length_filter_le _ _
theorem zo8:∀ (h:Nat) (w0 W:World) (G:Nat->Prop) (tb rb place n m:Nat) (S:RS) (p:Nat) (t:PT h) (frm tt:ByteArray) (limit lb deep base:Nat) (L:List (ByteArray × ByteArray)) (v:Value) (_:zak w0 W G G tb rb place n m S) (_:Acc base W lb L v) (_:w0.heap.size<=lb) (_:w0.heap.size<=base) (_:base<=W.heap.size) (_:∀ k,G k->k<w0.heap.size) (_:Tr S h p t) (_:deep+h<=20) (_:m<=3900000) (_:L.length+(ents h t).length<=40000000) (_:limit<=9223372036854775807),
 Calls Tryz.prog 142 #[.pointer (some ⟨tb,0,none⟩),.int .i64 (p:Int),.string frm,.string tt,.int .i64 (limit:Int),.pointer (some ⟨lb,0,none⟩),.int .i64 (deep:Int)] W λ e w'=>∃ ok,e=.returned (.bool ok)/\Hid (zcx base W w' lb v frm tt limit (ents h t) L ok)
 | 0,w0,W,G,tb,rb,place,n,m,S,p,t,frm,tt,limit,lb,deep,base,L,v,hB,hA,hl,hb,hbW,hG,hT,hd,hm,hcap,hlim=>by
   by_cases htt:tt.size=0
   ·exact zme w0 W G tb rb place n m S p t frm tt limit lb deep base L v hB hA hl hb hbW hG hT (by omega) hm hcap hlim htt
   ·exact zkL w0 W G tb rb place n m S p t frm tt limit lb deep base L v hB hA hl hb hbW hG hT (by omega) hm hcap hlim htt
 | hh+1,w0,W,G,tb,rb,place,n,m,S,p,t,frm,tt,limit,lb,deep,base,L,v,hB,hA,hl,hb,hbW,hG,hT,hd,hm,hcap,hlim=>by
   have hnot:∀ (x:Bool) (w:World),(Op.unary .not (.bool x)).run Tryz.prog w=.ok (.bool (!x)) w:=λ _ _=>rfl
   have RD:=Hd (zcf hB (by omega) hT.on hT.fit hT.ok)
   have hd1:¬(20:Int)<(deep:Int):=by omega
   have hd2:deep<=20:=by omega
   have hpos:=hT.pos
   rw [zaq] at hpos
   obtain ⟨A,x,B,rfl,hW,hAx⟩:=zcA t frm (hT.wf.2.keys λ x hx=>zbG (hT.wf.1 x hx).2.2.2.2 (hT.wf.1 x hx).2.2.1) hpos
   have hlen:(nd (hh+1) (A++x::B:List (Kid hh))).len<=1000000:=Nat.le_of_lt (Nat.lt_trans hT.ok.few (by decide))
   have hfew:=hT.ok.few
   rw [zaq] at hfew
   have hK:∀ y∈x::B,Tr S hh y.2.1 y.2.2:=λ y hy=>hT.kid (x:=y) (by simp at hy ⊢;exact .inr hy)
   have HF:Hid (zbi frm (ents (hh+1) (A++x::B:List (Kid hh)))=zbi frm (ents (hh+1) (x::B:List (Kid hh)))):=Hd (by
    obtain ⟨w1,w2⟩:=hT.wf.2.way hW
    rw [zcQ,zer,zfG (λ e he=>by obtain ⟨y,hy,he⟩:=(zbq hh A e).1 he;exact w1 y hy e he),List.nil_append])
   have HCE:Hid (L.length+(ents (hh+1) (x::B:List (Kid hh))).length<=40000000):=Hd (by
    rw [zcQ,zLa] at hcap;omega)
   have IH:Hid (∀ wr Lj vj,∀ y∈x::B,zak w0 wr G G tb rb place n m S->Acc base wr lb Lj vj->base<=wr.heap.size->Lj.length+(ents hh y.2.2).length<=40000000->Calls Tryz.prog 142 #[.pointer (some ⟨tb,0,none⟩),.int .i64 (y.2.1:Int),.string frm,.string tt,.int .i64 (limit:Int),.pointer (some ⟨lb,0,none⟩),.int .i64 ((deep:Int)+1)] wr λ e w'=>∃ ok,e=.returned (.bool ok)/\Hid (zcx base wr w' lb vj frm tt limit (ents hh y.2.2) Lj ok)):=Hd λ wr Lj vj y hy hb1 ha1 hbw1 hc1=>by
    have:=zo8 hh w0 wr G tb rb place n m S y.2.1 y.2.2 frm tt limit lb (deep+1) base Lj vj hb1 ha1 hl hb hbw1 hG (hK y hy) (by omega) hm hc1 hlim
    rw [show ((deep+1:Nat):Int)=(deep:Int)+1 by omega] at this
    exact this
   have HB:=Hd hB
   have HAcc:=Hd hA
   have HG:=Hd hG
   have HLB:Hid (lb<W.heap.size):=Hd (zab hA.blk)
   have HBW:=Hd hbW
   have HBB:=Hd hb
   have HLO:=Hd hl
   have HW:=Hd hW
   have HAX:=Hd hAx
   have HLEN:=Hd hlen
   clear hB hA hG hT hm hcap hd hbW hb hK hW hAx hlen hpos hl
   go_enter Tryz.func142,Tryz.ntmps142
   go_wp2_with fail
   refine RD.out.mono ?_
   rintro e w3 ⟨q,rfl,HO⟩
   have HO3:Hid (∃ F,ziD w3 q (nd (hh+1) (A++x::B:List (Kid hh))) F/\(∀ k,F k->W.heap.size<=k/\k<w3.heap.size)/\Below W.heap.size W w3):=Hd (by
    obtain ⟨F,a,b,c⟩:=HO.out
    exact ⟨F,a.rdIn,λ k hk=>⟨b k hk,a.lt k hk⟩,c⟩)
   have N3:Hid (RdN w0 w3 G q (nd (hh+1) (A++x::B:List (Kid hh)))):=Hd (HO.out.rdN HB.out.up.size HB.out.room.lt)
   obtain ⟨F3,f1,f2,f3⟩:=HO3.out
   have c0:w3.cell? ⟨q,0,none⟩=some (.bool false):=by obtain ⟨vk,vv,vi,a,b⟩:=f1;exact zaa a.blk rfl
   rw [show nd (hh+1) (A++x::B:List (Kid hh))=.inner ((A++x::B:List (Kid hh)).map (λ x:Kid hh=>(x.1,x.2.1))) by rfl] at f1
   obtain ⟨g3,o3,cp3,k3,hcp,hFF,kc⟩:=zqg f1 (by simp;omega)
   rw [zLm] at k3 hcp
   have KC:Hid (∀ i (hi:i<(x::B).length),w3.cell? ⟨g3,o3+(A.length+i),none⟩=some (.int .i64 ((x::B)[i].2.1:Int))):=Hd λ i hi=>by
    have:=kc (A.length+i) (by simp at hi ⊢;omega)
    rw [List.getElem_map,List.getElem_append_right (by omega)] at this
    simp only [Nat.add_sub_cancel_left] at this
    exact this
   have hdr:=(zBr w3.heap.size w3).drew
   have WN:Hid (Calls Tryz.prog 166 #[.pointer (some ⟨q,0,none⟩),.string frm] w3.drew λ e w'=>e=.returned (.int .i64 (A.length:Nat))/\w'.cell? ⟨q,3,none⟩=some (.slice (some ⟨g3,o3,none⟩) (A++x::B).length cp3)/\Hid (Below w3.heap.size w3 w')):=Hd (by
    refine (zgg (N3.out.below hdr) HLEN.out HW.out HAX.out).mono ?_
    rintro e w' ⟨rfl,hb⟩
    have hb':Below w3.heap.size w3 w':=hdr.trans hb.out
    exact ⟨rfl,(zCb (hb'.block _ (World.block_lt_of_cell? _ _ k3))).trans k3,hb'⟩)
   have HFF:=Hd hFF
   have HF2:=Hd f2
   have HF3:=Hd f3
   have hAB:(A++x::B).length=A.length+(x::B).length:=by simp
   have s1:(A.length<=(A++x::B).length)=True:=by simp
   have s2:(cp3=A.length)=False:=by simp at hcp;simp;omega
   have s3:(A++x::B).length-A.length=(x::B).length:=by simp
   have s4:(x::B).length<=65536:=by simp at hfew ⊢;omega
   have HABL:=Hd hAB
   clear f1 f2 f3 hFF kc hdr hfew hcp hAB RD HO
   generalize (A++x::B).length=NN at *
   go_wp2_with fail
   go_region_held3 (λ w'=>w'.cell? ⟨q,3,none⟩=some (.slice (some ⟨g3,o3,none⟩) NN cp3)) (go_keep) ((go_at_call 166;refine Calls.at_args WN.out (by with_reducible rfl) ?_;rintro e w4 ⟨rfl,hk4,HB4⟩))
   all_goals (
    have BL4:Hid (Below W.heap.size W w4):=Hd (HF3.out.trans (HB4.out.mono HF3.out.size))
    have A4:=Hd (HAcc.out.below BL4.out)
    have B4:=Hd (HB.out.below BL4.out)
    have KC4:Hid (∀ wr,Upd (λ k=>k=lb\/v.ownBlock=some k) w4 wr->∀ i (hi:i<(x::B).length),wr.cell? ⟨g3,o3+(A.length+i),none⟩=some (.int .i64 ((x::B)[i].2.1:Int))):=Hd λ wr hu i hi=>by
     have h0:=KC.out i hi
     have h1:=(zCb (HB4.out.block _ (World.block_lt_of_cell? _ _ h0))).trans h0
     have h2:=HF2.out g3 HFF.out.2
     refine (zCb (hu.block _ (World.block_lt_of_cell? _ _ h1) λ e=>?_)).trans h1
     rcases e with e|e
     ·have:=HLB.out;simp only at e;omega
     ·have:=(HAcc.out.row.lt _ e).2;simp only at this;omega
    have hk0:(x::B).length=B.length+1:=zLc
    rw [zLc] at s3 s4
    generalize hBN:B.length=BN at s3 s4 hk0 ⊢
    have HKN:=Hd hk0
    clear hk0
    clear KC WN k3 N3 c0 HO3 hk4
    clear hBN
    go_wp2_with fail
    go_loopg [40] (BN+1) (λ gg s40 wr=>∃ (j:Nat),gg=BN+1-j/\j<=BN+1/\s40=.int .i64 (j:Int)/\Hid (∃ Lj vj,zd5 tt limit (zbi frm (ents (hh+1) ((x::B).take j:List (Kid hh)))) L=(Lj,true)/\Acc base wr lb Lj vj/\(∀ k,vj.ownBlock=some k->v.ownBlock=some k\/w4.heap.size<=k)/\Upd (λ k=>k=lb\/v.ownBlock=some k) w4 wr)))
   all_goals (first
    | (case atStart=>exact ⟨0,rfl,zNz _,rfl,Hd ⟨L,v,by simp [ents,zbi,zd5],A4.out,λ k e=>.inl e,Upd.refl _ _⟩⟩)
    | skip)
   all_goals (
    obtain ⟨j,hgk,hj,rfl,HI⟩:=hrel
    obtain ⟨Lj,vj,hs,ha,hn,hu⟩:=HI.out
    have HGK:=Hd hgk
    have HS:=Hd hs
    have HN:=Hd hn
    have HU:=Hd hu
    have HA2:=Hd ha
    by_cases hjl:j<BN+1
    ·have hjx:j<(x::B).length:=by rw [HKN.out];exact hjl
     have k5:=KC4.out wr hu j hjx
     rw [<-Nat.add_assoc] at k5
     obtain ⟨y,hy⟩:=exE ((x::B)[j])
     rw [hy] at k5
     have hym:y∈x::B:=by rw [<-hy];exact List.getElem_mem hjx
     have hsum:ents (hh+1) ((x::B).take (j+1):List (Kid hh))=ents (hh+1) ((x::B).take j:List (Kid hh))++ents hh y.2.2:=by
      rw [zTs hjx,hy,zcQ];simp [ents]
     have hle:(ents (hh+1) ((x::B).take (j+1):List (Kid hh))).length<=(ents (hh+1) (x::B:List (Kid hh))).length:=by
      have e1:ents (hh+1) (x::B:List (Kid hh))=ents (hh+1) ((x::B).take (j+1):List (Kid hh))++ents (hh+1) ((x::B).drop (j+1):List (Kid hh)):=by
       rw [<-zcQ,List.take_append_drop]
      rw [e1,zLa];omega
     have hfewj:Lj.length+(ents hh y.2.2).length<=40000000:=by
      have h1:=znZ hs
      have h2:=zn9 frm (ents (hh+1) ((x::B).take j:List (Kid hh)))
      have h3:=HCE.out
      rw [hsum,zLa] at hle;omega
     have hBr:zak w0 wr G G tb rb place n m S:=B4.out.acc A4.out HLO.out HBB.out HG.out ⟨⟨vj,ha,hn⟩,hu⟩
     have CL:=Hd (IH.out wr Lj vj y hym hBr ha (by have:=hu.size;have:=BL4.out.size;have:=HBW.out;omega) hfewj)
     have HSUM:=Hd hsum
     have HJL:=Hd hjl
     have hKT:Hid ((x::B).take (BN+1)=x::B):=Hd (by rw [<-HKN.out];exact List.take_length)
     have hlt:(j:Int)<(BN:Int)+1:=by omega
     have hj6:j<=65536:=by omega
     have HDROP:Hid (zbi frm (ents (hh+1) (x::B:List (Kid hh)))=zbi frm (ents (hh+1) ((x::B).take (j+1):List (Kid hh)))++zbi frm (ents (hh+1) ((x::B).drop (j+1):List (Kid hh)))):=Hd (by
      rw [<-zer,<-zcQ,List.take_append_drop])
     clear hjx hy hym hsum hle hfewj hBr hs ha hn hu HI IH hgk hj
     go_wp2_with fail
     refine CL.out.mono ?_
     rintro e w7 ⟨ok,rfl,HE⟩
     obtain ⟨L7,r1,r2⟩:=HE.out
     have hrun:zd5 tt limit (zbi frm (ents (hh+1) ((x::B).take (j+1):List (Kid hh)))) L=(L7,ok):=by
      rw [HSUM.out,zer,zdm HS.out];exact r1
     have HRUN:=Hd hrun
     have HGO7:Hid (zdn base w4 w7 lb v L7):=Hd (zdn.trans HU.out HN.out r2)
     clear CL k5 r1 r2 hrun HE
     cases ok with
     | false =>
       have HE2:Hid (zcx base W w7 lb v frm tt limit (ents (hh+1) (A++x::B:List (Kid hh))) L false):=Hd ⟨L7,by rw [HF.out,HDROP.out];exact zkG HRUN.out,zdn.below_left BL4.out HGO7.out⟩
       go_wp2_with fail
       go_ret
       first|exact ⟨false,rfl,HE2⟩|exact .inl ⟨rfl,HE2⟩
     | true =>
       go_wp2_with fail
       go_roundg (BN+1-(j+1))
       case measure=>have:=HGK.out;have:=HJL.out;omega
       case rel =>
        obtain ⟨⟨v7,x1,x2⟩,x3⟩:=HGO7.out
        exact ⟨j+1,rfl,HJL.out,by congr 1,Hd ⟨L7,v7,HRUN.out,x1,x2,x3⟩⟩
    ·have hje:j=BN+1:=by omega
     have HE2:Hid (zcx base W wr lb v frm tt limit (ents (hh+1) (A++x::B:List (Kid hh))) L true):=Hd ⟨Lj,by
      rw [HF.out]
      rw [hje,<-HKN.out,List.take_length] at hs
      exact hs,zdn.below_left BL4.out ⟨⟨vj,ha,hn⟩,hu⟩⟩
     have hlt:¬(j:Int)<(BN:Int)+1:=by omega
     have hlt2:decide ((j:Int)<(BN:Int)+1)=false:=by simp;omega
     have hlt3:((j:Int)<(BN:Int)+1)=False:=by simp;omega
     clear hs ha hn hu HI IH hgk hj
     go_wp2_with fail
     go_ret
     first|exact ⟨true,rfl,HE2⟩|exact .inr ⟨rfl,HE2⟩)
def zeQ (w:World):World:=(w.alloc (.cells #[.slice none 0 0] 166)).alloc (.cells #[.int .i64 0] 34)
theorem zdW (w:World):Below w.heap.size w (zeQ w):=((zBr w.heap.size w).alloc (zNr _) _).alloc (by simp) _
theorem zeR (w:World):(zeQ w).heap.size=w.heap.size+2:=by unfold zeQ;simp
theorem zfK (w:World):Acc (w.heap.size+2) (zeQ w) w.heap.size [] (.slice none 0 0):=by
 refine ⟨?_,⟨rfl,.inl ⟨rfl,rfl⟩⟩,by simp [Value.ownBlock],by simp⟩
 unfold zeQ;rw [zam,if_neg (by simp),heap_alloc_new]
theorem ziL (w:World):(zeQ w).heap[w.heap.size+1]?=some (.cells #[.int .i64 0] 34 (0,0)):=by
 unfold zeQ;rw [zam,if_pos (by simp)]
def StK (w w':World) (G:Nat->Prop) (rb n m:Nat) (S:RS):Prop:=RmS w' G rb n m S/\Upd G w w'
theorem StG.keep {w W:World} {G:Nat->Prop} {rb n m:Nat} {S:RS} (h:StG w W G G rb n m S):StK w W G rb n m S:=⟨h.room,h.up⟩
def zdX (w w':World) (G:Nat->Prop) (rb n m:Nat) (S:RS) (E:List (ByteArray × ByteArray)) (v:Value):Prop:=w'.ownsRow (w.heap.size+2) 170 2 v E.length (zes E)/\StK w w' G rb n m S
theorem zhM (G:Nat->Prop) (tb rb place n m:Nat) (S:RS) (w:World) (frm tt:ByteArray) (limit:Int) (h:RmS w G rb n m S) (ht:TB w tb rb place) (hg:¬G tb) (hp:place<16) (hm:m<=3900000) (hr:S.root place=0) :
 Calls Tryz.prog 87 #[.pointer (some ⟨tb,0,none⟩),.string frm,.string tt,.int .i64 limit] w λ e w'=>∃ v,e=.returned (.tuple #[v,.int .i64 0])/\Hid (zdX w w' G rb n m S [] v):=by
 have hmf:∀ (fn:Fn) (first cap:Array Value) (w:World),(Instr.makeFunc fn first cap).run Tryz.prog w=.ok (.func fn first cap) w:=λ _ _ _ _=>rfl
 have B0:=Hd ((zak.start h ht hg).below (zdW w))
 have HG:=Hd h.lt
 have HM:=Hd hm
 have A0:=Hd (zfK w)
 have E0:=Hd (ziL w)
 have S0:=Hd (zeR w)
 have RT:=zc3 G tb rb place n m S _ B0.out.room B0.out.blk hp (by omega) (by rw [hr];omega)
 rw [hr] at RT
 clear h ht hg hp hm hr
 go_enter_defers Tryz.func87,Tryz.ntmps87
 go_wp2_with fail
 change Calls Tryz.prog 125 #[.pointer (some ⟨tb,0,none⟩)] (zeQ w) _
 generalize zeQ w=W0 at *
 refine RT.mono ?_
 rintro e w2 ⟨rfl,hb⟩
 have B9:=Hd (B0.out.below hb.out)
 have A9:=Hd (A0.out.below hb.out)
 have E9:Hid (w2.heap[w.heap.size+1]?=some (.cells #[.int .i64 0] 34 (0,0))):=Hd ((hb.out.block _ (zab E0.out)).trans E0.out)
 obtain ⟨v9,hv9⟩:=exE (Value.slice none 0 0)
 rw [hv9] at A9
 clear hv9 RT hb
 have hfl:((w2.setCell ⟨w.heap.size,0,none⟩ v9).setCell ⟨w.heap.size+1,0,none⟩ (.int .i64 0)).cell? ⟨w.heap.size,0,none⟩=some v9:=zaa ((zae _ (by omega)).trans (zac A9.out.blk _)) rfl
 have hfe:((w2.setCell ⟨w.heap.size,0,none⟩ v9).setCell ⟨w.heap.size+1,0,none⟩ (.int .i64 0)).cell? ⟨w.heap.size+1,0,none⟩=some (.int .i64 0):=zaa (zac ((zae _ (by omega)).trans E9.out) _) rfl
 have HRES:Hid (zdX w ((w2.setCell ⟨w.heap.size,0,none⟩ v9).setCell ⟨w.heap.size+1,0,none⟩ (.int .i64 0)) G rb n m S [] v9):=Hd (by
  refine ⟨zci A9.out.row λ k hk=>?_,(((StG.of B9.out (zBr _ _)).loc (x:=w.heap.size) (zNr _) (λ e=>by have:=HG.out _ e;omega) 0 _).loc (x:=w.heap.size+1) (by omega) (λ e=>by have:=HG.out _ e;omega) 0 _).keep⟩
  have h1:=(A9.out.row.lt k hk).1
  exact (zae _ (by omega)).trans (zae _ (by omega)))
 have m0:w2.cell? ⟨w.heap.size,0,none⟩=some v9:=zaa A9.out.blk rfl
 have m1:w2.frozen? ⟨w.heap.size,0,none⟩=false:=zad A9.out.blk 0
 have m2:w2.cell? ⟨w.heap.size+1,0,none⟩=some (.int .i64 0):=zaa E9.out rfl
 have m3:w2.frozen? ⟨w.heap.size+1,0,none⟩=false:=zad E9.out 0
 obtain ⟨xa,xm,xc,rfl⟩:∃ a b c,v9=.slice a b c:=by
  rcases A9.out.row.2 with ⟨rfl,_⟩|⟨g,cap,cur,rfl,_⟩
  ·exact ⟨_,_,_,rfl⟩
  ·exact ⟨_,_,_,rfl⟩
 clear B0 A0 E0
 go_wp2_with fail
 refine leaves_cons (f:=124) (args:=#[.pointer (some ⟨w.heap.size+1,0,none⟩)]) (by simp) (by simp [go_sem]) ?_
 refine (zax _ _).mono ?_
 rintro e u' wa ⟨rfl,rfl,rfl⟩
 refine leaves_cons (f:=141) (args:=#[.pointer (some ⟨w.heap.size+1,0,none⟩),.pointer (some ⟨w.heap.size,0,none⟩)]) (by simp [settle]) (by simp [go_sem]) ?_
 refine (zeO _ _ _ _ hfe).mono ?_
 rintro e u' wb ⟨rfl,rfl,rfl⟩
 simp [Leaves,settle,results,Tryz.results87,go_sem,hfe,hfl]
 exact HRES
theorem zoa (G:Nat->Prop) (tb rb place n m:Nat) (S:RS) (hh p:Nat) (t:PT hh) (w:World) (frm tt:ByteArray) (limit:Nat) (h:RmS w G rb n m S) (ht:TB w tb rb place) (hg:¬G tb) (hp:place<16) (hm:m<=3900000) (hr:S.root place=p+1) (hT:Tr S hh p t) (hh20:hh<=20) (hl0:(ents hh t).length<=40000000) (hl1:0<limit) (hl2:limit<=9223372036854775807) :
 Calls Tryz.prog 87 #[.pointer (some ⟨tb,0,none⟩),.string frm,.string tt,.int .i64 (limit:Int)] w λ e w'=>∃ v,e=.returned (.tuple #[v,.int .i64 0])/\Hid (zdX w w' G rb n m S (zd5 tt limit (zbi frm (ents hh t)) []).1 v):=by
 have hmf:∀ (fn:Fn) (first cap:Array Value) (w:World),(Instr.makeFunc fn first cap).run Tryz.prog w=.ok (.func fn first cap) w:=λ _ _ _ _=>rfl
 obtain ⟨RL,hRL⟩:=exE ((zd5 tt limit (zbi frm (ents hh t)) []).1)
 rw [hRL]
 have HRL:=Hd hRL
 clear hRL
 have hp65:p<65536:=by
  have:=h.lim p hT.on.top.1
  have:=h.bounds
  unfold zaf at *;omega
 have B0:=Hd ((zak.start h ht hg).below (zdW w))
 have HG:=Hd h.lt
 have HM:=Hd hm
 have A0:=Hd (zfK w)
 have E0:=Hd (ziL w)
 have S0:=Hd (zeR w)
 have RT:=zc3 G tb rb place n m S _ B0.out.room B0.out.blk hp (by omega) (by rw [hr];omega)
 rw [hr,show (((p+1:Nat):Int)-1)=(p:Int) by omega] at RT
 have HT:=Hd hT
 have HH:=Hd hh20
 have HL0:=Hd hl0
 have HL2:=Hd hl2
 have hlim1:(0:Int)<(limit:Int):=by omega
 have hp0:(0:Int)<=(p:Int):=by omega
 clear h ht hg hp hm hr hT hh20 hl0 hl1 hl2 hp65
 go_enter_defers Tryz.func87,Tryz.ntmps87
 go_wp2_with fail
 change Calls Tryz.prog 125 #[.pointer (some ⟨tb,0,none⟩)] (zeQ w) _
 generalize zeQ w=W0 at *
 refine RT.mono ?_
 rintro e w2 ⟨rfl,hb⟩
 have B2:=Hd (B0.out.below hb.out)
 have A2:=Hd (A0.out.below hb.out)
 have E2:Hid (w2.heap[w.heap.size+1]?=some (.cells #[.int .i64 0] 34 (0,0))):=Hd ((hb.out.block _ (zab E0.out)).trans E0.out)
 have SC0:=zo8 hh w w2 G tb rb place n m S p t frm tt limit w.heap.size 0 (w.heap.size+2) [] (.slice none 0 0) B2.out A2.out (zNr _) (by omega) (by have:=hb.out.size;have:=S0.out;omega) HG.out HT.out (by have:=HH.out;omega) HM.out (by have:=HL0.out;simp;omega) (by have:=HL2.out;omega)
 rw [show ((0:Nat):Int)=0 from rfl] at SC0
 have SC:=Hd SC0
 clear RT hb SC0 B0 A0 E0
 go_wp2_with fail
 refine SC.out.mono ?_
 rintro e w9 ⟨ok,rfl,HE⟩
 clear SC
 obtain ⟨L9,hr9,hgo⟩:=HE.out
 obtain rfl:RL=L9:=HRL.out.symm.trans (congrArg Prod.fst hr9)
 have B9:=Hd (B2.out.acc A2.out (zNr _) (by omega:w.heap.size<=w.heap.size+2) HG.out hgo)
 obtain ⟨⟨v9,a9,b9⟩,c9⟩:=hgo
 have A9:=Hd a9
 have E9:Hid (w9.heap[w.heap.size+1]?=some (.cells #[.int .i64 0] 34 (0,0))):=Hd (c9.at E2.out λ e=>by
  rcases e with e|e
  ·omega
  ·simp [Value.ownBlock] at e)
 clear a9 b9 c9 hr9 HE B2 A2 E2
 have hfl:((w9.setCell ⟨w.heap.size,0,none⟩ v9).setCell ⟨w.heap.size+1,0,none⟩ (.int .i64 0)).cell? ⟨w.heap.size,0,none⟩=some v9:=zaa ((zae _ (by omega)).trans (zac A9.out.blk _)) rfl
 have hfe:((w9.setCell ⟨w.heap.size,0,none⟩ v9).setCell ⟨w.heap.size+1,0,none⟩ (.int .i64 0)).cell? ⟨w.heap.size+1,0,none⟩=some (.int .i64 0):=zaa (zac ((zae _ (by omega)).trans E9.out) _) rfl
 have HRES:Hid (zdX w ((w9.setCell ⟨w.heap.size,0,none⟩ v9).setCell ⟨w.heap.size+1,0,none⟩ (.int .i64 0)) G rb n m S RL v9):=Hd (by
  refine ⟨zci A9.out.row λ k hk=>?_,(((StG.of B9.out (zBr _ _)).loc (x:=w.heap.size) (zNr _) (λ e=>by have:=HG.out _ e;omega) 0 _).loc (x:=w.heap.size+1) (by omega) (λ e=>by have:=HG.out _ e;omega) 0 _).keep⟩
  have h1:=(A9.out.row.lt k hk).1
  exact (zae _ (by omega)).trans (zae _ (by omega)))
 have m0:w9.cell? ⟨w.heap.size,0,none⟩=some v9:=zaa A9.out.blk rfl
 have m1:w9.frozen? ⟨w.heap.size,0,none⟩=false:=zad A9.out.blk 0
 have m2:w9.cell? ⟨w.heap.size+1,0,none⟩=some (.int .i64 0):=zaa E9.out rfl
 have m3:w9.frozen? ⟨w.heap.size+1,0,none⟩=false:=zad E9.out 0
 obtain ⟨xa,xm,xc,rfl⟩:∃ a b c,v9=.slice a b c:=by
  rcases A9.out.row.2 with ⟨rfl,_⟩|⟨g,cap,cur,rfl,_⟩
  ·exact ⟨_,_,_,rfl⟩
  ·exact ⟨_,_,_,rfl⟩
 go_wp2_with fail
 refine leaves_cons (f:=124) (args:=#[.pointer (some ⟨w.heap.size+1,0,none⟩)]) (by simp) (by simp [go_sem]) ?_
 refine (zax _ _).mono ?_
 rintro e u' wa ⟨rfl,rfl,rfl⟩
 refine leaves_cons (f:=141) (args:=#[.pointer (some ⟨w.heap.size+1,0,none⟩),.pointer (some ⟨w.heap.size,0,none⟩)]) (by simp [settle]) (by simp [go_sem]) ?_
 refine (zeO _ _ _ _ hfe).mono ?_
 rintro e u' wb ⟨rfl,rfl,rfl⟩
 simp [Leaves,settle,results,Tryz.results87,go_sem,hfe,hfl]
 exact HRES
section
variable {base b c tb:Nat} {W W':World} {P:List Nat} {v:Value} {lv:Int} {sm:Bool} {la:ByteArray}
end
def RSt (w1 w:World) (K:Nat->Prop) (rb n m:Nat) (S:RS):Prop :=
 ∃ G,RmS w G rb n m S/\(∀ k,G k->w1.heap.size<=k)/\(∀ k,K k->k<w.heap.size/\¬G k)/\Below w1.heap.size w1 w
def zbX (K:Nat->Prop) (w w':World):Prop:=∀ k,K k->w'.heap[k]?=w.heap[k]?
section
variable {w1 w w':World} {K:Nat->Prop} {rb n m:Nat} {S:RS}
theorem zbX.trans {w2:World} (h:zbX K w w') (g:zbX K w' w2):zbX K w w2:=λ k hk=>(g k hk).trans (h k hk)
theorem zbX.mono {K':Nat->Prop} (h:zbX K w w') (hK:∀ k,K' k->K k):zbX K' w w':=λ k hk=>h k (hK k hk)
theorem zbX.tb {tb place:Nat} (h:zbX K w w') (ht:TB w tb rb place) (hk:K tb):TB w' tb rb place:=(h tb hk).trans ht
theorem RSt.below (h:RSt w1 w K rb n m S) (hb:Below w.heap.size w w'):RSt w1 w' (λ k=>K k\/(w.heap.size<=k/\k<w'.heap.size)) rb n m S/\zbX K w w':=by
 obtain ⟨G,a,b,d,e⟩:=h
 refine ⟨⟨G,a.below hb,b,λ k hk=>?_,e.trans (hb.mono e.size)⟩,λ k hk=>hb.block k (d k hk).1⟩
 rcases hk with hk|hk
 ·exact ⟨Nat.lt_of_lt_of_le (d k hk).1 hb.size,(d k hk).2⟩
 ·exact ⟨hk.2,λ hg=>by have:=a.lt k hg;omega⟩
theorem RSt.mono {K':Nat->Prop} (h:RSt w1 w K rb n m S) (hK:∀ k,K' k->K k):RSt w1 w K' rb n m S:=by
 obtain ⟨G,a,b,d,e⟩:=h
 exact ⟨G,a,b,λ k hk=>d k (hK k hk),e⟩
theorem RSt.more {m':Nat} (h:RSt w1 w K rb n m S) (hm:m<=m'):RSt w1 w K rb n m' S:=by
 obtain ⟨G,a,b,d,e⟩:=h
 exact ⟨G,a.more hm,b,d,e⟩
theorem RSt.bel (h:RSt w1 w K rb n m S):Below w1.heap.size w1 w:=by obtain ⟨G,a,b,d,e⟩:=h;exact e
theorem RSt.of {G:Nat->Prop} {S':RS} {m':Nat} (b:∀ k,G k->w1.heap.size<=k) (d:∀ k,K k->k<w.heap.size/\¬G k) (e:Below w1.heap.size w1 w) (h:zb1 w w' G rb n m' S'):RSt w1 w' K rb n m' S'/\zbX K w w':=by
 obtain ⟨G',r,t⟩:=h
 have hs:=e.size
 refine ⟨⟨G',r,λ k hk=>?_,λ k hk=>⟨Nat.lt_of_lt_of_le (d k hk).1 t.upd.size,λ hg=>?_⟩,e.trans (t.upd.below hs λ k hk hg=>by have:=b k hg;omega)⟩,λ k hk=>t.upd.block k (d k hk).1 (d k hk).2⟩
 ·rcases t.sub k hk with h1|h1
  ·exact b k h1
  ·omega
 ·rcases t.sub k hg with h1|h1
  ·exact (d k hk).2 h1
  ·have:=(d k hk).1;omega
theorem RSt.ofK {G:Nat->Prop} {S':RS} {m':Nat} (a:RmS w G rb n m S) (b:∀ k,G k->w1.heap.size<=k) (d:∀ k,K k->k<w.heap.size/\¬G k) (e:Below w1.heap.size w1 w) (h:StK w w' G rb n m' S'):RSt w1 w' (λ k=>K k\/(w.heap.size<=k/\k<w'.heap.size)) rb n m' S'/\zbX K w w':=by
 have hs:=e.size
 refine ⟨⟨G,h.1,b,λ k hk=>?_,e.trans (h.2.below hs λ k hk hg=>by have:=b k hg;omega)⟩,λ k hk=>h.2.block k (d k hk).1 (d k hk).2⟩
 rcases hk with hk|hk
 ·exact ⟨Nat.lt_of_lt_of_le (d k hk).1 h.2.size,(d k hk).2⟩
 ·exact ⟨hk.2,λ hg=>by have:=a.lt k hg;omega⟩
end
section
variable (w1 w:World) (K:Nat->Prop) (tb rb place n m:Nat) (S:RS) (o:Option TT)
theorem zrW (k:Nat) (key val:ByteArray) (h:RSt w1 w K rb n m S) (ht:TB w tb rb place) (hK:K tb) (ho:zaY S place o) (hs:zaR S n (k+2)) (hp:place<16) (hm:m<=3900000) (hks:key.size<=96) (hvs:val.size<=56) (hk20:k<=20) (hh:zeP o<=k) :
 Calls Tryz.prog 71 #[.pointer (some ⟨tb,0,none⟩),.string key,.string val] w λ e w'=>e=.returned (.int .i64 0)/\Hid (∃ S' o',RSt w1 w' K rb n (m+100) S'/\zbX K w w'/\zhE place n S S' o o' key val):=by
 obtain ⟨G,a,b,d,e⟩:=h
 have fin:∀ w',zc5 w w' G rb n m place S o key val->∃ S' o',RSt w1 w' K rb n (m+100) S'/\zbX K w w'/\zhE place n S S' o o' key val:=λ w' ⟨S',o',hs,hg⟩ =>
  ⟨S',o',(RSt.of b d e hs).1,(RSt.of b d e hs).2,hg⟩
 cases o with
 | none =>
   refine (zlZ G tb rb place n m S key val w a ht (d tb hK).2 hp hm hks hvs ho (hs.less (by omega))).mono ?_
   rintro e w' ⟨rfl,hE⟩
   exact ⟨rfl,Hd (fin w' hE.out)⟩
 | some T =>
   have hT:T.h<=k:=hh
   refine (zpV G tb rb place n m S T key val w a ht (d tb hK).2 hp hm hks hvs ho (by omega) (hs.less (by omega))).mono ?_
   rintro e w' ⟨rfl,hE⟩
   exact ⟨rfl,Hd (fin w' hE.out)⟩
theorem zrX (key:ByteArray) (h:RSt w1 w K rb n m S) (ht:TB w tb rb place) (hK:K tb) (ho:zaY S place o) (hp:place<16) (hm:m<=3900000) (hh:zeP o<=20) :
 Calls Tryz.prog 74 #[.pointer (some ⟨tb,0,none⟩),.string key] w λ e w'=>∃ was:Bool,e=.returned (.tuple #[.bool was,.int .i64 0])/\Hid (∃ S' o',RSt w1 w' K rb n (m+300) S'/\zbX K w w'/\((was=true/\zp2 place n S S' o o' key)\/(was=false/\S'=S/\o'=o/\∀ e∈zbh o,e.1≠key))):=by
 obtain ⟨G,a,b,d,e⟩:=h
 have fin:∀ w' was,zcD w w' G rb n m place S o key was->∃ S' o',RSt w1 w' K rb n (m+300) S'/\zbX K w w'/\((was=true/\zp2 place n S S' o o' key)\/(was=false/\S'=S/\o'=o/\∀ e∈zbh o,e.1≠key)):=λ w' was hE=>by
  cases was with
  | true =>
    unfold zcD at hE
    rw [if_pos rfl] at hE
    obtain ⟨S',o',hs,hg⟩:=hE
    exact ⟨S',o',(RSt.of b d e hs).1,(RSt.of b d e hs).2,.inl ⟨rfl,hg⟩⟩
  | false =>
    unfold zcD at hE
    rw [if_neg (by simp)] at hE
    exact ⟨S,o,(RSt.of b d e hE.1).1,(RSt.of b d e hE.1).2,.inr ⟨rfl,rfl,rfl,hE.2⟩⟩
 cases o with
 | none =>
   refine (ziI G tb rb place n m S key w a ht (d tb hK).2 hp hm ho).mono ?_
   rintro e w' ⟨was,rfl,hE⟩
   exact ⟨was,rfl,Hd (fin w' was hE.out)⟩
 | some T =>
   refine (ziJ G tb rb place n m S T.h T.p T.t key w a ht (d tb hK).2 hp hm ho.1 ho.2 hh).mono ?_
   rintro e w' ⟨was,rfl,hE⟩
   exact ⟨was,rfl,Hd (fin w' was hE.out)⟩
theorem zsE (key:ByteArray) (h:RSt w1 w K rb n m S) (ht:TB w tb rb place) (hK:K tb) (ho:zaY S place o) (hp:place<16) (hm:m<=3900000) (hh:zeP o<=19) :
 Calls Tryz.prog 115 #[.pointer (some ⟨tb,0,none⟩),.string key] w λ e w'=>∃ v ok,e=.returned (.tuple #[.string v,.bool ok,.int .i64 0])/\Got key (zbh o) v ok/\Hid (RSt w1 w' K rb n m S/\zbX K w w'):=by
 obtain ⟨G,a,b,d,e⟩:=h
 cases o with
 | none =>
   refine (znX G tb rb place n m S key w a ht (d tb hK).2 hp hm ho).mono ?_
   rintro e' w' ⟨v,ok,rfl,hg,hE⟩
   exact ⟨v,ok,rfl,hg,Hd (RSt.of b d e hE.out)⟩
 | some T =>
   refine (znY G tb rb place n m S T.h T.p T.t key w a ht (d tb hK).2 hp hm ho.1 ho.2 hh).mono ?_
   rintro e' w' ⟨v,ok,rfl,hg,hE⟩
   exact ⟨v,ok,rfl,hg,Hd (RSt.of b d e hE.out)⟩
def zsF (w1 w w':World) (K:Nat->Prop) (rb n m:Nat) (S:RS):Prop:=RSt w1 w' (λ k=>K k\/(w.heap.size<=k/\k<w'.heap.size)) rb n m S/\zbX K w w'
theorem zmf (frm tt:ByteArray) (limit:Nat) (h:RSt w1 w K rb n m S) (ht:TB w tb rb place) (hK:K tb) (ho:zaY S place o) (hp:place<16) (hm:m<=3900000) (hh:zeP o<=20) (hl0:(zbh o).length<=40000000) (hl1:0<limit) (hl2:limit<=9223372036854775807) :
 Calls Tryz.prog 87 #[.pointer (some ⟨tb,0,none⟩),.string frm,.string tt,.int .i64 (limit:Int)] w λ e w'=>∃ v,e=.returned (.tuple #[v,.int .i64 0])/\Hid (w'.ownsRow (w.heap.size+2) 170 2 v (zd5 tt limit (zbi frm (zbh o)) []).1.length (zes (zd5 tt limit (zbi frm (zbh o)) []).1)/\zsF w1 w w' K rb n m S):=by
 obtain ⟨G,a,b,d,e⟩:=h
 cases o with
 | none =>
   refine (zhM G tb rb place n m S w frm tt limit a ht (d tb hK).2 hp hm ho).mono ?_
   rintro e' w' ⟨v,rfl,hE⟩
   exact ⟨v,rfl,Hd ⟨hE.out.1,RSt.ofK a b d e hE.out.2⟩⟩
 | some T =>
   refine (zoa G tb rb place n m S T.h T.p T.t w frm tt limit a ht (d tb hK).2 hp hm ho.1 ho.2 hh hl0 hl1 hl2).mono ?_
   rintro e' w' ⟨v,rfl,hE⟩
   exact ⟨v,rfl,Hd ⟨hE.out.1,RSt.ofK a b d e hE.out.2⟩⟩
end
section
variable (w1 w:World) (tb rb place n m c:Nat) (o:Option TT)
end
theorem zsX (rb place:Nat) (w:World):Calls Tryz.prog 51 #[.pointer (some ⟨rb,0,none⟩),.int .i64 (place:Int)] w λ e w'=>e=.returned (.pointer (some ⟨w.heap.size,0,none⟩))/\Hid (TB w' w.heap.size rb place/\Below w.heap.size w w'):=by
 go_enter Tryz.func51,Tryz.ntmps51
 go_wp2_with fail
 go_ret
 exact ⟨rfl,heap_alloc_new _ _,(zBr w.heap.size w).alloc (zNr _) _⟩
theorem zhN (n:Nat) (c:Nat) (h:c<=zaf n):zaR ⟨λ _=>0,λ _=>false,λ _=>zdG,[]⟩ n c:=⟨[],λ q hq=>(by cases hq),by simpa using h⟩
theorem zeG.of {w1 wa wb wc wd:World} {FL G:Nat->Prop} {lb rb n tx:Nat} (ha:Below w1.heap.size w1 wa) (h1:zd9 wb FL lb n/\(∀ k,FL k->wa.heap.size<=k)/\Below wa.heap.size wa wb) (h2:zjl wc (λ k=>k=wb.heap.size+1\/k=wb.heap.size) tx lb []/\Below wb.heap.size wb wc)
 (h3:Rm wd G rb n []/\(∀ k,G k->(FL k\/(k=wb.heap.size+1\/k=wb.heap.size))\/wc.heap.size<=k)/\Below wc.heap.size wc wd):zeG w1 wd G rb n:=by
 have s1:=ha.size
 have s2:=h1.2.2.size
 have s3:=h2.2.size
 refine ⟨h3.1,λ k hk=>?_,((ha.trans (h1.2.2.mono s1)).trans (h2.2.mono (by omega))).trans (h3.2.2.mono (by omega))⟩
 rcases h3.2.1 k hk with (e|e|e)|e
 ·have:=h1.2.1 k e;omega
 ·omega
 ·omega
 ·omega
theorem zmg {wa wb wc:World} {FL:Nat->Prop} {lb n tx:Nat} (h1:zd9 wb FL lb n/\(∀ k,FL k->wa.heap.size<=k)/\Below wa.heap.size wa wb) (h2:zjl wc (λ k=>k=wb.heap.size+1\/k=wb.heap.size) tx lb []/\Below wb.heap.size wb wc):Chg wc FL (λ k=>k=wb.heap.size+1\/k=wb.heap.size) tx lb n [] :=
 ⟨h1.1.below h2.2,h2.1,λ k hk e=>by have:=h1.1.lt k hk;omega⟩
theorem RSt.start {w1 w:World} {G:Nat->Prop} {rb n:Nat} (h:zeG w1 w G rb n) (h4:4<=n):RSt w1 w (λ _=>False) rb n 0 ⟨λ _=>0,λ _=>false,λ _=>zdG,[]⟩ :=
 ⟨G,⟨[],zNr _,h.1,Rep.start n h4⟩,h.2.1,λ _ hk=>hk.elim,h.2.2⟩
theorem zqh {A B:List (ByteArray × ByteArray)} {key v v0:ByteArray} (hA:∀ a∈A,zah a.1 key=true) (hB:∀ b∈B,zah key b.1=true) (h:(key,v0)∈A++(key,v)::B):v0=v:=by
 rcases List.mem_append.1 h with h|h
 ·have:=hA _ h;rw [zal] at this;cases this
 ·rcases List.mem_cons.1 h with h|h
  ·exact (Prod.mk.inj h).2
  ·have:=hB _ h;rw [zal] at this;cases this
theorem zob {A B:List (ByteArray × ByteArray)} {key v0:ByteArray} (hA:∀ a∈A,zah a.1 key=true) (hB:∀ b∈B,zah key b.1=true) (h:(key,v0)∈A++B):False:=by
 rcases List.mem_append.1 h with h|h
 ·have:=hA _ h;rw [zal] at this;cases this
 ·have:=hB _ h;rw [zal] at this;cases this
theorem zmh {A B:List (ByteArray × ByteArray)} {key v val:ByteArray} (h:v.size=val.size):(nd 0 (A++(key,val)::B)).size=(nd 0 (A++(key,v)::B)).size:=by
 rw [zeJ,zaE,zeJ,zaE]
 simp only [List.map_append,List.map_cons,List.sum_append,List.sum_cons,esL,h]
theorem zqi {h:Nat} {A B:List (Kid h)} {x:Kid h} {key v:ByteArray} (H:zf8 h (A++x::B)) (hW:Way key A x B) (hm:(key,v)∈ents (h+1) (A++x::B:List (Kid h))):(key,v)∈ents h x.2.2:=by
 obtain ⟨y,hy,he⟩:=List.mem_flatMap.1 hm
 rcases List.mem_append.1 hy with hy|hy
 ·exfalso
  have h1:=(List.pairwise_append.1 H.1).2.2 y hy x (by simp) _ he
  rw [hW.1 (List.ne_nil_of_mem hy)] at h1;cases h1
 ·rcases List.mem_cons.1 hy with rfl|hyB
  ·exact he
  ·exfalso
   have h2:y∈(A++x::B).tail:=by
    cases A with
    | nil=>exact hyB
    | cons a A=>exact List.mem_append_right _ (List.mem_cons_of_mem _ hyB)
   have h1:zah key y.1=false:=H.2 y h2 _ he
   rw [hW.2 y hyB] at h1;cases h1
theorem zmi (G:Nat->Prop) (tb rb place n m:Nat) (S:RS) (p:Nat) (t:PT 0) (key val:ByteArray) (deep:Nat) (w:World) (h:RmS w G rb n m S) (ht:TB w tb rb place) (hg:¬G tb) (hT:Tr S 0 p t) (hks:key.size<=96) (hvs:val.size<=56) (hdp:deep<=20) (hit:∃ v,(key,v)∈(t:List (ByteArray × ByteArray))/\v.size=val.size) (hm:m<=3998000) :
 Calls Tryz.prog 128 #[.pointer (some ⟨tb,0,none⟩),.int .i64 (p:Int),.string key,.string val,.int .i64 (deep:Int)] w λ e w'=>∃ (k:ByteArray) (q:Nat),e=.returned (.tuple #[.string k,.int .i64 (q:Int),.bool false])/\Hid (zbz w w' G rb n (m+4) S 0 p t key val k q false):=by
 have RD:=Hd (zek G tb rb place n m S p (nd 0 t) w h ht (by omega) hT.ok hT.fit hT.on.top.1 hT.on.top.2)
 have B0:=Hd (zak.start h ht hg)
 have HM1:Hid (m<=3999000):=Hd (by omega)
 have HM3:Hid (m+1<=3999000):=Hd (by omega)
 have HM2:Hid (m+1<=m+4):=Hd (by omega)
 have HM4:Hid (m+1+3<=m+4):=Hd (by omega)
 have HG:=Hd h.lt
 have hd1:¬(20:Int)<(deep:Int):=by omega
 have HT:=Hd hT
 obtain ⟨A,B,rfl,hA,hB,hor⟩:=zcP t key hT.wf.srt
 have hlen:(Nd.leaf (A++B)).len<=1000000:=Nat.le_of_lt (Nat.lt_trans hT.ok.few (by decide))
 have HL:=Hd hlen
 have HPOS:=Hd hT.pos
 have HA:=Hd hA
 have HB:=Hd hB
 have HKS:=Hd hks
 have HVS:=Hd hvs
 have HN4:Hid ((A++B).length<=90000):=Hd (by have:=hT.ok.few;rw [zaP] at this;exact Nat.le_of_lt (Nat.lt_trans this (by decide)))
 clear h ht hg hT hm hlen hA hB hks hvs hdp
 rcases hor with ⟨v,B',rfl,hB'⟩|hB'
 ·have OV:=Hd (zgJ.leaf (val:=val) HT.out (.inr ⟨v,rfl⟩) HA.out hB' HKS.out HVS.out)
  have HSZ:Hid ((nd 0 (A++(key,val)::B')).size<=512):=Hd (by
   obtain ⟨v0,hm,hs⟩:=hit
   have e:=zqh HA.out hB' hm
   subst e
   rw [zmh hs];exact HT.out.fit)
  clear hit
  clear hB'
  go_enter Tryz.func128,Tryz.ntmps128
  go_wp2_with fail
  refine RD.out.mono ?_
  rintro e w1 ⟨q,rfl,HQ⟩
  obtain ⟨F,x1,x2,x3⟩:=HQ.out
  have N1:=Hd (Nod.start (w0:=w) (G:=G) x1 x2 HG.out)
  have B1:=Hd (B0.out.below x3)
  obtain ⟨vk,vv,vi,hv1⟩:=N1.out.rd.view
  have c0:w1.cell? ⟨q,0,none⟩=some (.bool true):=zaa hv1.blk rfl
  have FD:=Hd (zdh true q (.leaf (A++(key,v)::B')) vk vv vi (A.map Prod.fst) (key::B'.map Prod.fst) key w1 hv1 (by simp [Nd.keys]) HPOS.out HL.out (λ a ha=>by obtain ⟨e,he,rfl⟩:=List.mem_map.1 ha;exact HA.out e he) (λ b hb=>by
   rcases List.mem_cons.1 hb with rfl|hb
   ·exact zal _
   ·obtain ⟨e,he,rfl⟩:=List.mem_map.1 hb;exact HB.out e (by simp [he])) ⟨λ _=>⟨_,rfl⟩,λ _=>rfl⟩)
  rw [zLm] at FD
  clear x1 x2 x3 HQ hv1 RD B0
  go_wp2_with fail
  refine FD.out.mono ?_
  rintro e w2 ⟨rfl,qn,rfl⟩
  have N2:=N1.out.below (zar w1 qn)
  have B2:=B1.out.below (zar w1 qn)
  generalize w1.drewN qn=w2 at *
  obtain ⟨F2,y1,y2⟩:=N2
  obtain ⟨g2,cap2,s1,s2,s3,s4⟩:=ziF y1 val
  have NT:Hid (Nod w (w2.setCell ⟨g2,A.length,none⟩ (.string val)) G q (nd 0 (A++(key,val)::B'))):=Hd (Nod.go y2 s4 B2.room.lt B2.up.size)
  have BT:=Hd (B2.node (by obtain ⟨F',a,b,c⟩:=s4;exact c) y2)
  have hlt:(A.length:Int)<((A.length+1+B'.length:Nat):Int):=by omega
  clear y1 y2 s4 B2 N1 B1 FD c0
  go_wp2_with fail
  have TS:=Hd (zbH NT.out OV.out.ok)
  refine TS.out.mono ?_
  rintro e w4 ⟨rfl,rfl⟩
  clear TS
  have TW:=Hd (zaA BT.out p NT.out.rd OV.out.ok HSZ.out OV.out.use HM1.out)
  have hI:(((nd 0 (A++(key,val)::B')).size:Nat):Int)<=512:=by have:=HSZ.out;omega
  go_wp2_with fail
  refine TW.out.mono ?_
  rintro e w5 ⟨rfl,HW⟩
  clear hI TW
  go_wp2_with fail
  go_ret3
  obtain ⟨G5,b5,-⟩:=HW.out
  exact ⟨ByteArray.empty,0,rfl,_,(b5.more HM2.out).go,rfl,rfl,_,OV.out.one HSZ.out⟩
 ·obtain ⟨v0,hm,hs⟩:=hit
  exact (zob HA.out hB' hm).elim
theorem zo9:∀ (h:Nat) (G:Nat->Prop) (tb rb place n m:Nat) (S:RS) (p:Nat) (t:PT h) (key val:ByteArray) (deep:Nat) (w:World) (_:RmS w G rb n m S) (_:TB w tb rb place) (_:¬G tb) (_:Tr S h p t) (_:key.size<=96) (_:val.size<=56) (_:deep+h<=20) (_:∃ v,(key,v)∈ents h t/\v.size=val.size) (_:m+4*(h+1)<=3998000),
 Calls Tryz.prog 128 #[.pointer (some ⟨tb,0,none⟩),.int .i64 (p:Int),.string key,.string val,.int .i64 (deep:Int)] w λ e w'=>∃ (k:ByteArray) (q:Nat),e=.returned (.tuple #[.string k,.int .i64 (q:Int),.bool false])/\Hid (zbz w w' G rb n (m+4*(h+1)) S h p t key val k q false)
 | 0,G,tb,rb,place,n,m,S,p,t,key,val,deep,w,h,ht,hg,hT,hks,hvs,hdp,hit,hm=>zmi G tb rb place n m S p t key val deep w h ht hg hT hks hvs (by omega) hit (by omega)
 | hh+1,G,tb,rb,place,n,m,S,p,t,key,val,deep,w,h,ht,hg,hT,hks,hvs,hdp,hit,hm=>by
   have RD:=Hd (zek G tb rb place n m S p (nd (hh+1) t) w h ht (by omega) hT.ok hT.fit hT.on.top.1 hT.on.top.2)
   have B0:=Hd (zak.start h ht hg)
   have HM1:Hid (m+4*(hh+1)<=3999000):=Hd (by omega)
   have HM3:Hid (m+4*(hh+1)+1<=3999000):=Hd (by omega)
   have HM2:Hid (m+4*(hh+1)+1<=m+4*(hh+1+1)):=Hd (by omega)
   have HM4:Hid (m+4*(hh+1)+1+3<=m+4*(hh+1+1)):=Hd (by omega)
   have HM5:Hid (m+4*(hh+1)<=m+4*(hh+1+1)):=Hd (by omega)
   have HG:=Hd h.lt
   have hd1:¬(20:Int)<(deep:Int):=by omega
   have hd2:deep<=20:=by omega
   have hlenO:=hT.ok.few
   have hpos:=hT.pos
   rw [zaq] at hpos
   obtain ⟨A,x,B,rfl,hW,hA⟩:=zcA t key (hT.wf.2.keys λ x hx=>zbG (hT.wf.1 x hx).2.2.2.2 (hT.wf.1 x hx).2.2.1) hpos
   have hk:=hT.kid (x:=x) (by simp)
   have IH:Hid (∀ W G2,zak w W G G2 tb rb place n m S->Calls Tryz.prog 128 #[.pointer (some ⟨tb,0,none⟩),.int .i64 (x.2.1:Int),.string key,.string val,.int .i64 ((deep:Int)+1)] W λ e w'=>∃ (k:ByteArray) (q:Nat),e=.returned (.tuple #[.string k,.int .i64 (q:Int),.bool false])/\Hid (zbz W w' G2 rb n (m+4*(hh+1)) S hh x.2.1 x.2.2 key val k q false)):=Hd λ W G2 hB=>by
    have:=zo9 hh G2 tb rb place n m S x.2.1 x.2.2 key val (deep+1) W hB.room hB.blk hB.gt hk hks hvs (by omega) (by
     obtain ⟨v,hm,hs⟩:=hit
     exact ⟨v,zqi hT.wf.2 hW hm,hs⟩) (by omega)
    rw [show ((deep+1:Nat):Int)=(deep:Int)+1 by omega] at this
    exact this
   have HT:=Hd hT
   have HW:=Hd hW
   have HA:=Hd hA
   have HLEN:=Hd hlenO
   clear h ht hg hT hit hm hW hA hks hvs hdp hk hpos hlenO
   go_enter Tryz.func128,Tryz.ntmps128
   go_wp2_with fail
   refine RD.out.mono ?_
   rintro e w1 ⟨q,rfl,HQ⟩
   obtain ⟨F,x1,x2,x3⟩:=HQ.out
   have N1:=Hd (Nod.start (w0:=w) (G:=G) x1 x2 HG.out)
   have B1:=Hd (B0.out.below x3)
   obtain ⟨vk,vv,vi,hv1⟩:=N1.out.rd.view
   have c0:w1.cell? ⟨q,0,none⟩=some (.bool false):=zaa hv1.blk rfl
   have WN:=Hd (zgg N1.out.rd (Nat.le_of_lt (Nat.lt_trans HLEN.out (by decide))) HW.out HA.out)
   clear x1 x2 x3 HQ hv1 RD B0
   go_wp2_with fail
   refine WN.out.mono ?_
   rintro e w2 ⟨rfl,hb⟩
   have N2:=Hd (N1.out.below hb.out)
   have B2:=Hd (B1.out.below hb.out)
   have hN2:=N2.out.rd
   rw [show nd (hh+1) (A++x::B:List (Kid hh))=.inner (A.map (λ x:Kid hh=>(x.1,x.2.1))++(x.1,x.2.1)::B.map (λ x:Kid hh=>(x.1,x.2.1))) by simp [nd]] at hN2
   obtain ⟨g3,off,cap3,k1,k2⟩:=zeN hN2
   rw [zLm,zLm] at k1
   rw [zLm] at k2
   have hlt:(A.length:Int)<((A.length+1+B.length:Nat):Int):=by omega
   have hlA:A.length<=65536:=by have:=HLEN.out;rw [zaq,zLa,zLc] at this;omega
   have IH2:=Hd (IH.out w2 G B2.out)
   clear hN2 IH N1 B1 WN c0 hb
   go_wp2_with fail
   refine IH2.out.mono ?_
   rintro e w3 ⟨k,q2,rfl,HP⟩
   clear IH2 k1 k2
   obtain ⟨S',hgo,hif⟩:=HP.out
   rw [if_neg (by simp)] at hif
   obtain ⟨rfl,rfl,t',K⟩:=hif
   have HK:=Hd K
   obtain ⟨G3,b3,-⟩:=B2.out.step hgo
   have HB3:=Hd (b3.more HM5.out)
   clear hgo K b3 HP
   go_wp2_with fail
   go_ret3
   exact ⟨ByteArray.empty,0,rfl,_,HB3.out.go,rfl,rfl,_,HK.out.inner HT.out HW.out⟩
theorem zhO {w:World} {b:Nat} {e:TypeId} {size g k cap:Nat} {xs ys:List Value} (h:w.ownsRow b e size (.slice (some ⟨g,0,none⟩) (k+1) cap) (k+1) (xs++ys)) (hl:xs.length=k*size):w.ownsRow b e size (.slice (some ⟨g,0,none⟩) k cap) k xs:=by
 refine ⟨hl,.inr ?_⟩
 rcases h.2 with ⟨e,h0⟩|⟨g',cap',cur,e,h1,h2,h3,h4,h5,h6⟩
 ·cases h0
 ·cases e
  refine ⟨_,_,cur,rfl,h1,h2,by omega,h4,h5,?_⟩
  have:=congrArg (List.take (k*size)) h6
  rw [List.take_take,List.take_append_of_le_length (by omega),Nat.min_eq_left (by rw [Nat.add_mul];omega)] at this
  rw [this,<-hl,List.take_length]
theorem zjO (l:List (Int × ByteArray)) (p:Int × ByteArray):wrs (l++[p])=wrs l++[.int .i64 p.1,.string p.2]:=by simp [wrs]
theorem ziM (l:List (Int × ByteArray)):(wrs l).length=l.length*2:=by
 induction l with
 | nil=>rfl
 | cons p l ih=>rw [show p::l=[p]++l from rfl];simp [wrs] at ih ⊢;omega
def zeS (m:List (Int × Value)) (l:List (Int × ByteArray)) (i:Int) (v:Value):List (Int × Value):=if zbF l 0 i=[] then del m i else put m i v
theorem zmj {w W:World} {F:Nat->Prop} {tb lb mw g cap:Nat} {l:List (Int × ByteArray)} {p:Int × ByteArray} {m:List (Int × Value)} {v:Value} (h:zc7 w F tb lb (l++[p]) (.slice (some ⟨g,0,none⟩) (l.length+1) cap) mw m)
 (hv:zbF l 0 p.1≠[]->v.ownBlock=(rowOf m p.1).ownBlock/\w.ownsRow 0 3 1 v (zbF l 0 p.1).length (zir (zbF l 0 p.1)))
 (hm:za2 zeZ id W mw (zeS m l p.1 v)) (hu:Upd (·=mw) w W) :
 ∃ F',zc7 (W.setCell ⟨tb,1,none⟩ (.slice (some ⟨g,0,none⟩) l.length cap)) F' tb lb l (.slice (some ⟨g,0,none⟩) l.length cap) mw (zeS m l p.1 v)/\Upd F w (W.setCell ⟨tb,1,none⟩ (.slice (some ⟨g,0,none⟩) l.length cap))/\∀ k,F' k->F k:=by
 have nmt:mw≠tb:=h.map.ne_cells h.cells
 have npm:g≠mw:=λ e=>by
  obtain ⟨cur,hc⟩:=zaj h.row (k:=g) rfl
  exact h.map.ne_cells (e ▸ hc) rfl
 have npt:g≠tb:=λ e=>by
  obtain ⟨cur,hc⟩:=zaj h.row (k:=g) rfl
  rw [e,h.cells] at hc;simp at hc
 have hc1:W.heap[tb]?=some (.cells #[.pointer (some ⟨lb,0,none⟩),.slice (some ⟨g,0,none⟩) (l.length+1) cap,.map (some mw)] 120 (0,0)):=hu.at h.cells λ e=>nmt e.symm
 have hU:Upd (λ k=>k=mw\/k=tb) w (W.setCell ⟨tb,1,none⟩ (.slice (some ⟨g,0,none⟩) l.length cap)):=(hu.mono λ _ _ e=>.inl e).trans ((zbP _ _ _ _).mono λ _ _ e=>.inr e)
 have hlk:∀ j u,zbg (zeS m l p.1 v) j=some u->(j≠p.1/\zbg m j=some u)\/(j=p.1/\zbF l 0 p.1≠[]/\u=v):=by
  intro j u hj
  unfold zeS at hj
  split at hj
  ·rw [zfk] at hj
   by_cases e:p.1=j
   ·rw [if_pos e] at hj;cases hj
   ·rw [if_neg e] at hj;exact .inl ⟨λ e'=>e e'.symm,hj⟩
  ·rename_i hne
   rw [zcJ] at hj
   by_cases e:p.1=j
   ·rw [if_pos e] at hj;cases hj;exact .inr ⟨e.symm,hne,rfl⟩
   ·rw [if_neg e] at hj;exact .inl ⟨λ e'=>e e'.symm,hj⟩
 have hoth:∀ j,j≠p.1->zbg (zeS m l p.1 v) j=zbg m j:=by
  intro j hj
  unfold zeS
  split
  ·rw [zfk,if_neg λ e=>hj e.symm]
  ·rw [zcJ,if_neg λ e=>hj e.symm]
 have hrow:∃ u,zbg m p.1=some u/\(rowOf m p.1)=u:=by
  rcases h.rows p.1 with ⟨a,b⟩|⟨u,a,-,-⟩
  ·rw [zdf,if_pos rfl] at b;simp at b
  ·exact ⟨u,a,by unfold rowOf;rw [a];rfl⟩
 obtain ⟨u0,hu0,hr0⟩:=hrow
 have keep:∀ {n:Nat} {xs:List Value} {x:Value} {sz:Nat} {e:TypeId},w.ownsRow 0 e sz x n xs->(∀ k,x.ownBlock=some k->k≠tb)->(W.setCell ⟨tb,1,none⟩ (.slice (some ⟨g,0,none⟩) l.length cap)).ownsRow 0 e sz x n xs:=λ hx hk=>zaH hx hU λ k e=>by
  rintro (rfl|rfl)
  ·obtain ⟨cur,hc⟩:=zaj hx e
   exact h.map.ne_cells hc rfl
  ·exact hk _ e rfl
 have rowt:∀ i u,zbg m i=some u->∀ k,u.ownBlock=some k->k≠tb:=λ i u hi k hk e=>by
  rcases h.rows i with ⟨a,-⟩|⟨u',a,-,c⟩
  ·rw [a] at hi;cases hi
  ·rw [a] at hi;cases hi
   obtain ⟨cur,hc⟩:=zaj c hk
   rw [e,h.cells] at hc;simp at hc
 refine ⟨λ k=>k=tb\/k=mw\/(Value.slice (some ⟨g,0,none⟩) l.length cap).ownBlock=some k\/∃ i u,zbg (zeS m l p.1 v) i=some u/\u.ownBlock=some k,⟨zac hc1 _,?_,hm.upd (zbP _ _ _ _) nmt,λ j=>?_,λ i j a b hij hi hj=>?_,λ k=>Iff.rfl⟩,hU.mono λ k _ e=>?_,λ k hk=>?_⟩
 ·refine keep (zhO (ys:=[.int .i64 p.1,.string p.2]) ?_ (ziM l)) (λ k e=>by
   have:g=k:=by simpa [Value.ownBlock] using e
   rw [<-this];exact npt)
  rw [<-zjO]
  have:=h.row
  rwa [zLa] at this
 ·by_cases e:j=p.1
  ·subst e
   by_cases hn:zbF l 0 p.1=[]
   ·exact .inl ⟨by unfold zeS;rw [if_pos hn,zfk,if_pos rfl],hn⟩
   ·obtain ⟨h1,h2⟩:=hv hn
    exact .inr ⟨v,by unfold zeS;rw [if_neg hn,zcJ,if_pos rfl],hn,keep h2 λ k hk=>rowt p.1 u0 hu0 k (by rw [<-hr0,<-h1];exact hk)⟩
  ·rw [hoth j e]
   have e2:zbF (l++[p]) 0 j=zbF l 0 j:=by rw [zdf,if_neg λ e'=>e e'.symm]
   rcases h.rows j with ⟨a,b⟩|⟨u,a,b,c⟩
   ·rw [e2] at b;exact .inl ⟨a,b⟩
   ·rw [e2] at b c;exact .inr ⟨u,a,b,keep c (rowt j u a)⟩
 ·have big:∀ i a,zbg (zeS m l p.1 v) i=some a->∃ a',zbg m i=some a'/\a.ownBlock=a'.ownBlock:=λ i a hi=>by
   rcases hlk i a hi with ⟨-,x⟩|⟨x,y,z⟩
   ·exact ⟨a,x,rfl⟩
   ·exact ⟨u0,by rw [x];exact hu0,by rw [z,(hv y).1,hr0]⟩
  obtain ⟨a',x1,x2⟩:=big i a hi
  obtain ⟨b',y1,y2⟩:=big j b hj
  rw [x2,y2]
  exact h.apart i j a' b' hij x1 y1
 ·rcases e with rfl|rfl
  ·exact (h.own _).2 (.inr (.inl rfl))
  ·exact (h.own _).2 (.inl rfl)
 ·rcases hk with rfl|rfl|e|⟨i,u,h1,h2⟩
  ·exact (h.own _).2 (.inl rfl)
  ·exact (h.own _).2 (.inr (.inl rfl))
  ·exact (h.own _).2 (.inr (.inr (.inl e)))
  ·rcases hlk i u h1 with ⟨-,x⟩|⟨x,y,z⟩
   ·exact (h.own _).2 (.inr (.inr (.inr ⟨i,u,x,h2⟩)))
   ·exact (h.own _).2 (.inr (.inr (.inr ⟨p.1,u0,hu0,by rw [<-hr0,<-(hv y).1,<-z];exact h2⟩)))
def zkM (w:World) (F:Nat->Prop) (tb lb:Nat) (base:List (Int × ByteArray)) (g:Nat) (wr:World):Prop:=∃ tl F2,g=tl.length/\zjl wr F2 tb lb (base++tl)/\Upd F w wr/\∀ k,F2 k->F k
theorem zkN {α:Type} (l:List α):l=[]\/∃ l' a,l=l'++[a]:=by
 rcases List.eq_nil_or_concat l with h|⟨l',a,h⟩
 ·exact .inl h
 ·exact .inr ⟨l',a,by simpa using h⟩
theorem zkM.step {w wr W:World} {F F2:Nat->Prop} {tb lb mw g cap L:Nat} {base tl:List (Int × ByteArray)} {p:Int × ByteArray} {m:List (Int × Value)} {v:Value} (hL:(base++tl).length=L) (h:zc7 wr F2 tb lb ((base++tl)++[p]) (.slice (some ⟨g,0,none⟩) (L+1) cap) mw m)
 (hu:Upd F w wr) (hs:∀ k,F2 k->F k) (hv:zbF (base++tl) 0 p.1≠[]->v.ownBlock=(rowOf m p.1).ownBlock/\wr.ownsRow 0 3 1 v (zbF (base++tl) 0 p.1).length (zir (zbF (base++tl) 0 p.1)))
 (hm:za2 zeZ id W mw (zeS m (base++tl) p.1 v)) (hu2:Upd (·=mw) wr W):zkM w F tb lb base tl.length (W.setCell ⟨tb,1,none⟩ (.slice (some ⟨g,0,none⟩) L cap)):=by
 subst hL
 obtain ⟨F',a,b,c⟩:=zmj h hv hm hu2
 exact ⟨tl,F',rfl,⟨_,_,_,a⟩,hu.trans (b.mono λ k _ e=>hs k e),λ k hk=>hs k (c k hk)⟩
theorem zqj (tb lb n:Nat) (FL F:Nat->Prop) (base tail:List (Int × ByteArray)) (w:World) (h:Chg w FL F tb lb n (base++tail)) (hl:(base++tail).length<=4000000) :
 Calls Tryz.prog 174 #[.pointer (some ⟨tb,0,none⟩),.int .i64 (base.length:Int)] w λ e w'=>e=.returned (.tuple #[])/\Hid (∃ F',Chg w' FL F' tb lb n base/\zdb F F' w w'):=by
 have H:=Hd h
 have R0:Hid (zkM w F tb lb base tail.length w):=Hd ⟨tail,F,rfl,h.tx,Upd.refl _ _,λ _ e=>e⟩
 have hmx:max (base.length:Int) 0=(base.length:Int):=by omega
 obtain ⟨bl,hbl⟩:=exE (base.length)
 rw [hbl] at hmx ⊢
 have HBL:=Hd hbl
 have HL:=Hd hl
 clear h hl hbl
 go_enter Tryz.func174,Tryz.ntmps174
 go_wp2_with fail
 go_loopg [4,5,6] tail.length (λ g s4 s5 s6 wr=>g<=tail.length/\Hid (zkM w F tb lb base g wr))
 case atStart=>exact ⟨zNr _,R0⟩
 case round =>
  obtain ⟨hg,HR⟩:=hrel
  obtain ⟨tl,F2,hgl,ht,hu,hs⟩:=HR.out
  clear R0 HR
  obtain ⟨pv,mw,m,ht⟩:=ht
  obtain ⟨-,c1,c2⟩:=ht.c
  have f1:=zad ht.cells 1
  rcases zkN tl with rfl|⟨tl,p,rfl⟩
  ·obtain ⟨a,l,c,rfl⟩:=zan ht.row
   obtain rfl:=zsv ht.row
   have HE:Hid (∃ F',Chg _ FL F' tb lb n base/\zdb F F' w _):=Hd ⟨F2,⟨H.out.log.frame hu λ k hk e=>H.out.apart k hk e,(by have:zjl _ F2 tb lb (base++[]):=⟨_,_,_,ht⟩;rwa [List.append_nil] at this),λ k hk e=>H.out.apart k hk (hs k e)⟩,hu,λ k hk=>.inl (hs k hk)⟩
   rw [List.append_nil,HBL.out] at c1
   clear ht hu hs
   go_wp2_with fail
   go_end0
   exact ⟨rfl,HE⟩
  ·have hap:base++(tl++[p])=(base++tl)++[p]:=by simp
   rw [hap] at ht
   obtain ⟨L,hL⟩:=exE ((base++tl).length)
   have hrow:=ht.row
   rw [zLa,hL,List.length_singleton] at hrow
   obtain ⟨gp,cap,rfl,-,-⟩:=hrow.form (by simp)
   have hLb:bl<=L:=by have:=HBL.out;rw [<-hL,zLa];omega
   have hL4:L<=4000000:=by
    have:=HL.out
    rw [zLa] at this
    rw [hgl,zLa] at hg
    rw [<-hL,zLa]
    simp at hg;omega
   have q1:(bl:Int)<(L:Int)+1:=by omega
   have e0:((L+1:Nat):Int)=(L:Int)+1:=by omega
   have c3:wr.cell? ⟨gp,L*2,none⟩=some (.int .i64 p.1):=by
    rw [hrow.cellAt (L*2) (by omega),zjO,List.getElem?_append_right (by rw [ziM,hL];exact zNr _),ziM,hL,Nat.sub_self];rfl
   have HCAP:Hid (L<=cap):=Hd (by
    rcases hrow.2 with ⟨e,h0⟩|⟨g',cap',cur,e,h1,h2,h3,-⟩
    ·cases h0
    ·cases e;omega)
   have hr0:=ht.rowOf p.1
   rw [zdf,if_pos rfl,hL,zLa] at hr0
   obtain ⟨gr,capr,hrv,hk1,hk2⟩:=hr0.form (by simp)
   have lk:=λ W (hW:W.heap[mw]?=wr.heap[mw]?)=>zb6 (w:=W) (ht.map.of_heap hW) Tryz.underlying117 Tryz.underlying3 (zea _) p.1
   simp only [zeZ,Option.map_id] at lk
   change ∀ W,W.heap[mw]?=wr.heap[mw]?->(Instr.lookup 117 (.map (some mw)) (.int .i64 p.1) false).run Tryz.prog W=.ok (rowOf m p.1) W at lk
   rw [hrv] at lk hr0
   have lk1:=lk wr rfl
   have HT:=Hd ht
   have HU:=Hd hu
   have HS:=Hd hs
   have HLL:=Hd hL
   have HG:Hid (tl.length<gk/\tl.length<=tail.length):=Hd (by rw [hgl] at hg ⊢;simp at hg ⊢;omega)
   have HR0:=Hd hr0
   have HRV:=Hd hrv
   rw [e0] at *
   clear hap hrow hr0 hrv hk1 hk2 lk ht hu hs hL hgl hg
   cases hix:zbF (base++tl) 0 p.1 with
   | nil =>
     rw [hix] at lk1
     simp only [List.length_nil,List.length_singleton,Nat.zero_add] at lk1
     obtain ⟨W,hrun,hm2,hu2⟩:=zkm (w:=wr) (ty:=0) HT.out.map Tryz.underlying117 Tryz.underlying3 p.1
     simp only [zeZ] at hrun
     have hcW:=hu2.at HT.out.cells λ e=>HT.out.map.ne_cells HT.out.cells e.symm
     have d1:W.cell? ⟨tb,1,none⟩=some (.slice (some ⟨gp,0,none⟩) (L+1) cap):=zaa hcW rfl
     have d2:=zad hcW 1
     have HST:=Hd (zkM.step (v:=.slice none 0 0) HLL.out HT.out HU.out HS.out (λ e=>absurd hix e) (by unfold zeS;rw [if_pos hix];exact hm2) hu2)
     clear hm2 hu2 hcW hix e0
     go_wp2_with fail
     all_goals first
      | (exact absurd HCAP.out (by assumption))
      | (go_roundg tl.length)
     case measure=>exact HG.out.1
     case rel=>exact ⟨HG.out.2,HST⟩
   | cons x r =>
     rw [hix] at lk1 HR0 HRV
     simp only [zLc,List.length_singleton,List.length_nil,Nat.zero_add] at lk1 HR0 HRV
     obtain ⟨R,hR⟩:=exE (r.length)
     rw [hR] at lk1 HR0 HRV
     have hrs:=zhO (xs:=zir (x::r)) (ys:=[.int .i64 (L:Int)]) (by have:=HR0.out;simpa [zir] using this) (by simp [zir,hR])
     have hR4:R<=4000000:=by
      have:=zjm (base++tl) 0 p.1
      rw [hix,zLc,hR,HLL.out] at this;omega
     have lkd:=λ W (hW:W.heap[mw]?=wr.heap[mw]?)=>(zb6 (w:=W) (HT.out.map.of_heap hW) Tryz.underlying117 Tryz.underlying3 (zea _) p.1)
     obtain ⟨W,hrun,hm2,hu2⟩:=zcN (w:=wr.drew) (HT.out.map.of_heap rfl) Tryz.underlying117 Tryz.underlying3 p.1 (Value.slice (some ⟨gr,0,none⟩) (R+1) capr)
     simp only [zeZ,id] at hrun
     have hu3:Upd (·=mw) wr W:=hu2.drew_left
     have hcW:=hu3.at HT.out.cells λ e=>HT.out.map.ne_cells HT.out.cells e.symm
     have d1:W.cell? ⟨tb,1,none⟩=some (.slice (some ⟨gp,0,none⟩) (L+1) cap):=zaa hcW rfl
     have d2:=zad hcW 1
     have d3:W.cell? ⟨tb,2,none⟩=some (.map (some mw)):=zaa hcW rfl
     have hcR:R+1<=capr:=by
      rcases HR0.out.2 with ⟨e,h0⟩|⟨g',cap',cur,e,h1,h2,h3,-⟩
      ·cases h0
      ·cases e;omega
     have HST:=Hd (zkM.step (v:=Value.slice (some ⟨gr,0,none⟩) (R+1) capr) HLL.out HT.out HU.out HS.out (λ _=>⟨by rw [HRV.out];rfl,by rw [hix,zLc,hR];exact hrs⟩) (by unfold zeS;rw [if_neg (by rw [hix];simp)];exact hm2) hu3)
     clear hm2 hu2 hu3 hcW hix e0 lkd hrs hR HR0 HRV
     go_wp2_with fail
     have hcR':(R+1<=capr)=True:=eq_true hcR
     have hcR2:(R<capr)=True:=eq_true hcR
     have hcR3:(capr=R)=False:=eq_false (by omega)
     have hcR4:IntKind.i64.wrap ((R:Int)+1)=(R:Int)+1:=zoW (by omega) (by omega)
     go_region_held (λ w'=>w'.cell? ⟨tb,2,none⟩=some (.map (some mw))) (go_keep) (fail)
     all_goals go_wp2_with fail
     all_goals first
      | (exact absurd HCAP.out (by assumption))
      | (exfalso;omega)
      | (go_roundg tl.length)
     case measure=>exact HG.out.1
     case rel=>exact ⟨HG.out.2,HST⟩
theorem ziN (G:Nat->Prop) (rb n:Nat) (base tail:List (Int × ByteArray)) (w:World) (h:Rm w G rb n (base++tail)) (hl:(base++tail).length<=4000000) :
 Calls Tryz.prog 119 #[.pointer (some ⟨rb,0,none⟩),.int .i64 (base.length:Int)] w λ e w'=>e=.returned (.tuple #[])/\Hid (∃ G',Rm w' G' rb n base/\zdb G G' w w'):=by
 obtain ⟨tb,lb,FL,F,h⟩:=h
 obtain ⟨c0,-,-⟩:=h.c
 have TM:=zqj tb lb n FL F base tail w h.chg hl
 have H:=Hd h
 clear h hl
 generalize (base.length:Int)=bl at *
 go_enter Tryz.func119,Tryz.ntmps119
 go_wp2_with fail
 refine TM.mono ?_
 rintro e w1 ⟨rfl,HB⟩
 have HE:Hid (∃ G',Rm w1 G' rb n base/\zdb G G' w w1):=Hd (by
  obtain ⟨F',a,b⟩:=HB.out
  obtain ⟨c,d⟩:=H.out.write a b
  exact ⟨_,⟨tb,lb,FL,F',c⟩,d⟩)
 go_wp2_with fail
 go_end0
 exact ⟨rfl,HE⟩
theorem zgl (G:Nat->Prop) (rb n:Nat) (puts:List (Int × ByteArray)) (S:RS) (w:World) (h:Rm w G rb n puts) (hr:Rep n puts S) (hl:puts.length<=3999990) (hfull:∀ q,q<zaf n->S.used q=true) :
 Calls Tryz.prog 44 #[.pointer (some ⟨rb,0,none⟩)] w λ e w'=>e=.returned (.tuple #[.int .i64 0,.int .i64 4])/\Hid (Below w.heap.size w w'):=by
 have DD:=zjn G rb n puts w h (by omega)
 have FR:Hid (∀ W,Below w.heap.size w W->Calls Tryz.prog 92 #[.pointer (some ⟨rb,0,none⟩)] W λ e w'=>e=.returned (.tuple #[.int .i64 (-1),.int .i64 0])/\Hid (Below w.heap.size w w')):=Hd λ W hW=>by
  refine (zo0 G rb n puts S W (h.below hW) hr (by omega)).mono ?_
  rintro e w' ⟨r,rfl,hf,hb⟩
  rcases hf with ⟨p,rfl,a,b,-⟩|⟨rfl,b⟩
  ·rw [hfull p a] at b;cases b
  ·exact ⟨rfl,hW.trans (hb.mono hW.size)⟩
 clear h hr hfull hl
 go_enter Tryz.func44,Tryz.ntmps44
 go_wp2_with fail
 refine DD.mono ?_
 rintro e w1 ⟨rfl,hb⟩
 have HB:=Hd hb
 clear hb
 go_wp2_with fail
 refine (FR.out _ HB.out).mono ?_
 rintro e w2 ⟨rfl,HB2⟩
 clear FR DD
 go_wp2_with fail
 go_ret2
 exact ⟨rfl,HB2⟩
theorem zmk (w:World):Calls Tryz.prog 131 #[.int .i64 4] w λ e w'=>e=.panicked [{ v:=.iface 258 (.int .i64 4),recovered:=false }]/\w'=w:=by
 go_enter Tryz.func131,Tryz.ntmps131
 go_wp2_with fail
 exact ⟨rfl,rfl,rfl⟩
theorem zcE (G:Nat->Prop) (tb rb place n m:Nat) (S:RS) (q:Nat) (w:World) (h:RmS w G rb n m S) (ht:TB w tb rb place) (hm:m<=3999980) (hfull:∀ q,q<zaf n->S.used q=true) :
 Calls Tryz.prog 127 #[.pointer (some ⟨tb,0,none⟩),.pointer (some ⟨q,0,none⟩)] w λ e w'=>e=.panicked [{ v:=.iface 258 (.int .i64 4),recovered:=false }]/\Hid (Below w.heap.size w w'):=by
 obtain ⟨c0,c1⟩:=ht.cells
 have AL:Hid (Calls Tryz.prog 44 #[.pointer (some ⟨rb,0,none⟩)] w λ e w'=>e=.returned (.tuple #[.int .i64 0,.int .i64 4])/\Hid (Below w.heap.size w w')):=Hd (by
  obtain ⟨puts,a,b,c⟩:=h
  exact zgl G rb n puts S w b c (by omega) hfull)
 have MU:=zmk
 clear h ht hfull
 go_enter Tryz.func127,Tryz.ntmps127
 go_wp2_with fail
 refine AL.out.mono ?_
 rintro e w1 ⟨rfl,HB⟩
 clear AL
 go_wp2_with (go_at_call 131;refine (MU _).mono ?_;rintro e w2 ⟨rfl,rfl⟩)
 exact ⟨rfl,rfl,HB⟩
def zdY (w w':World) (G:Nat->Prop) (rb n m:Nat) (S:RS):Prop:=∃ S',zb1 w w' G rb n m S'/\S'.base=S.base
theorem zml (G:Nat->Prop) (tb rb place n m:Nat) (S:RS) (p:Nat) (t:PT 0) (key val:ByteArray) (deep:Nat) (w:World) (h:RmS w G rb n m S) (ht:TB w tb rb place) (hg:¬G tb) (hT:Tr S 0 p t) (hks:key.size<=96) (hvs:val.size<=56) (hdp:deep<=20) (hm:m<=3998000) :
 Calls Tryz.prog 128 #[.pointer (some ⟨tb,0,none⟩),.int .i64 (p:Int),.string key,.string val,.int .i64 (deep:Int)] w λ e w'=>(∃ (k:ByteArray) (q:Nat) (more:Bool),e=.returned (.tuple #[.string k,.int .i64 (q:Int),.bool more])/\Hid (zbz w w' G rb n (m+4) S 0 p t key val k q more))\/(e=.panicked [{ v:=.iface 258 (.int .i64 4),recovered:=false }]/\Hid (zdY w w' G rb n (m+4) S)):=by
 have RD:=Hd (zek G tb rb place n m S p (nd 0 t) w h ht (by omega) hT.ok hT.fit hT.on.top.1 hT.on.top.2)
 have B0:=Hd (zak.start h ht hg)
 have HM1:Hid (m<=3999000):=Hd (by omega)
 have HM3:Hid (m+1<=3999000):=Hd (by omega)
 have HM2:Hid (m+1<=m+4):=Hd (by omega)
 have HM4:Hid (m+1+3<=m+4):=Hd (by omega)
 have HBASE:Hid (S.base=S.base):=Hd rfl
 have HG:=Hd h.lt
 have hd1:¬(20:Int)<(deep:Int):=by omega
 have HT:=Hd hT
 obtain ⟨A,B,rfl,hA,hB,hor⟩:=zcP t key hT.wf.srt
 have hlen:(Nd.leaf (A++B)).len<=1000000:=Nat.le_of_lt (Nat.lt_trans hT.ok.few (by decide))
 have HL:=Hd hlen
 have HPOS:=Hd hT.pos
 have HA:=Hd hA
 have HB:=Hd hB
 have HKS:=Hd hks
 have HVS:=Hd hvs
 have HN4:Hid ((A++B).length<=90000):=Hd (by have:=hT.ok.few;rw [zaP] at this;exact Nat.le_of_lt (Nat.lt_trans this (by decide)))
 clear h ht hg hT hm hlen hA hB hks hvs hdp
 rcases hor with ⟨v,B',rfl,hB'⟩|hB'
 ·have OV:=Hd (zgJ.leaf (val:=val) HT.out (.inr ⟨v,rfl⟩) HA.out hB' HKS.out HVS.out)
  clear hB'
  go_enter Tryz.func128,Tryz.ntmps128
  go_wp2_with fail
  refine RD.out.mono ?_
  rintro e w1 ⟨q,rfl,HQ⟩
  obtain ⟨F,x1,x2,x3⟩:=HQ.out
  have N1:=Hd (Nod.start (w0:=w) (G:=G) x1 x2 HG.out)
  have B1:=Hd (B0.out.below x3)
  obtain ⟨vk,vv,vi,hv1⟩:=N1.out.rd.view
  have c0:w1.cell? ⟨q,0,none⟩=some (.bool true):=zaa hv1.blk rfl
  have FD:=Hd (zdh true q (.leaf (A++(key,v)::B')) vk vv vi (A.map Prod.fst) (key::B'.map Prod.fst) key w1 hv1 (by simp [Nd.keys]) HPOS.out HL.out (λ a ha=>by obtain ⟨e,he,rfl⟩:=List.mem_map.1 ha;exact HA.out e he) (λ b hb=>by
   rcases List.mem_cons.1 hb with rfl|hb
   ·exact zal _
   ·obtain ⟨e,he,rfl⟩:=List.mem_map.1 hb;exact HB.out e (by simp [he])) ⟨λ _=>⟨_,rfl⟩,λ _=>rfl⟩)
  rw [zLm] at FD
  clear x1 x2 x3 HQ hv1 RD B0
  go_wp2_with fail
  refine FD.out.mono ?_
  rintro e w2 ⟨rfl,qn,rfl⟩
  have N2:=N1.out.below (zar w1 qn)
  have B2:=B1.out.below (zar w1 qn)
  generalize w1.drewN qn=w2 at *
  obtain ⟨F2,y1,y2⟩:=N2
  obtain ⟨g2,cap2,s1,s2,s3,s4⟩:=ziF y1 val
  have NT:Hid (Nod w (w2.setCell ⟨g2,A.length,none⟩ (.string val)) G q (nd 0 (A++(key,val)::B'))):=Hd (Nod.go y2 s4 B2.room.lt B2.up.size)
  have BT:=Hd (B2.node (by obtain ⟨F',a,b,c⟩:=s4;exact c) y2)
  have hlt:(A.length:Int)<((A.length+1+B'.length:Nat):Int):=by omega
  clear y1 y2 s4 B2 N1 B1 FD c0
  go_wp2_with fail
  have TS:=Hd (zbH NT.out OV.out.ok)
  refine TS.out.mono ?_
  rintro e w4 ⟨rfl,rfl⟩
  clear TS
  by_cases hsz:(nd 0 (A++(key,val)::B')).size<=512
  ·have TW:=Hd (zaA BT.out p NT.out.rd OV.out.ok hsz OV.out.use HM1.out)
   have hI:(((nd 0 (A++(key,val)::B')).size:Nat):Int)<=512:=by omega
   have HSZ:=Hd hsz
   clear hsz
   go_wp2_with fail
   refine TW.out.mono ?_
   rintro e w5 ⟨rfl,HW⟩
   clear hI TW
   go_wp2_with fail
   go_ret3
   obtain ⟨G5,b5,-⟩:=HW.out
   exact .inl ⟨ByteArray.empty,0,false,rfl,_,(b5.more HM2.out).go,rfl,rfl,_,OV.out.one HSZ.out⟩
  ·have TSp:=Hd (zb7 BT.out NT.out OV.out.ok (by omega) OV.out.siz)
   have hI:¬(((nd 0 (A++(key,val)::B')).size:Nat):Int)<=512:=by omega
   have HSZ:=Hd (show 512<(nd 0 (A++(key,val)::B')).size by omega)
   clear hsz
   go_wp2_with fail
   refine TSp.out.mono ?_
   rintro e w5 ⟨q1,rfl,HS⟩
   clear TSp hI NT BT
   obtain ⟨i,hc,b5,r1,r2⟩:=HS.out
   obtain ⟨z0,z1,z2,z3,z4⟩:=OV.out.cut HSZ.out hc
   obtain ⟨l1,l2⟩:=zcS (nd 0 (A++(key,val)::B')) i (Nat.le_of_lt z1)
   have ok1:((nd 0 (A++(key,val)::B')).take i).Ok:=by rw [<-zbE];exact ((OV.out.wf.cut i).1).ok (by rw [zbE,l1];exact z0) (by rw [zbE];omega)
   have ok2:((nd 0 (A++(key,val)::B')).drop i).Ok:=by rw [<-zby];exact ((OV.out.wf.cut i).2).ok (by rw [zby,l2];omega) (by rw [zby];omega)
   have TW:=Hd (zaA b5 p r1 ok1 z2 OV.out.use HM1.out)
   have R2:=Hd r2
   have OK2:=Hd ok2
   have HC:=Hd hc
   have HZ3:=Hd z3
   clear hc b5 r1 r2 z0 z1 z2 z3 z4 l1 l2 ok1 ok2 HS
   go_wp2_with fail
   refine TW.out.mono ?_
   rintro e w6 ⟨rfl,HW⟩
   clear TW
   obtain ⟨G6,b6,tn6⟩:=HW.out
   have r6:=R2.out.turn tn6
   obtain ⟨g,off,nn,cap,hnn,k1,k2,ql,gl,hgq,hgg⟩:=r6.key0 OK2.out.pos
   by_cases hfr:∃ r,r<zaf n/\S.used r=false
   ·have FR:Hid (Calls Tryz.prog 127 #[.pointer (some ⟨tb,0,none⟩),.pointer (some ⟨q1,0,none⟩)] w6.drew λ e w'=>∃ r:Nat,e=.returned (.int .i64 (r:Int))/\(w'.cell? ⟨q1,1,none⟩=some (.slice (some ⟨g,off,none⟩) nn cap)/\w'.cell? ⟨g,off,none⟩=some (.string (((nd 0 (A++(key,val)::B')).drop i).keys.getD 0 ByteArray.empty)))/\Hid (zbz w w' G rb n (m+4) S (0) p (A++(key,v)::B') key val (((nd 0 (A++(key,val)::B')).drop i).keys.getD 0 ByteArray.empty) r true)):=Hd (by
     have hd:=(zBr w6.heap.size w6).drew
     refine (zbr (b6.below hd) (r6.below hd) OK2.out HZ3.out HM3.out hfr).mono ?_
     rintro e w' ⟨r,rfl,hr1,hr2,G7,b7,tn7⟩
     have hu:Upd G6 w6 w':=tn7.upd.drew_left
     refine ⟨r,rfl,⟨(zCb (hu.block q1 ql hgq)).trans k1,(zCb (hu.block g gl hgg)).trans k2⟩,⟨_,(b7.more HM4.out).go,?_⟩⟩
     have hrn:r<65536:=by have:=b7.room.bounds;unfold zaf at hr1;omega
     have T:=OV.out.two HSZ.out HC.out hr2 hrn
     rw [zbE,zby] at T
     rw [if_pos rfl]
     exact ⟨_,_,T⟩)
    have hnn':(0:Int)<(nn:Int):=by omega
    clear HW b6 tn6 r6 ql gl hgq hgg R2 HC HZ3
    generalize ((nd 0 (A++(key,val)::B')).drop i).keys.getD 0 ByteArray.empty=kk at *
    go_wp2_with fail
    go_region_held3 (λ w'=>w'.cell? ⟨q1,1,none⟩=some (.slice (some ⟨g,off,none⟩) nn cap)/\w'.cell? ⟨g,off,none⟩=some (.string kk)) (go_keep) ((go_at_call 127;refine Calls.at_args FR.out (by with_reducible rfl) ?_;rintro e w7 ⟨r,rfl,hk,HF⟩))
    all_goals go_wp2_with fail
    all_goals go_ret3
    all_goals exact .inl ⟨kk,r,true,rfl,HF⟩
   ·have FP:Hid (Calls Tryz.prog 127 #[.pointer (some ⟨tb,0,none⟩),.pointer (some ⟨q1,0,none⟩)] w6.drew λ e w'=>e=.panicked [{ v:=.iface 258 (.int .i64 4),recovered:=false }]/\Hid (zdY w w' G rb n (m+4) S)):=Hd (by
     have hd:=(zBr w6.heap.size w6).drew
     have b6':=b6.below hd
     refine (zcE G6 tb rb place n _ _ q1 w6.drew b6'.room b6'.blk (Nat.le_trans HM3.out (by decide)) λ r hr=>?_).mono ?_
     ·cases hu:S.used r with
      | true=>exact hu
      | false=>exact absurd ⟨r,hr,hu⟩ hfr
     ·rintro e w' ⟨rfl,hb⟩
      exact ⟨rfl,_,((b6'.below hb.out).more (Nat.le_trans (Nat.le_add_right _ 3) HM4.out)).go,(by first|exact HBASE.out|rfl)⟩)
    have hnn':(0:Int)<(nn:Int):=by omega
    clear HW b6 tn6 r6 ql gl hgq hgg R2 HC HZ3
    generalize ((nd 0 (A++(key,val)::B')).drop i).keys.getD 0 ByteArray.empty=kk at *
    go_wp2_with fail
    refine wp_region_held_drew (S:=(λ w'=>w'.cell? ⟨q1,1,none⟩=some (.slice (some ⟨g,off,none⟩) nn cap)/\w'.cell? ⟨g,off,none⟩=some (.string kk))) (by kernel_rfl) ?_ (λ hHeld=>?_)
    ·exact ⟨k1,k2⟩
    refine' tkH 0 rfl ?_
    try simp only [Act.put,List.setIfInBounds_toArray,List.set_cons_zero,List.set_cons_succ,List.getElem_toArray,List.getElem_cons_zero]
    refine' tkH 1 rfl ?_;try simp only [Act.put,awL]
    refine' tkH 2 rfl ?_;try simp only [Act.put,awL]
    refine' tkH 3 rfl ?_;try simp only [Act.put,awL]
    refine' tkH 4 rfl ?_;try simp only [Act.put,awL]
    refine' tkH 5 rfl ?_;try simp only [Act.put,awL]
    refine' tkH 6 rfl ?_;try simp only [Act.put,awL]
    refine' tkH 7 rfl ?_;try simp only [Act.put,awL]
    refine wpAnyH_ready (rs:=[8]) (by kernel_rfl) (by simp) ?_
    refine AllReadyH.cons rfl (λ K hK=>?_) AllReadyH.nil
    go_simp
    go_at_call 127
    refine Calls.at_args FP.out (by with_reducible rfl) ?_
    rintro e w7 ⟨rfl,HF⟩
    exact ⟨rfl,.inr ⟨rfl,HF⟩⟩
 ·have OV:=Hd (zgJ.leaf (val:=val) HT.out (.inl rfl) HA.out hB' HKS.out HVS.out)
  have HB2:=Hd hB'
  clear hB'
  go_enter Tryz.func128,Tryz.ntmps128
  go_wp2_with fail
  refine RD.out.mono ?_
  rintro e w1 ⟨q,rfl,HQ⟩
  obtain ⟨F,x1,x2,x3⟩:=HQ.out
  have N1:=Hd (Nod.start (w0:=w) (G:=G) x1 x2 HG.out)
  have B1:=Hd (B0.out.below x3)
  obtain ⟨vk,vv,vi,hv1⟩:=N1.out.rd.view
  have c0:w1.cell? ⟨q,0,none⟩=some (.bool true):=zaa hv1.blk rfl
  have FD:=Hd (zdh false q (.leaf (A++B)) vk vv vi (A.map Prod.fst) (B.map Prod.fst) key w1 hv1 (by simp [Nd.keys]) HPOS.out HL.out (λ a ha=>by obtain ⟨e,he,rfl⟩:=List.mem_map.1 ha;exact HA.out e he) (λ b hb=>by obtain ⟨e,he,rfl⟩:=List.mem_map.1 hb;exact HB.out e he) ⟨(λ e=>by cases e),(λ ⟨B',e⟩=>by
   have hm:key∈B.map Prod.fst:=by rw [e];simp
   obtain ⟨e',he,he2⟩:=List.mem_map.1 hm
   have:=HB2.out e' he
   rw [he2,zal] at this;cases this)⟩)
  rw [zLm] at FD
  clear x1 x2 x3 HQ hv1 RD B0
  go_wp2_with fail
  refine FD.out.mono ?_
  rintro e w2 ⟨rfl,qn,rfl⟩
  have N2:=N1.out.below (zar w1 qn)
  have B2:=B1.out.below (zar w1 qn)
  generalize w1.drewN qn=w2 at *
  obtain ⟨F2,y1,y2⟩:=N2
  have IN:=Hd (zfE F2 q A B key val 0 w2 y1 HN4.out)
  have Y2:=Hd y2
  have B2':=Hd B2
  clear y1 y2 B2 N1 B1 FD c0
  go_wp2_with fail
  refine IN.out.mono ?_
  rintro e w3 ⟨rfl,HI⟩
  have NT:Hid (Nod w w3 G q (nd 0 (A++(key,val)::B))):=Hd (Nod.go Y2.out HI.out B2'.out.room.lt B2'.out.up.size)
  have BT:=Hd (B2'.out.node (by obtain ⟨F',a,b,c⟩:=HI.out;exact c) Y2.out)
  clear IN Y2 B2' HI
  go_wp2_with fail
  have TS:=Hd (zbH NT.out OV.out.ok)
  refine TS.out.mono ?_
  rintro e w4 ⟨rfl,rfl⟩
  clear TS
  by_cases hsz:(nd 0 (A++(key,val)::B)).size<=512
  ·have TW:=Hd (zaA BT.out p NT.out.rd OV.out.ok hsz OV.out.use HM1.out)
   have hI:(((nd 0 (A++(key,val)::B)).size:Nat):Int)<=512:=by omega
   have HSZ:=Hd hsz
   clear hsz
   go_wp2_with fail
   refine TW.out.mono ?_
   rintro e w5 ⟨rfl,HW⟩
   clear hI TW
   go_wp2_with fail
   go_ret3
   obtain ⟨G5,b5,-⟩:=HW.out
   exact .inl ⟨ByteArray.empty,0,false,rfl,_,(b5.more HM2.out).go,rfl,rfl,_,OV.out.one HSZ.out⟩
  ·have TSp:=Hd (zb7 BT.out NT.out OV.out.ok (by omega) OV.out.siz)
   have hI:¬(((nd 0 (A++(key,val)::B)).size:Nat):Int)<=512:=by omega
   have HSZ:=Hd (show 512<(nd 0 (A++(key,val)::B)).size by omega)
   clear hsz
   go_wp2_with fail
   refine TSp.out.mono ?_
   rintro e w5 ⟨q1,rfl,HS⟩
   clear TSp hI NT BT
   obtain ⟨i,hc,b5,r1,r2⟩:=HS.out
   obtain ⟨z0,z1,z2,z3,z4⟩:=OV.out.cut HSZ.out hc
   obtain ⟨l1,l2⟩:=zcS (nd 0 (A++(key,val)::B)) i (Nat.le_of_lt z1)
   have ok1:((nd 0 (A++(key,val)::B)).take i).Ok:=by rw [<-zbE];exact ((OV.out.wf.cut i).1).ok (by rw [zbE,l1];exact z0) (by rw [zbE];omega)
   have ok2:((nd 0 (A++(key,val)::B)).drop i).Ok:=by rw [<-zby];exact ((OV.out.wf.cut i).2).ok (by rw [zby,l2];omega) (by rw [zby];omega)
   have TW:=Hd (zaA b5 p r1 ok1 z2 OV.out.use HM1.out)
   have R2:=Hd r2
   have OK2:=Hd ok2
   have HC:=Hd hc
   have HZ3:=Hd z3
   clear hc b5 r1 r2 z0 z1 z2 z3 z4 l1 l2 ok1 ok2 HS
   go_wp2_with fail
   refine TW.out.mono ?_
   rintro e w6 ⟨rfl,HW⟩
   clear TW
   obtain ⟨G6,b6,tn6⟩:=HW.out
   have r6:=R2.out.turn tn6
   obtain ⟨g,off,nn,cap,hnn,k1,k2,ql,gl,hgq,hgg⟩:=r6.key0 OK2.out.pos
   by_cases hfr:∃ r,r<zaf n/\S.used r=false
   ·have FR:Hid (Calls Tryz.prog 127 #[.pointer (some ⟨tb,0,none⟩),.pointer (some ⟨q1,0,none⟩)] w6.drew λ e w'=>∃ r:Nat,e=.returned (.int .i64 (r:Int))/\(w'.cell? ⟨q1,1,none⟩=some (.slice (some ⟨g,off,none⟩) nn cap)/\w'.cell? ⟨g,off,none⟩=some (.string (((nd 0 (A++(key,val)::B)).drop i).keys.getD 0 ByteArray.empty)))/\Hid (zbz w w' G rb n (m+4) S (0) p (A++B) key val (((nd 0 (A++(key,val)::B)).drop i).keys.getD 0 ByteArray.empty) r true)):=Hd (by
     have hd:=(zBr w6.heap.size w6).drew
     refine (zbr (b6.below hd) (r6.below hd) OK2.out HZ3.out HM3.out hfr).mono ?_
     rintro e w' ⟨r,rfl,hr1,hr2,G7,b7,tn7⟩
     have hu:Upd G6 w6 w':=tn7.upd.drew_left
     refine ⟨r,rfl,⟨(zCb (hu.block q1 ql hgq)).trans k1,(zCb (hu.block g gl hgg)).trans k2⟩,⟨_,(b7.more HM4.out).go,?_⟩⟩
     have hrn:r<65536:=by have:=b7.room.bounds;unfold zaf at hr1;omega
     have T:=OV.out.two HSZ.out HC.out hr2 hrn
     rw [zbE,zby] at T
     rw [if_pos rfl]
     exact ⟨_,_,T⟩)
    have hnn':(0:Int)<(nn:Int):=by omega
    clear HW b6 tn6 r6 ql gl hgq hgg R2 HC HZ3
    generalize ((nd 0 (A++(key,val)::B)).drop i).keys.getD 0 ByteArray.empty=kk at *
    go_wp2_with fail
    go_region_held3 (λ w'=>w'.cell? ⟨q1,1,none⟩=some (.slice (some ⟨g,off,none⟩) nn cap)/\w'.cell? ⟨g,off,none⟩=some (.string kk)) (go_keep) ((go_at_call 127;refine Calls.at_args FR.out (by with_reducible rfl) ?_;rintro e w7 ⟨r,rfl,hk,HF⟩))
    all_goals go_wp2_with fail
    all_goals go_ret3
    all_goals exact .inl ⟨kk,r,true,rfl,HF⟩
   ·have FP:Hid (Calls Tryz.prog 127 #[.pointer (some ⟨tb,0,none⟩),.pointer (some ⟨q1,0,none⟩)] w6.drew λ e w'=>e=.panicked [{ v:=.iface 258 (.int .i64 4),recovered:=false }]/\Hid (zdY w w' G rb n (m+4) S)):=Hd (by
     have hd:=(zBr w6.heap.size w6).drew
     have b6':=b6.below hd
     refine (zcE G6 tb rb place n _ _ q1 w6.drew b6'.room b6'.blk (Nat.le_trans HM3.out (by decide)) λ r hr=>?_).mono ?_
     ·cases hu:S.used r with
      | true=>exact hu
      | false=>exact absurd ⟨r,hr,hu⟩ hfr
     ·rintro e w' ⟨rfl,hb⟩
      exact ⟨rfl,_,((b6'.below hb.out).more (Nat.le_trans (Nat.le_add_right _ 3) HM4.out)).go,(by first|exact HBASE.out|rfl)⟩)
    have hnn':(0:Int)<(nn:Int):=by omega
    clear HW b6 tn6 r6 ql gl hgq hgg R2 HC HZ3
    generalize ((nd 0 (A++(key,val)::B)).drop i).keys.getD 0 ByteArray.empty=kk at *
    go_wp2_with fail
    refine wp_region_held_drew (S:=(λ w'=>w'.cell? ⟨q1,1,none⟩=some (.slice (some ⟨g,off,none⟩) nn cap)/\w'.cell? ⟨g,off,none⟩=some (.string kk))) (by kernel_rfl) ?_ (λ hHeld=>?_)
    ·exact ⟨k1,k2⟩
    refine' tkH 0 rfl ?_
    try simp only [Act.put,List.setIfInBounds_toArray,List.set_cons_zero,List.set_cons_succ,List.getElem_toArray,List.getElem_cons_zero]
    refine' tkH 1 rfl ?_;try simp only [Act.put,awL]
    refine' tkH 2 rfl ?_;try simp only [Act.put,awL]
    refine' tkH 3 rfl ?_;try simp only [Act.put,awL]
    refine' tkH 4 rfl ?_;try simp only [Act.put,awL]
    refine' tkH 5 rfl ?_;try simp only [Act.put,awL]
    refine' tkH 6 rfl ?_;try simp only [Act.put,awL]
    refine' tkH 7 rfl ?_;try simp only [Act.put,awL]
    refine wpAnyH_ready (rs:=[8]) (by kernel_rfl) (by simp) ?_
    refine AllReadyH.cons rfl (λ K hK=>?_) AllReadyH.nil
    go_simp
    go_at_call 127
    refine Calls.at_args FP.out (by with_reducible rfl) ?_
    rintro e w7 ⟨rfl,HF⟩
    exact ⟨rfl,.inr ⟨rfl,HF⟩⟩
theorem zpa:∀ (h:Nat) (G:Nat->Prop) (tb rb place n m:Nat) (S:RS) (p:Nat) (t:PT h) (key val:ByteArray) (deep:Nat) (w:World) (_:RmS w G rb n m S) (_:TB w tb rb place) (_:¬G tb) (_:Tr S h p t) (_:key.size<=96) (_:val.size<=56) (_:deep+h<=20) (_:m+4*(h+1)<=3998000),
 Calls Tryz.prog 128 #[.pointer (some ⟨tb,0,none⟩),.int .i64 (p:Int),.string key,.string val,.int .i64 (deep:Int)] w λ e w'=>(∃ (k:ByteArray) (q:Nat) (more:Bool),e=.returned (.tuple #[.string k,.int .i64 (q:Int),.bool more])/\Hid (zbz w w' G rb n (m+4*(h+1)) S h p t key val k q more))\/(e=.panicked [{ v:=.iface 258 (.int .i64 4),recovered:=false }]/\Hid (zdY w w' G rb n (m+4*(h+1)) S))
 | 0,G,tb,rb,place,n,m,S,p,t,key,val,deep,w,h,ht,hg,hT,hks,hvs,hdp,hm=>zml G tb rb place n m S p t key val deep w h ht hg hT hks hvs (by omega) (by omega)
 | hh+1,G,tb,rb,place,n,m,S,p,t,key,val,deep,w,h,ht,hg,hT,hks,hvs,hdp,hm=>by
   have RD:=Hd (zek G tb rb place n m S p (nd (hh+1) t) w h ht (by omega) hT.ok hT.fit hT.on.top.1 hT.on.top.2)
   have B0:=Hd (zak.start h ht hg)
   have HM1:Hid (m+4*(hh+1)<=3999000):=Hd (by omega)
   have HM3:Hid (m+4*(hh+1)+1<=3999000):=Hd (by omega)
   have HM2:Hid (m+4*(hh+1)+1<=m+4*(hh+1+1)):=Hd (by omega)
   have HM4:Hid (m+4*(hh+1)+1+3<=m+4*(hh+1+1)):=Hd (by omega)
   have HM5:Hid (m+4*(hh+1)<=m+4*(hh+1+1)):=Hd (by omega)
   have HG:=Hd h.lt
   have hd1:¬(20:Int)<(deep:Int):=by omega
   have hd2:deep<=20:=by omega
   have hlenO:=hT.ok.few
   have hpos:=hT.pos
   rw [zaq] at hpos
   obtain ⟨A,x,B,rfl,hW,hA⟩:=zcA t key (hT.wf.2.keys λ x hx=>zbG (hT.wf.1 x hx).2.2.2.2 (hT.wf.1 x hx).2.2.1) hpos
   have hk:=hT.kid (x:=x) (by simp)
   have IH:Hid (∀ W G2,zak w W G G2 tb rb place n m S->Calls Tryz.prog 128 #[.pointer (some ⟨tb,0,none⟩),.int .i64 (x.2.1:Int),.string key,.string val,.int .i64 ((deep:Int)+1)] W λ e w'=>(∃ (k:ByteArray) (q:Nat) (more:Bool),e=.returned (.tuple #[.string k,.int .i64 (q:Int),.bool more])/\Hid (zbz W w' G2 rb n (m+4*(hh+1)) S hh x.2.1 x.2.2 key val k q more))\/(e=.panicked [{ v:=.iface 258 (.int .i64 4),recovered:=false }]/\Hid (zdY W w' G2 rb n (m+4*(hh+1)) S))):=Hd λ W G2 hB=>by
    have:=zpa hh G2 tb rb place n m S x.2.1 x.2.2 key val (deep+1) W hB.room hB.blk hB.gt hk hks hvs (by omega) (by omega)
    rw [show ((deep+1:Nat):Int)=(deep:Int)+1 by omega] at this
    exact this
   have HT:=Hd hT
   have HW:=Hd hW
   have HA:=Hd hA
   have HLEN:=Hd hlenO
   clear h ht hg hT hm hW hA hks hvs hdp hk hpos hlenO
   go_enter Tryz.func128,Tryz.ntmps128
   go_wp2_with fail
   refine RD.out.mono ?_
   rintro e w1 ⟨q,rfl,HQ⟩
   obtain ⟨F,x1,x2,x3⟩:=HQ.out
   have N1:=Hd (Nod.start (w0:=w) (G:=G) x1 x2 HG.out)
   have B1:=Hd (B0.out.below x3)
   obtain ⟨vk,vv,vi,hv1⟩:=N1.out.rd.view
   have c0:w1.cell? ⟨q,0,none⟩=some (.bool false):=zaa hv1.blk rfl
   have WN:=Hd (zgg N1.out.rd (Nat.le_of_lt (Nat.lt_trans HLEN.out (by decide))) HW.out HA.out)
   clear x1 x2 x3 HQ hv1 RD B0
   go_wp2_with fail
   refine WN.out.mono ?_
   rintro e w2 ⟨rfl,hb⟩
   have N2:=Hd (N1.out.below hb.out)
   have B2:=Hd (B1.out.below hb.out)
   have hN2:=N2.out.rd
   rw [show nd (hh+1) (A++x::B:List (Kid hh))=.inner (A.map (λ x:Kid hh=>(x.1,x.2.1))++(x.1,x.2.1)::B.map (λ x:Kid hh=>(x.1,x.2.1))) by simp [nd]] at hN2
   obtain ⟨g3,off,cap3,k1,k2⟩:=zeN hN2
   rw [zLm,zLm] at k1
   rw [zLm] at k2
   have hlt:(A.length:Int)<((A.length+1+B.length:Nat):Int):=by omega
   have hlA:A.length<=65536:=by have:=HLEN.out;rw [zaq,zLa,zLc] at this;omega
   have IH2:=Hd (IH.out w2 G B2.out)
   clear hN2 IH N1 B1 WN c0 hb
   go_wp2_with fail
   refine IH2.out.mono ?_
   rintro e w3 (⟨k,q2,more,rfl,HP⟩|⟨rfl,HP⟩)
   ·clear IH2 k1 k2
    cases more with
    | false =>
      obtain ⟨S',hgo,hif⟩:=HP.out
      rw [if_neg (by simp)] at hif
      obtain ⟨rfl,rfl,t',K⟩:=hif
      have HK:=Hd K
      obtain ⟨G3,b3,-⟩:=B2.out.step hgo
      have HB3:=Hd (b3.more HM5.out)
      clear hgo K b3 HP
      go_wp2_with fail
      go_ret3
      exact .inl ⟨ByteArray.empty,0,false,rfl,_,HB3.out.go,rfl,rfl,_,HK.out.inner HT.out HW.out⟩
    | true =>
      obtain ⟨S3,hgo,hif⟩:=HP.out
      rw [if_pos rfl] at hif
      obtain ⟨t1,t2,K⟩:=hif
      have OV:=Hd (zgJ.inner HT.out HW.out K)
      have HBASE:Hid (S3.base=S.base):=Hd K.frm.base
      obtain ⟨G3,b3,tn3⟩:=B2.out.step hgo
      obtain ⟨F2,y1,y2⟩:=N2.out.turn tn3
      rw [zem] at y1
      have IN:=ze7 F2 q ((A++[x]).map (λ x:Kid hh=>(x.1,x.2.1))) (B.map (λ x:Kid hh=>(x.1,x.2.1))) k ⟨#[]⟩ q2 w3 y1 (by have:=HLEN.out;rw [zaq,zLa,zLc] at this;simp;omega)
      rw [show ((((A++[x]).map (λ x:Kid hh=>(x.1,x.2.1))).length:Nat):Int)=(A.length:Int)+1 by simp,<-zlW t1 t2 k q2] at IN
      have IN2:=Hd IN
      have Y2:=Hd y2
      have B3:=Hd b3
      clear y1 y2 b3 hgo K HP tn3 IN N2 B2
      go_wp2_with fail
      refine IN2.out.mono ?_
      rintro e w4' ⟨rfl,HI⟩
      have NT:Hid (Nod w w4' G3 q (nd (hh+1) (A++(x.1,x.2.1,t1)::(k,q2,t2)::B:List (Kid hh)))):=Hd (Nod.go Y2.out HI.out B3.out.room.lt B3.out.up.size)
      have BT:=Hd (B3.out.node (by obtain ⟨F',a,b,c⟩:=HI.out;exact c) Y2.out)
      clear IN2 Y2 B3 HI
      go_wp2_with fail
      have TS:=Hd (zbH NT.out OV.out.ok)
      refine TS.out.mono ?_
      rintro e w4 ⟨rfl,rfl⟩
      clear TS
      by_cases hsz:(nd (hh+1) (A++(x.1,x.2.1,t1)::(k,q2,t2)::B:List (Kid hh))).size<=512
      ·have TW:=Hd (zaA BT.out p NT.out.rd OV.out.ok hsz OV.out.use HM1.out)
       have hI:(((nd (hh+1) (A++(x.1,x.2.1,t1)::(k,q2,t2)::B:List (Kid hh))).size:Nat):Int)<=512:=by omega
       have HSZ:=Hd hsz
       clear hsz
       go_wp2_with fail
       refine TW.out.mono ?_
       rintro e w5 ⟨rfl,HW⟩
       clear hI TW
       go_wp2_with fail
       go_ret3
       obtain ⟨G5,b5,-⟩:=HW.out
       exact .inl ⟨ByteArray.empty,0,false,rfl,_,(b5.more HM2.out).go,rfl,rfl,_,OV.out.one HSZ.out⟩
      ·have TSp:=Hd (zb7 BT.out NT.out OV.out.ok (by omega) OV.out.siz)
       have hI:¬(((nd (hh+1) (A++(x.1,x.2.1,t1)::(k,q2,t2)::B:List (Kid hh))).size:Nat):Int)<=512:=by omega
       have HSZ:=Hd (show 512<(nd (hh+1) (A++(x.1,x.2.1,t1)::(k,q2,t2)::B:List (Kid hh))).size by omega)
       clear hsz
       go_wp2_with fail
       refine TSp.out.mono ?_
       rintro e w5 ⟨q1,rfl,HS⟩
       clear TSp hI NT BT
       obtain ⟨i,hc,b5,r1,r2⟩:=HS.out
       obtain ⟨z0,z1,z2,z3,z4⟩:=OV.out.cut HSZ.out hc
       obtain ⟨l1,l2⟩:=zcS (nd (hh+1) (A++(x.1,x.2.1,t1)::(k,q2,t2)::B:List (Kid hh))) i (Nat.le_of_lt z1)
       have ok1:((nd (hh+1) (A++(x.1,x.2.1,t1)::(k,q2,t2)::B:List (Kid hh))).take i).Ok:=by rw [<-zbE];exact ((OV.out.wf.cut i).1).ok (by rw [zbE,l1];exact z0) (by rw [zbE];omega)
       have ok2:((nd (hh+1) (A++(x.1,x.2.1,t1)::(k,q2,t2)::B:List (Kid hh))).drop i).Ok:=by rw [<-zby];exact ((OV.out.wf.cut i).2).ok (by rw [zby,l2];omega) (by rw [zby];omega)
       have TW:=Hd (zaA b5 p r1 ok1 z2 OV.out.use HM1.out)
       have R2:=Hd r2
       have OK2:=Hd ok2
       have HC:=Hd hc
       have HZ3:=Hd z3
       clear hc b5 r1 r2 z0 z1 z2 z3 z4 l1 l2 ok1 ok2 HS
       go_wp2_with fail
       refine TW.out.mono ?_
       rintro e w6 ⟨rfl,HW⟩
       clear TW
       obtain ⟨G6,b6,tn6⟩:=HW.out
       have r6:=R2.out.turn tn6
       obtain ⟨g,off,nn,cap,hnn,k1,k2,ql,gl,hgq,hgg⟩:=r6.key0 OK2.out.pos
       by_cases hfr:∃ r,r<zaf n/\S3.used r=false
       ·have FR:Hid (Calls Tryz.prog 127 #[.pointer (some ⟨tb,0,none⟩),.pointer (some ⟨q1,0,none⟩)] w6.drew λ e w'=>∃ r:Nat,e=.returned (.int .i64 (r:Int))/\(w'.cell? ⟨q1,1,none⟩=some (.slice (some ⟨g,off,none⟩) nn cap)/\w'.cell? ⟨g,off,none⟩=some (.string (((nd (hh+1) (A++(x.1,x.2.1,t1)::(k,q2,t2)::B:List (Kid hh))).drop i).keys.getD 0 ByteArray.empty)))/\Hid (zbz w w' G rb n (m+4*(hh+1+1)) S ((hh+1)) p (A++x::B:List (Kid hh)) key val (((nd (hh+1) (A++(x.1,x.2.1,t1)::(k,q2,t2)::B:List (Kid hh))).drop i).keys.getD 0 ByteArray.empty) r true)):=Hd (by
         have hd:=(zBr w6.heap.size w6).drew
         refine (zbr (b6.below hd) (r6.below hd) OK2.out HZ3.out HM3.out hfr).mono ?_
         rintro e w' ⟨r,rfl,hr1,hr2,G7,b7,tn7⟩
         have hu:Upd G6 w6 w':=tn7.upd.drew_left
         refine ⟨r,rfl,⟨(zCb (hu.block q1 ql hgq)).trans k1,(zCb (hu.block g gl hgg)).trans k2⟩,⟨_,(b7.more HM4.out).go,?_⟩⟩
         have hrn:r<65536:=by have:=b7.room.bounds;unfold zaf at hr1;omega
         have T:=OV.out.two HSZ.out HC.out hr2 hrn
         rw [zbE,zby] at T
         rw [if_pos rfl]
         exact ⟨_,_,T⟩)
        have hnn':(0:Int)<(nn:Int):=by omega
        clear HW b6 tn6 r6 ql gl hgq hgg R2 HC HZ3
        generalize ((nd (hh+1) (A++(x.1,x.2.1,t1)::(k,q2,t2)::B:List (Kid hh))).drop i).keys.getD 0 ByteArray.empty=kk at *
        go_wp2_with fail
        go_region_held3 (λ w'=>w'.cell? ⟨q1,1,none⟩=some (.slice (some ⟨g,off,none⟩) nn cap)/\w'.cell? ⟨g,off,none⟩=some (.string kk)) (go_keep) ((go_at_call 127;refine Calls.at_args FR.out (by with_reducible rfl) ?_;rintro e w7 ⟨r,rfl,hk,HF⟩))
        all_goals go_wp2_with fail
        all_goals go_ret3
        all_goals exact .inl ⟨kk,r,true,rfl,HF⟩
       ·have FP:Hid (Calls Tryz.prog 127 #[.pointer (some ⟨tb,0,none⟩),.pointer (some ⟨q1,0,none⟩)] w6.drew λ e w'=>e=.panicked [{ v:=.iface 258 (.int .i64 4),recovered:=false }]/\Hid (zdY w w' G rb n (m+4*(hh+1+1)) S)):=Hd (by
         have hd:=(zBr w6.heap.size w6).drew
         have b6':=b6.below hd
         refine (zcE G6 tb rb place n _ _ q1 w6.drew b6'.room b6'.blk (Nat.le_trans HM3.out (by decide)) λ r hr=>?_).mono ?_
         ·cases hu:S3.used r with
          | true=>exact hu
          | false=>exact absurd ⟨r,hr,hu⟩ hfr
         ·rintro e w' ⟨rfl,hb⟩
          exact ⟨rfl,_,((b6'.below hb.out).more (Nat.le_trans (Nat.le_add_right _ 3) HM4.out)).go,(by first|exact HBASE.out|rfl)⟩)
        have hnn':(0:Int)<(nn:Int):=by omega
        clear HW b6 tn6 r6 ql gl hgq hgg R2 HC HZ3
        generalize ((nd (hh+1) (A++(x.1,x.2.1,t1)::(k,q2,t2)::B:List (Kid hh))).drop i).keys.getD 0 ByteArray.empty=kk at *
        go_wp2_with fail
        refine wp_region_held_drew (S:=(λ w'=>w'.cell? ⟨q1,1,none⟩=some (.slice (some ⟨g,off,none⟩) nn cap)/\w'.cell? ⟨g,off,none⟩=some (.string kk))) (by kernel_rfl) ?_ (λ hHeld=>?_)
        ·exact ⟨k1,k2⟩
        refine' tkH 0 rfl ?_
        try simp only [Act.put,List.setIfInBounds_toArray,List.set_cons_zero,List.set_cons_succ,List.getElem_toArray,List.getElem_cons_zero]
        refine' tkH 1 rfl ?_;try simp only [Act.put,awL]
        refine' tkH 2 rfl ?_;try simp only [Act.put,awL]
        refine' tkH 3 rfl ?_;try simp only [Act.put,awL]
        refine' tkH 4 rfl ?_;try simp only [Act.put,awL]
        refine' tkH 5 rfl ?_;try simp only [Act.put,awL]
        refine' tkH 6 rfl ?_;try simp only [Act.put,awL]
        refine' tkH 7 rfl ?_;try simp only [Act.put,awL]
        refine wpAnyH_ready (rs:=[8]) (by kernel_rfl) (by simp) ?_
        refine AllReadyH.cons rfl (λ K hK=>?_) AllReadyH.nil
        go_simp
        go_at_call 127
        refine Calls.at_args FP.out (by with_reducible rfl) ?_
        rintro e w7 ⟨rfl,HF⟩
        exact ⟨rfl,.inr ⟨rfl,HF⟩⟩
   ·have HF:Hid (zdY w w3 G rb n (m+4*(hh+1+1)) S):=Hd (by
     obtain ⟨S',hgo,hb⟩:=HP.out
     obtain ⟨G3,b3,-⟩:=B2.out.step hgo
     exact ⟨S',(b3.more HM5.out).go,hb⟩)
    clear IH2 k1 k2 HP
    go_wp2_with fail
    exact ⟨rfl,.inr ⟨rfl,HF⟩⟩
def QP (D:List Deferred) (v:Value) (X:World->Prop):Exit->Act->World->Prop
 | .panic c,a,w=>c=[{ v:=.iface 258 (.int .i64 4),recovered:=false }]/\a.defers=D/\a.tmps[6]?=some v/\X w
 | _,_,_=>False
theorem QP.put {D:List Deferred} {v u:Value} {X:World->Prop} {c:List PanicEntry} {a:Act} {w:World} {d:Nat} (hd:d≠6) (h:QP D v X (.panic c) (a.put (some d) u) w):QP D v X (.panic c) a w:=by
 obtain ⟨h1,h2,h3,h4⟩:=h
 refine ⟨h1,h2,?_,h4⟩
 have h3':(a.tmps.setIfInBounds d u)[6]?=some v:=h3
 rw [Array.getElem?_setIfInBounds,if_neg hd] at h3'
 exact h3'
theorem QP.spec {D:List Deferred} {v:Value} {X:World->Prop} {e:Exit} {a:Act} {w:World} (h:QP D v X e a w):e=.panic [{ v:=.iface 258 (.int .i64 4),recovered:=false }]/\a.defers=D/\a.tmps[6]?=some v/\X w:=by
 cases e with
 | panic c=>obtain ⟨rfl,h⟩:=h;exact ⟨rfl,h⟩
 | _=>exact h.elim
theorem zdZ (p:Addr) (x:Int) (older:List PanicEntry) (w:World) (hc:w.cell? p=some (.int .i64 x)) (hz:w.frozen? p=false) :
 CallsD Tryz.prog 124 #[.pointer (some p)] (.panicking ({ v:=.iface 258 (.int .i64 4),recovered:=false }::older)) w λ e u' w'=>e=.returned (.tuple #[])/\u'=.panicking ({ v:=.iface 258 (.int .i64 4),recovered:=true }::older)/\w'=w.setCell p (.int .i64 4):=by
 refine callsD_of_wpS Tryz.func124 rfl λ c₀ cs hu=>?_
 apply wpS_seq
 apply wpS_region
 simp [wpOpsS,go_sem,recoverD,hu,Tryz.ntmps124,Exit.thenS]
 apply wpS_seq
 apply wpS_region
 simp [wpOpsS,go_sem,Exit.thenS]
 refine wpS_cond (t:=true) (by simp [Act.eval,Array.replicate]) ?_
 simp only [if_true]
 refine wpS_of_wp ?_
 have hty:∀ w,(Instr.typeAssert (.iface 258 (.int .i64 4)) 20 258 true).run Tryz.prog w=.ok (.tuple #[.int .i64 4,.bool true]) w:=λ w=>by simp [Instr.typeAssert,run_underlying Tryz.underlying258]
 simp only [Array.replicate,List.replicate]
 clear hu
 simp only [List.append_toArray,List.setIfInBounds_toArray,List.set_cons_zero,List.set_cons_succ,List.cons_append,List.nil_append]
 go_wp2_with fail
 simp [bodyPostS,results,Tryz.results124]
theorem zfL (pe pt pm:Addr) (tb rb:Nat) (k:Int) (u:FrameMode) (w:World) {Q:World->Prop} (he:w.cell? pe=some (.int .i64 4)) (ht:w.cell? pt=some (.pointer (some ⟨tb,0,none⟩))) (hm:w.cell? pm=some (.int .i64 k)) (h0:w.cell? ⟨tb,0,none⟩=some (.pointer (some ⟨rb,0,none⟩)))
 (BK:Calls Tryz.prog 119 #[.pointer (some ⟨rb,0,none⟩),.int .i64 k] w.drew λ e w'=>e=.returned (.tuple #[])/\(w'.cell? pt=some (.pointer (some ⟨tb,0,none⟩))/\w'.cell? pm=some (.int .i64 k)/\w'.cell? ⟨tb,0,none⟩=some (.pointer (some ⟨rb,0,none⟩)))/\w'.cell? pe=some (.int .i64 4)/\Hid (Q w')) :
 CallsD Tryz.prog 123 #[.pointer (some pe),.pointer (some pt),.pointer (some pm)] u w λ e u' w'=>u'=u/\(e=.returned (.tuple #[])/\w'.cell? pe=some (.int .i64 4)/\Hid (Q w')):=by
 have HB:=Hd BK
 clear BK
 go_enter_d Tryz.func123,Tryz.ntmps123
 go_wp2_with fail
 go_region_held3 (λ w'=>w'.cell? pt=some (.pointer (some ⟨tb,0,none⟩))/\w'.cell? pm=some (.int .i64 k)/\w'.cell? ⟨tb,0,none⟩=some (.pointer (some ⟨rb,0,none⟩))) (go_keep) ((go_at_call 119;refine Calls.at_args HB.out (by with_reducible rfl) ?_;rintro e w1 ⟨rfl,hk,he1,hq⟩))
 go_wp2_with fail
 go_end0
 exact ⟨rfl,he1,hq⟩
theorem zmm (w:World) (tb:Nat) (k:Int):(zeB w tb k).heap[w.heap.size+2]?=some (.cells #[.int .i64 k] 3 (0,0)):=by
 unfold zeB
 rw [zam,if_pos (by simp)]
theorem zak.backs {w W0 W:World} {G G':Nat->Prop} {tb rb place n m m' x:Nat} {S S3:RS} {puts:List (Int × ByteArray)} (h:zak W0 W G G' tb rb place n m' S3) (hbs:S3.base=puts) (hb:Below w.heap.size w W0) (hG:∀ k,G k->k<w.heap.size) (hx:w.heap.size<=x) (hx2:x<W0.heap.size) (v:Value) (hm:m'<=4000000) (hl:puts.length<=m) (hr:Rep n puts S) :
 Calls Tryz.prog 119 #[.pointer (some ⟨rb,0,none⟩),.int .i64 (puts.length:Int)] (W.setCell ⟨x,0,none⟩ v).drew λ e w'=>e=.returned (.tuple #[])/\(∀ j,j<W0.heap.size->¬G j->w'.heap[j]?=(W.setCell ⟨x,0,none⟩ v).heap[j]?)/\zb1 w w' G rb n m S:=by
 have hnx:¬G' x:=λ e=>by
  rcases h.sub x e with e|e
  ·have:=hG x e;omega
  ·omega
 have hu:Upd (λ k=>k=x) W (W.setCell ⟨x,0,none⟩ v):=Upd.setCell (S:=λ k=>k=x) (Upd.refl _ _) (p:=⟨x,0,none⟩) (.inl rfl) v
 obtain ⟨puts3,a1,a2,a3⟩:=h.room
 have hpre:=a3.base
 rw [hbs] at hpre
 obtain ⟨tail,rfl⟩:=hpre
 have hrm:=(a2.frame hu λ k hk e=>hnx (e ▸ hk)).below (zBr (W.setCell ⟨x,0,none⟩ v).heap.size (W.setCell ⟨x,0,none⟩ v)).drew
 have hs0:=h.up.size
 have hs1:=hu.size
 refine (ziN G' rb n puts tail _ hrm (by omega)).mono ?_
 rintro e w' ⟨rfl,hq⟩
 obtain ⟨G2,c1,c2⟩:=hq.out
 have hd:Upd G' (W.setCell ⟨x,0,none⟩ v) w':=c2.upd.drew_left
 refine ⟨rfl,λ j hj hn=>?_,G2,⟨puts,hl,c1,hr⟩,?_,λ k hk=>?_⟩
 ·refine hd.block j (by omega) λ e=>?_
  rcases h.sub j e with e|e
  ·exact hn e
  ·omega
 ·have u1:Upd G w W:=((hb.upd' (zNr _)).mono (S':=G) λ _ _ e=>False.elim e).trans h.up
  have u2:Upd G w (W.setCell ⟨x,0,none⟩ v):=u1.trans' hu λ j hj e=>absurd e (by omega)
  refine u2.trans' hd λ j hj e=>?_
  rcases h.sub j e with e|e
  ·exact e
  ·have:=hb.size;omega
 ·rcases c2.sub k hk with e|e
  ·rcases h.sub k e with e|e
   ·exact .inl e
   ·have:=hb.size;exact .inr (by omega)
  ·have e':(W.setCell ⟨x,0,none⟩ v).heap.size<=k:=e
   have:=hb.size
   exact .inr (by omega)
def zkO (w W:World) (G:Nat->Prop) (tb rb n m:Nat) (S:RS) (puts:List (Int × ByteArray)):Prop :=
 W.cell? ⟨w.heap.size+1,0,none⟩=some (.int .i64 0)/\W.frozen? ⟨w.heap.size+1,0,none⟩=false /\
 (W.setCell ⟨w.heap.size+1,0,none⟩ (.int .i64 4)).cell? ⟨w.heap.size+1,0,none⟩=some (.int .i64 4)/\(W.setCell ⟨w.heap.size+1,0,none⟩ (.int .i64 4)).cell? ⟨w.heap.size,0,none⟩=some (.pointer (some ⟨tb,0,none⟩))/\(W.setCell ⟨w.heap.size+1,0,none⟩ (.int .i64 4)).cell? ⟨w.heap.size+1+1,0,none⟩=some (.int .i64 (puts.length:Int))/\(W.setCell ⟨w.heap.size+1,0,none⟩ (.int .i64 4)).cell? ⟨tb,0,none⟩=some (.pointer (some ⟨rb,0,none⟩)) /\
 Calls Tryz.prog 119 #[.pointer (some ⟨rb,0,none⟩),.int .i64 (puts.length:Int)] (W.setCell ⟨w.heap.size+1,0,none⟩ (.int .i64 4)).drew λ e w'=>e=.returned (.tuple #[])/\(w'.cell? ⟨w.heap.size,0,none⟩=some (.pointer (some ⟨tb,0,none⟩))/\w'.cell? ⟨w.heap.size+1+1,0,none⟩=some (.int .i64 (puts.length:Int))/\w'.cell? ⟨tb,0,none⟩=some (.pointer (some ⟨rb,0,none⟩)))/\w'.cell? ⟨w.heap.size+1,0,none⟩=some (.int .i64 4)/\Hid (zb1 w w' G rb n m S)
theorem zmn {w W0 W:World} {G G':Nat->Prop} {tb rb place n m m':Nat} {S S3:RS} {puts:List (Int × ByteArray)} (h:zak W0 W G G' tb rb place n m' S3) (hbs:S3.base=puts) (hl0:zc4 W0 w.heap.size tb) (hb2:W0.heap[w.heap.size+2]?=some (.cells #[.int .i64 (puts.length:Int)] 3 (0,0))) (hb:Below w.heap.size w W0) (hG:∀ k,G k->k<w.heap.size) (hs:W0.heap.size=w.heap.size+3) (htl:tb<w.heap.size) (hg:¬G tb) (hm:m'<=4000000) (hl:puts.length<=m) (hr:Rep n puts S) :
 zkO w W G tb rb n m S puts:=by
 have n0:¬G w.heap.size:=λ e=>by have:=hG _ e;omega
 have n1:¬G (w.heap.size+1):=λ e=>by have:=hG _ e;omega
 have n2:¬G (w.heap.size+2):=λ e=>by have:=hG _ e;omega
 have L:=hl0.upd h.up n0 n1
 have L2:=h.up.at hb2 n2
 have x0:(W.setCell ⟨w.heap.size+1,0,none⟩ (.int .i64 4)).heap[w.heap.size]?=some (.cells #[.pointer (some ⟨tb,0,none⟩)] 103 (0,0)):=(zae _ (by omega)).trans L.b0
 have x1:(W.setCell ⟨w.heap.size+1,0,none⟩ (.int .i64 4)).heap[w.heap.size+1]?=some (.cells #[.int .i64 4] 34 (0,0)):=zac L.b1 _
 have x2:(W.setCell ⟨w.heap.size+1,0,none⟩ (.int .i64 4)).heap[w.heap.size+2]?=some (.cells #[.int .i64 (puts.length:Int)] 3 (0,0)):=(zae _ (by omega)).trans L2
 have x3:(W.setCell ⟨w.heap.size+1,0,none⟩ (.int .i64 4)).heap[tb]?=some (.cells #[.pointer (some ⟨rb,0,none⟩),.int .i64 (place:Int)] 190 (0,0)):=(zae _ (by omega)).trans h.blk
 refine ⟨zaa L.b1 rfl,zad L.b1 0,zaa x1 rfl,zaa x0 rfl,zaa x2 rfl,zaa x3 rfl,(h.backs hbs hb hG (by omega) (by omega) _ hm hl hr).mono ?_⟩
 rintro e w' ⟨rfl,hk,hgo⟩
 exact ⟨rfl,⟨zaa ((hk _ (by omega) n0).trans x0) rfl,zaa ((hk _ (by omega) n2).trans x2) rfl,zaa ((hk _ (by omega) hg).trans x3) rfl⟩,zaa ((hk _ (by omega) n1).trans x1) rfl,hgo⟩
theorem zoc (G:Nat->Prop) (tb rb place n m:Nat) (w:World) (puts:List (Int × ByteArray)) (S0 S:RS) (hr0:Rep n puts S0) (hbs:S.base=puts) (hl:puts.length<=m) (hrm:Rm w G rb n puts) (T:TT) (key val:ByteArray) (h:RmS w G rb n m S) (ht:TB w tb rb place) (hg:¬G tb) (hp:place<16) (hm:m<=3900000) (hks:key.size<=96) (hvs:val.size<=56) (hS:zaY S place (some T)) (hh:T.h<=20) :
 Calls Tryz.prog 71 #[.pointer (some ⟨tb,0,none⟩),.string key,.string val] w λ e w'=>(e=.returned (.int .i64 0)/\Hid (zc5 w w' G rb n m place S (some T) key val))\/(e=.returned (.int .i64 4)/\Hid (zb1 w w' G rb n m S0)):=by
 have hmf:∀ (fn:Fn) (first cap:Array Value) (w:World),(Instr.makeFunc fn first cap).run Tryz.prog w=.ok (.func fn first cap) w:=λ _ _ _ _=>rfl
 obtain ⟨hh0,p,t⟩:=T
 obtain ⟨hr,hT⟩:=hS
 have hp65:p<65536:=by
  have:=h.lim p hT.on.top.1
  have:=h.bounds
  unfold zaf at *;omega
 have htl:=zab ht
 obtain ⟨c0,c1⟩:=ht.cells
 have hb3:=λ k=>zbc w tb k
 have d0:(((w.alloc (.cells #[.pointer (some ⟨tb,0,none⟩)] 103)).alloc (.cells #[.int .i64 0] 34)).alloc (.cells #[.int .i64 0] 3)).cell? ⟨tb,0,none⟩=some (.pointer (some ⟨rb,0,none⟩)):=(zCb ((hb3 0).block tb htl)).trans c0
 have M3:Hid (Calls Tryz.prog 114 #[.pointer (some ⟨rb,0,none⟩)] (((w.alloc (.cells #[.pointer (some ⟨tb,0,none⟩)] 103)).alloc (.cells #[.int .i64 0] 34)).alloc (.cells #[.int .i64 0] 3)) λ e w'=>e=.returned (.int .i64 (puts.length:Int))/\(((w.alloc (.cells #[.pointer (some ⟨tb,0,none⟩)] 103)).alloc (.cells #[.int .i64 0] 34)).alloc (.cells #[.int .i64 0] 3))=w'):=Hd (zdR G rb n puts _ (hrm.below (hb3 0)))
 have hk1:¬(96:Int)<(key.size:Int):=by omega
 have hk2:¬(56:Int)<(val.size:Int):=by omega
 have HG:=Hd h.lt
 have HR0:=Hd hr0
 have HBS:=Hd hbs
 have HL:=Hd hl
 have HTL:=Hd (show tb<w.heap.size/\¬G tb from ⟨htl,hg⟩)
 have HKS:=Hd hks
 have HVS:=Hd hvs
 have HR:=Hd hr
 have HT:=Hd hT
 have HP65:=Hd hp65
 have HH:=Hd hh
 have B0:Hid (∀ k:Int,zak (zeB w tb k) (zeB w tb k) G G tb rb place n m S):=Hd λ k=>zak.start (h.below (hb3 k)) (ht.below (hb3 k)) hg
 have HP:=Hd hp
 have HM:=Hd hm
 clear h ht hg hp hm hks hvs hr hb3 c1 hT hp65 hh hr0 hbs hl hrm
 go_enter_defers Tryz.func71,Tryz.ntmps71
 go_wp2_with fail
 refine M3.out.mono ?_
 rintro e w1 ⟨rfl,rfl⟩
 clear M3 d0
 go_wp2_with fail
 have BW:=Hd (B0.out (puts.length:Int))
 have LW:=Hd (zeo w tb (puts.length:Int))
 have SW:=Hd (zdj w tb (puts.length:Int))
 have BB:=Hd (zbc w tb (puts.length:Int))
 have B2W:=Hd (zmm w tb (puts.length:Int))
 change Calls Tryz.prog 125 #[.pointer (some ⟨tb,0,none⟩)] (zeB w tb (puts.length:Int)) _
 generalize zeB w tb (puts.length:Int)=W0 at *
 have RT:=zc3 G tb rb place n m S W0 BW.out.room BW.out.blk HP.out (by have:=HM.out;omega) (by have:=HP65.out;rw [HR.out];omega)
 rw [HR.out,show (((p+1:Nat):Int)-1)=(p:Int) by omega] at RT
 refine RT.mono ?_
 rintro e w2 ⟨rfl,hb⟩
 have B2:=Hd (BW.out.below hb.out)
 have L2:=Hd (LW.out.below hb.out)
 obtain ⟨x0,x1,x2,x3,x4⟩:=L2.out.cells
 have hgB:Hid (¬G w.heap.size/\¬G (w.heap.size+1)):=Hd ⟨λ e=>by have:=HG.out _ e;omega,λ e=>by have:=HG.out _ e;omega⟩
 have PT0:=Hd (zpa hh0 G tb rb place n m S p t key val 0 w2 B2.out.room B2.out.blk B2.out.gt HT.out HKS.out HVS.out (by have:=HH.out;omega) (by have:=HM.out;have:hh0<=20:=HH.out;omega))
 rw [show ((0:Nat):Int)=0 from rfl] at PT0
 have hp0:¬(p:Int)<0:=by omega
 clear RT hb
 go_wp2_with fail
 refine PT0.out.mono ?_
 rintro e w3 (⟨kk,q,more,rfl,HPP⟩|⟨rfl,HPP⟩)
 ·clear PT0 x0 x1 x2 x3 x4
  cases more with
  | false =>
    obtain ⟨S3,hgo3,hif⟩:=HPP.out
    rw [if_neg (by simp)] at hif
    obtain ⟨rfl,rfl,t',K⟩:=hif
    obtain ⟨G3,b3,-⟩:=B2.out.step hgo3
    have L3:=zdk (w:=w) LW.out b3 hgB.out.1 hgB.out.2
    obtain ⟨x0,x1,x2,x3,x4⟩:=L3.cells
    have hfin:(w3.setCell ⟨w.heap.size+1,0,none⟩ (.int .i64 0)).cell? ⟨w.heap.size+1,0,none⟩=some (.int .i64 0):=zaa (zac L3.b1 _) rfl
    have hgo:=Hd (b3.fin BB.out HG.out (x:=w.heap.size+1) (by omega) (by have:=SW.out;omega) 0 (.int .i64 0))
    have HK:=Hd K
    clear b3 L3 HPP hgo3 K
    go_wp2_with fail
    refine leaves_cons (f:=124) (args:=#[.pointer (some ⟨w.heap.size+1,0,none⟩)]) (by simp) (by simp [go_sem]) ?_
    refine (zax _ _).mono ?_
    rintro e u' w5 ⟨rfl,rfl,rfl⟩
    refine leaves_cons (f:=123) (args:=#[.pointer (some ⟨w.heap.size+1,0,none⟩),.pointer (some ⟨w.heap.size,0,none⟩),.pointer (some ⟨w.heap.size+1+1,0,none⟩)]) (by simp [settle]) (by simp [go_sem]) ?_
    refine (zcC _ _ _ _ _ hfin).mono ?_
    rintro e u' w6 ⟨rfl,rfl,rfl⟩
    have HGO:Hid (zc5 w (w3.setCell ⟨w.heap.size+1,0,none⟩ (.int .i64 0)) G rb n m place S (some ⟨hh0,p,t⟩) key val):=Hd (by
     obtain ⟨G5,y1,y2⟩:=hgo.out
     exact ⟨_,_,⟨G5,y1.more (by have:hh0<=20:=HH.out;omega),y2⟩,zgL HK.out HR.out⟩)
    simp [Leaves,settle,results,Tryz.results71,go_sem,hfin]
    exact HGO
  | true =>
    obtain ⟨S3,hgo3,hif⟩:=HPP.out
    rw [if_pos rfl] at hif
    obtain ⟨t1,t2,K⟩:=hif
    obtain ⟨G3,b3,-⟩:=B2.out.step hgo3
    have HK:=Hd K
    have B3:=Hd b3
    have L3:=Hd (zdk (w:=w) LW.out b3 hgB.out.1 hgB.out.2)
    obtain ⟨x0,x1,x2,x3,x4⟩:=L3.out.cells
    have hg3:Hid (¬G3 w.heap.size/\¬G3 (w.heap.size+1)):=Hd ⟨λ e=>by
     rcases b3.sub _ e with e|e
     ·exact hgB.out.1 e
     ·have:=SW.out;omega,λ e=>by
     rcases b3.sub _ e with e|e
     ·exact hgB.out.2 e
     ·have:=SW.out;omega⟩
    have HM3:Hid (m+4*(hh0+1)<=3998000):=Hd (by have:=HM.out;have:hh0<=20:=HH.out;omega)
    by_cases hfr:∃ r,r<zaf n/\S3.used r=false
    ·have FR:Hid (∀ W q1 a b,Below w3.heap.size w3 W->W.heap[q1]?=some (.cells #[.bool false,.slice (some ⟨a,0,none⟩) 2 2,.slice none 0 0,.slice (some ⟨b,0,none⟩) 2 2] 222 (0,0))->W.heap[a]?=some (.cells #[.string ⟨#[]⟩,.string kk] 9 (0,0))->W.heap[b]?=some (.cells #[.int .i64 (p:Int),.int .i64 (q:Int)] 3 (0,0))->w3.heap.size<=q1/\w3.heap.size<=a/\w3.heap.size<=b ->
      Calls Tryz.prog 127 #[.pointer (some ⟨tb,0,none⟩),.pointer (some ⟨q1,0,none⟩)] W λ e w'=>∃ r:Nat,e=.returned (.int .i64 (r:Int))/\w'.cell? ⟨w.heap.size,0,none⟩=some (.pointer (some ⟨tb,0,none⟩))/\Hid (r<65536/\S3.used r=false/\∃ G',zak W0 w' G G' tb rb place n (m+4*(hh0+1)+3) (wrS (zaT S3 r) r (.inner [(ByteArray.empty,p),(kk,q)])))):=Hd λ W q1 a b hW h1 h2 h3 h4=>by
      have hs:=B3.out.up.size
      have hlt:=B3.out.room.lt
      have hrd:RdN W0 W G3 q1 (.inner [(ByteArray.empty,p),(kk,q)]):=zlY h1 h2 h3 ⟨by omega,by omega,by omega⟩ ⟨λ e=>by have:=hlt _ e;omega,λ e=>by have:=hlt _ e;omega,λ e=>by have:=hlt _ e;omega⟩
      have hk:=HK.out.ksz
      have hq:=HK.out.qlt
      have hp6:=HP65.out
      have hsz:(Nd.inner [(ByteArray.empty,p),(kk,q)]).size<=512:=by rw [zaM];simp [esI];omega
      have hok:(Nd.inner [(ByteArray.empty,p),(kk,q)]).Ok:=by
       refine ⟨by simp [Nd.len,Nd.keys],by simp [Nd.len,Nd.keys],λ x hx=>?_,λ x hx=>?_,λ x hx=>?_⟩
       ·simp [Nd.keys] at hx
        rcases hx with rfl|rfl
        ·decide
        ·exact hk
       ·simp [Nd.vals] at hx
       ·simp [Nd.kids] at hx
        rcases hx with rfl|rfl <;> omega
      refine (zbr (B3.out.below hW) hrd hok hsz (by have:=HM3.out;omega) hfr).mono ?_
      rintro e w' ⟨r,rfl,a1,a2,G',a3,a4⟩
      refine ⟨r,rfl,(L3.out.upd (hW.upd' (zNr _)) (λ e=>e) (λ e=>e) |>.upd a4.upd hg3.out.1 hg3.out.2).cells.1,?_,a2,G',a3⟩
      have:=a3.room.bounds;unfold zaf at a1;omega
     have SR:Hid (∀ r W,Hid (r<65536/\S3.used r=false/\∃ G',zak W0 W G G' tb rb place n (m+4*(hh0+1)+3) (wrS (zaT S3 r) r (.inner [(ByteArray.empty,p),(kk,q)])))->Calls Tryz.prog 126 #[.pointer (some ⟨tb,0,none⟩),.int .i64 (r:Int)] W λ e w'=>e=.returned (.tuple #[])/\(w'.cell? ⟨w.heap.size,0,none⟩=some (.pointer (some ⟨tb,0,none⟩)))/\(w'.cell? ⟨w.heap.size+1,0,none⟩=some (.int .i64 0)/\w'.frozen? ⟨w.heap.size+1,0,none⟩=false)/\Hid (∃ G',zak W0 w' G G' tb rb place n (m+4*(hh0+1)+4) (zay (wrS (zaT S3 r) r (.inner [(ByteArray.empty,p),(kk,q)])) place (r+1)))):=Hd λ r W hW=>by
      obtain ⟨a1,a2,G',a3⟩:=hW.out
      refine (zep a3 HP.out (by have:=HM3.out;omega) r a1).mono ?_
      rintro e w' ⟨rfl,G2,b1,b2⟩
      have:=(zdk (w:=w) LW.out b1 hgB.out.1 hgB.out.2).cells
      exact ⟨rfl,this.1,⟨this.2.1,this.2.2.1⟩,G2,b1⟩
     clear b3 hgo3 K HPP B0
     go_wp2_with fail
     go_region_held3 (λ w'=>w'.cell? ⟨w.heap.size,0,none⟩=some (.pointer (some ⟨tb,0,none⟩))) (first|(go_keep;done)|exact (zCb ((zav w3 _ _ _).2.2.2.block _ x3)).trans x0) ((first
      | (go_at_call 127
         refine Calls.at_args (FR.out _ (w3.heap.size+1+1) w3.heap.size (w3.heap.size+1) (zav _ _ _ _).2.2.2 (zav _ _ _ _).2.2.1 (zav _ _ _ _).1 (zav _ _ _ _).2.1 ⟨by omega,by omega,by omega⟩) (by with_reducible rfl) ?_
         rintro e w5 ⟨r,rfl,hl,HF⟩)
      | (go_at_call 127
         refine Calls.at_args (FR.out _ (w3.heap.size+1+1) (w3.heap.size+1) w3.heap.size (zav _ _ _ _).2.2.2 (zav _ _ _ _).2.2.1 (zav _ _ _ _).2.1 (zav _ _ _ _).1 ⟨by omega,by omega,by omega⟩) (by with_reducible rfl) ?_
         rintro e w5 ⟨r,rfl,hl,HF⟩)
      | (go_at_call 126
         refine Calls.at_args (SR.out r _ HF) (by with_reducible rfl) ?_
         rintro e w4 ⟨rfl,hk4,hl4,HS⟩)))
     all_goals (
      obtain ⟨G4,b4⟩:=HS.out
      have L4:=zdk (w:=w) LW.out b4 hgB.out.1 hgB.out.2
      have hfin:(w4.setCell ⟨w.heap.size+1,0,none⟩ (.int .i64 0)).cell? ⟨w.heap.size+1,0,none⟩=some (.int .i64 0):=zaa (zac L4.b1 _) rfl
      have hgo:=Hd (b4.fin BB.out HG.out (x:=w.heap.size+1) (by omega) (by have:=SW.out;omega) 0 (.int .i64 0))
      clear b4 L4 HS FR SR
      go_wp2_with fail
      refine leaves_cons (f:=124) (args:=#[.pointer (some ⟨w.heap.size+1,0,none⟩)]) (by simp) (by simp [go_sem]) ?_
      refine (zax _ _).mono ?_
      rintro e u' w5 ⟨rfl,rfl,rfl⟩
      refine leaves_cons (f:=123) (args:=#[.pointer (some ⟨w.heap.size+1,0,none⟩),.pointer (some ⟨w.heap.size,0,none⟩),.pointer (some ⟨w.heap.size+1+1,0,none⟩)]) (by simp [settle]) (by simp [go_sem]) ?_
      refine (zcC _ _ _ _ _ hfin).mono ?_
      rintro e u' w6 ⟨rfl,rfl,rfl⟩
      have HGO:Hid (zc5 w (w4.setCell ⟨w.heap.size+1,0,none⟩ (.int .i64 0)) G rb n m place S (some ⟨hh0,p,t⟩) key val):=Hd (by
       obtain ⟨G5,y1,y2⟩:=hgo.out
       exact ⟨_,_,⟨G5,y1.more (by have:hh0<=20:=HH.out;omega),y2⟩,zjB HK.out HP65.out HF.out.2.1⟩)
      simp [Leaves,settle,results,Tryz.results71,go_sem,hfin]
      exact HGO)
    ·have HB3:=Hd (show S3.base=puts from K.frm.base.trans HBS.out)
     have FP:Hid (∀ W q1,Below w3.heap.size w3 W->Calls Tryz.prog 127 #[.pointer (some ⟨tb,0,none⟩),.pointer (some ⟨q1,0,none⟩)] W λ e w'=>e=.panicked [{ v:=.iface 258 (.int .i64 4),recovered:=false }]/\Hid (zkO w w' G tb rb n m S0 puts)):=Hd λ W q1 hW=>by
      have b6:=B3.out.below hW
      refine (zcE G3 tb rb place n _ _ q1 W b6.room b6.blk (Nat.le_trans HM3.out (by decide)) λ r hr=>?_).mono ?_
      ·cases hu:S3.used r with
       | true=>rfl
       | false=>exact absurd ⟨r,hr,hu⟩ hfr
      ·rintro e w' ⟨rfl,hb⟩
       exact ⟨rfl,zmn (b6.below hb.out) HB3.out LW.out B2W.out BB.out HG.out SW.out HTL.out.1 HTL.out.2 (Nat.le_trans HM3.out (by decide)) HL.out HR0.out⟩
     clear b3 hgo3 K HPP B0
     go_wp2_with fail
     refine Code.wp_mono (Q:=QP [{ target:=.fn (.func 124) #[],args:=#[.pointer (some ⟨w.heap.size+1,0,none⟩)] },{ target:=.fn (.func 123) #[.pointer (some ⟨w.heap.size+1,0,none⟩),.pointer (some ⟨w.heap.size,0,none⟩),.pointer (some ⟨w.heap.size+1+1,0,none⟩)],args:=#[] }] (.pointer (some ⟨w.heap.size+1,0,none⟩)) (λ w'=>Hid (zkO w w' G tb rb n m S0 puts))) (λ e a w' h=>?_) ?_
     ·obtain ⟨rfl,hd,ht,FE⟩:=h.spec
      show Leaves Tryz.prog _ a.tmps _ a.defers (.panicking [{ v:=.iface 258 (.int .i64 4),recovered:=false }]) w'
      rw [hd]
      refine leaves_cons (f:=124) (args:=#[.pointer (some ⟨w.heap.size+1,0,none⟩)]) (by simp) (by simp [go_sem]) ?_
      refine (zdZ _ _ [] _ FE.out.1 FE.out.2.1).mono ?_
      rintro e u' w9 ⟨rfl,rfl,rfl⟩
      refine leaves_cons (f:=123) (args:=#[.pointer (some ⟨w.heap.size+1,0,none⟩),.pointer (some ⟨w.heap.size,0,none⟩),.pointer (some ⟨w.heap.size+1+1,0,none⟩)]) (by simp [settle]) (by simp [go_sem]) ?_
      refine (zfL _ _ _ tb rb _ _ _ FE.out.2.2.1 FE.out.2.2.2.1 FE.out.2.2.2.2.1 FE.out.2.2.2.2.2.1 FE.out.2.2.2.2.2.2).mono ?_
      rintro e u' w10 ⟨rfl,rfl,hfin,HGO⟩
      simp [Leaves,settle,results,Tryz.results71,go_sem,ht,hfin]
      exact HGO
     refine wp_region_held_drew (S:=(λ w'=>w'.cell? ⟨w.heap.size,0,none⟩=some (.pointer (some ⟨tb,0,none⟩)))) (by kernel_rfl) ?_ (λ hHeld=>?_)
     ·exact x0
     refine' wpAnyH_take (i:=0) (v:=?v1) rfl (by kernel_rfl) (by kernel_rfl) (by kernel_rfl) (λ _ _ _ h=>QP.put (by decide) h) (Or.inl ⟨by rfl,?hy1⟩) (by assumption) ?_
     case hy1=>(intro w hSw;(try dsimp only at hSw);go_simp;try with_reducible rfl)
     try simp only [Act.put,awL]
     refine' wpAnyH_take (i:=1) (v:=?v2) rfl (by kernel_rfl) (by kernel_rfl) (by kernel_rfl) (λ _ _ _ h=>QP.put (by decide) h) (Or.inl ⟨by rfl,?hy2⟩) (by assumption) ?_
     case hy2=>(intro w hSw;(try dsimp only at hSw);go_simp;try with_reducible rfl)
     try simp only [Act.put,awL]
     refine' wpAnyH_take (i:=2) (v:=?v3) rfl (by kernel_rfl) (by kernel_rfl) (by kernel_rfl) (λ _ _ _ h=>QP.put (by decide) h) (Or.inl ⟨by rfl,?hy3⟩) (by assumption) ?_
     case hy3=>(intro w hSw;(try dsimp only at hSw);go_simp;try with_reducible rfl)
     try simp only [Act.put,awL]
     refine' wpAnyH_take (i:=4) (v:=?v4) rfl (by kernel_rfl) (by kernel_rfl) (by kernel_rfl) (λ _ _ _ h=>QP.put (by decide) h) (Or.inl ⟨by rfl,?hy4⟩) (by assumption) ?_
     case hy4=>(intro w hSw;(try dsimp only at hSw);go_simp;try with_reducible rfl)
     try simp only [Act.put,awL]
     refine' wpAnyH_take (i:=5) (v:=?v5) rfl (by kernel_rfl) (by kernel_rfl) (by kernel_rfl) (λ _ _ _ h=>QP.put (by decide) h) (Or.inl ⟨by rfl,?hy5⟩) (by assumption) ?_
     case hy5=>(intro w hSw;(try dsimp only at hSw);go_simp;try with_reducible rfl)
     try simp only [Act.put,awL]
     refine wpAnyH_ready (rs:=[3,6]) (by kernel_rfl) (by simp) ?_
     refine AllReadyH.cons rfl (λ K hK=>?_) (AllReadyH.cons rfl (λ K hK=>?_) AllReadyH.nil)
     ·skip
      go_simp
      refine hK.out _ _ ?_ (λ hHeld=>?_)
      ·(first|(go_keep;done)|exact (zCb ((zav w3 _ _ _).2.2.2.block _ x3)).trans x0)
      clear hK K
      try simp only [Act.put,awL]
      refine wpAnyH_ready (rs:=[6]) (by kernel_rfl) (by simp) ?_
      refine AllReadyH.cons rfl (λ K hK=>?_) AllReadyH.nil
      go_simp
      refine hK.out _ _ ?_ (λ hHeld=>?_)
      ·(first|(go_keep;done)|exact (zCb ((zav w3 _ _ _).2.2.2.block _ x3)).trans x0)
      clear hK K
      try simp only [Act.put,awL]
      refine' wpAnyH_take (i:=7) (v:=?v6) rfl (by kernel_rfl) (by kernel_rfl) (by kernel_rfl) (λ _ _ _ h=>QP.put (by decide) h) (Or.inl ⟨by rfl,?hy6⟩) (by assumption) ?_
      case hy6=>(intro w hSw;(try dsimp only at hSw);go_simp;try with_reducible rfl)
      try simp only [Act.put,awL]
      refine wpAnyH_ready (rs:=[8]) (by kernel_rfl) (by simp) ?_
      refine AllReadyH.cons rfl (λ K hK=>?_) AllReadyH.nil
      go_simp
      refine hK.out _ _ ?_ (λ hHeld=>?_)
      ·(first|(go_keep;done)|exact (zCb ((zav w3 _ _ _).2.2.2.block _ x3)).trans x0)
      clear hK K
      try simp only [Act.put,awL]
      refine wpAnyH_ready (rs:=[9]) (by kernel_rfl) (by simp) ?_
      refine AllReadyH.cons rfl (λ K hK=>?_) AllReadyH.nil
      go_simp
      go_at_call 127
      refine Calls.at_args (FP.out _ _ (zav _ _ _ _).2.2.2) (by with_reducible rfl) ?_
      rintro e w7 ⟨rfl,FE⟩
      exact ⟨rfl,rfl,rfl,FE⟩
     ·skip
      go_simp
      refine hK.out _ _ ?_ (λ hHeld=>?_)
      ·(first|(go_keep;done)|exact (zCb ((zav w3 _ _ _).2.2.2.block _ x3)).trans x0)
      clear hK K
      try simp only [Act.put,awL]
      refine wpAnyH_ready (rs:=[3]) (by kernel_rfl) (by simp) ?_
      refine AllReadyH.cons rfl (λ K hK=>?_) AllReadyH.nil
      go_simp
      refine hK.out _ _ ?_ (λ hHeld=>?_)
      ·(first|(go_keep;done)|exact (zCb ((zav w3 _ _ _).2.2.2.block _ x3)).trans x0)
      clear hK K
      try simp only [Act.put,awL]
      refine' wpAnyH_take (i:=7) (v:=?v7) rfl (by kernel_rfl) (by kernel_rfl) (by kernel_rfl) (λ _ _ _ h=>QP.put (by decide) h) (Or.inl ⟨by rfl,?hy7⟩) (by assumption) ?_
      case hy7=>(intro w hSw;(try dsimp only at hSw);go_simp;try with_reducible rfl)
      try simp only [Act.put,awL]
      refine wpAnyH_ready (rs:=[8]) (by kernel_rfl) (by simp) ?_
      refine AllReadyH.cons rfl (λ K hK=>?_) AllReadyH.nil
      go_simp
      refine hK.out _ _ ?_ (λ hHeld=>?_)
      ·(first|(go_keep;done)|exact (zCb ((zav w3 _ _ _).2.2.2.block _ x3)).trans x0)
      clear hK K
      try simp only [Act.put,awL]
      refine wpAnyH_ready (rs:=[9]) (by kernel_rfl) (by simp) ?_
      refine AllReadyH.cons rfl (λ K hK=>?_) AllReadyH.nil
      go_simp
      go_at_call 127
      refine Calls.at_args (FP.out _ _ (zav _ _ _ _).2.2.2) (by with_reducible rfl) ?_
      rintro e w7 ⟨rfl,FE⟩
      exact ⟨rfl,rfl,rfl,FE⟩
 ·have FE:Hid (zkO w w3 G tb rb n m S0 puts):=Hd (by
   obtain ⟨S3,hgo3,hb3⟩:=HPP.out
   obtain ⟨G3,b3,-⟩:=B2.out.step hgo3
   exact zmn b3 (hb3.trans HBS.out) LW.out B2W.out BB.out HG.out SW.out HTL.out.1 HTL.out.2 (by have:=HM.out;have:hh0<=20:=HH.out;omega) HL.out HR0.out)
  clear PT0 HPP x0 x1 x2 x3 x4
  go_wp2_with fail
  refine leaves_cons (f:=124) (args:=#[.pointer (some ⟨w.heap.size+1,0,none⟩)]) (by simp) (by simp [go_sem]) ?_
  refine (zdZ _ _ [] _ FE.out.1 FE.out.2.1).mono ?_
  rintro e u' w9 ⟨rfl,rfl,rfl⟩
  refine leaves_cons (f:=123) (args:=#[.pointer (some ⟨w.heap.size+1,0,none⟩),.pointer (some ⟨w.heap.size,0,none⟩),.pointer (some ⟨w.heap.size+1+1,0,none⟩)]) (by simp [settle]) (by simp [go_sem]) ?_
  refine (zfL _ _ _ tb rb _ _ _ FE.out.2.2.1 FE.out.2.2.2.1 FE.out.2.2.2.2.1 FE.out.2.2.2.2.2.1 FE.out.2.2.2.2.2.2).mono ?_
  rintro e u' w10 ⟨rfl,rfl,hfin,HGO⟩
  simp [Leaves,settle,results,Tryz.results71,go_sem,hfin]
  exact HGO
theorem zod (G:Nat->Prop) (tb rb place n m:Nat) (w:World) (puts:List (Int × ByteArray)) (S0 S:RS) (hr0:Rep n puts S0) (hbs:S.base=puts) (hl:puts.length<=m) (hrm:Rm w G rb n puts) (key val:ByteArray) (h:RmS w G rb n m S) (ht:TB w tb rb place) (hg:¬G tb) (hp:place<16) (hm:m<=3900000) (hks:key.size<=96) (hvs:val.size<=56) (hr:S.root place=0) (hfull:∀ q,q<zaf n->S.used q=true) :
 Calls Tryz.prog 71 #[.pointer (some ⟨tb,0,none⟩),.string key,.string val] w λ e w'=>e=.returned (.int .i64 4)/\Hid (zb1 w w' G rb n m S0):=by
 have hmf:∀ (fn:Fn) (first cap:Array Value) (w:World),(Instr.makeFunc fn first cap).run Tryz.prog w=.ok (.func fn first cap) w:=λ _ _ _ _=>rfl
 have htl:=zab ht
 obtain ⟨c0,c1⟩:=ht.cells
 have hb3:=λ k=>zbc w tb k
 have d0:(((w.alloc (.cells #[.pointer (some ⟨tb,0,none⟩)] 103)).alloc (.cells #[.int .i64 0] 34)).alloc (.cells #[.int .i64 0] 3)).cell? ⟨tb,0,none⟩=some (.pointer (some ⟨rb,0,none⟩)):=(zCb ((hb3 0).block tb htl)).trans c0
 have M3:Hid (Calls Tryz.prog 114 #[.pointer (some ⟨rb,0,none⟩)] (((w.alloc (.cells #[.pointer (some ⟨tb,0,none⟩)] 103)).alloc (.cells #[.int .i64 0] 34)).alloc (.cells #[.int .i64 0] 3)) λ e w'=>e=.returned (.int .i64 (puts.length:Int))/\(((w.alloc (.cells #[.pointer (some ⟨tb,0,none⟩)] 103)).alloc (.cells #[.int .i64 0] 34)).alloc (.cells #[.int .i64 0] 3))=w'):=Hd (zdR G rb n puts _ (hrm.below (hb3 0)))
 have hk1:¬(96:Int)<(key.size:Int):=by omega
 have hk2:¬(56:Int)<(val.size:Int):=by omega
 have HG:=Hd h.lt
 have HFULL:=Hd hfull
 have HR0:=Hd hr0
 have HBS:=Hd hbs
 have HL:=Hd hl
 have HTL:=Hd (show tb<w.heap.size/\¬G tb from ⟨htl,hg⟩)
 have HKS:=Hd hks
 have HVS:=Hd hvs
 have HR:=Hd hr
 have B0:Hid (∀ k:Int,zak (zeB w tb k) (zeB w tb k) G G tb rb place n m S):=Hd λ k=>zak.start (h.below (hb3 k)) (ht.below (hb3 k)) hg
 have HP:=Hd hp
 have HM:=Hd hm
 clear h ht hg hp hm hks hvs hr hfull hb3 c1 hr0 hbs hl hrm
 go_enter_defers Tryz.func71,Tryz.ntmps71
 go_wp2_with fail
 refine M3.out.mono ?_
 rintro e w1 ⟨rfl,rfl⟩
 clear M3 d0
 go_wp2_with fail
 have BW:=Hd (B0.out (puts.length:Int))
 have LW:=Hd (zeo w tb (puts.length:Int))
 have SW:=Hd (zdj w tb (puts.length:Int))
 have BB:=Hd (zbc w tb (puts.length:Int))
 have B2W:=Hd (zmm w tb (puts.length:Int))
 change Calls Tryz.prog 125 #[.pointer (some ⟨tb,0,none⟩)] (zeB w tb (puts.length:Int)) _
 generalize zeB w tb (puts.length:Int)=W0 at *
 have RT:=zc3 G tb rb place n m S W0 BW.out.room BW.out.blk HP.out (by have:=HM.out;omega) (by rw [HR.out];omega)
 rw [HR.out] at RT
 refine RT.mono ?_
 rintro e w2 ⟨rfl,hb⟩
 have B2:=Hd (BW.out.below hb.out)
 have L2:=Hd (LW.out.below hb.out)
 obtain ⟨x0,x1,x2,x3,x4⟩:=L2.out.cells
 have FP:Hid (∀ W q1,Below w2.heap.size w2 W->Calls Tryz.prog 127 #[.pointer (some ⟨tb,0,none⟩),.pointer (some ⟨q1,0,none⟩)] W λ e w'=>e=.panicked [{ v:=.iface 258 (.int .i64 4),recovered:=false }]/\Hid (zkO w w' G tb rb n m S0 puts)):=Hd λ W q1 hW=>by
  have b6:=B2.out.below hW
  refine (zcE G tb rb place n _ _ q1 W b6.room b6.blk (by have:=HM.out;omega) HFULL.out).mono ?_
  rintro e w' ⟨rfl,hb⟩
  exact ⟨rfl,zmn (b6.below hb.out) HBS.out LW.out B2W.out BB.out HG.out SW.out HTL.out.1 HTL.out.2 (by have:=HM.out;omega) HL.out HR0.out⟩
 clear RT hb
 go_wp2_with fail
 refine Code.wp_mono (Q:=QP [{ target:=.fn (.func 124) #[],args:=#[.pointer (some ⟨w.heap.size+1,0,none⟩)] },{ target:=.fn (.func 123) #[.pointer (some ⟨w.heap.size+1,0,none⟩),.pointer (some ⟨w.heap.size,0,none⟩),.pointer (some ⟨w.heap.size+1+1,0,none⟩)],args:=#[] }] (.pointer (some ⟨w.heap.size+1,0,none⟩)) (λ w'=>Hid (zkO w w' G tb rb n m S0 puts))) (λ e a w' h=>?_) ?_
 ·obtain ⟨rfl,hd,ht,FE⟩:=h.spec
  show Leaves Tryz.prog _ a.tmps _ a.defers (.panicking [{ v:=.iface 258 (.int .i64 4),recovered:=false }]) w'
  rw [hd]
  refine leaves_cons (f:=124) (args:=#[.pointer (some ⟨w.heap.size+1,0,none⟩)]) (by simp) (by simp [go_sem]) ?_
  refine (zdZ _ _ [] _ FE.out.1 FE.out.2.1).mono ?_
  rintro e u' w9 ⟨rfl,rfl,rfl⟩
  refine leaves_cons (f:=123) (args:=#[.pointer (some ⟨w.heap.size+1,0,none⟩),.pointer (some ⟨w.heap.size,0,none⟩),.pointer (some ⟨w.heap.size+1+1,0,none⟩)]) (by simp [settle]) (by simp [go_sem]) ?_
  refine (zfL _ _ _ tb rb _ _ _ FE.out.2.2.1 FE.out.2.2.2.1 FE.out.2.2.2.2.1 FE.out.2.2.2.2.2.1 FE.out.2.2.2.2.2.2).mono ?_
  rintro e u' w10 ⟨rfl,rfl,hfin,HGO⟩
  simp [Leaves,settle,results,Tryz.results71,go_sem,ht,hfin]
  exact HGO
 refine wp_region_held_drew (S:=(λ w'=>w'.cell? ⟨w.heap.size,0,none⟩=some (.pointer (some ⟨tb,0,none⟩)))) (by kernel_rfl) ?_ (λ hHeld=>?_)
 ·exact x0
 refine' wpAnyH_take (i:=0) (v:=?v8) rfl (by kernel_rfl) (by kernel_rfl) (by kernel_rfl) (λ _ _ _ h=>QP.put (by decide) h) (Or.inl ⟨by rfl,?hy8⟩) (by assumption) ?_
 case hy8=>(intro w hSw;(try dsimp only at hSw);go_simp;try with_reducible rfl)
 try simp only [Act.put,awL]
 refine' wpAnyH_take (i:=1) (v:=?v9) rfl (by kernel_rfl) (by kernel_rfl) (by kernel_rfl) (λ _ _ _ h=>QP.put (by decide) h) (Or.inl ⟨by rfl,?hy9⟩) (by assumption) ?_
 case hy9=>(intro w hSw;(try dsimp only at hSw);go_simp;try with_reducible rfl)
 try simp only [Act.put,awL]
 refine' wpAnyH_take (i:=2) (v:=?v10) rfl (by kernel_rfl) (by kernel_rfl) (by kernel_rfl) (λ _ _ _ h=>QP.put (by decide) h) (Or.inl ⟨by rfl,?hy10⟩) (by assumption) ?_
 case hy10=>(intro w hSw;(try dsimp only at hSw);go_simp;try with_reducible rfl)
 try simp only [Act.put,awL]
 refine' wpAnyH_take (i:=4) (v:=?v11) rfl (by kernel_rfl) (by kernel_rfl) (by kernel_rfl) (λ _ _ _ h=>QP.put (by decide) h) (Or.inl ⟨by rfl,?hy11⟩) (by assumption) ?_
 case hy11=>(intro w hSw;(try dsimp only at hSw);go_simp;try with_reducible rfl)
 try simp only [Act.put,awL]
 refine wpAnyH_ready (rs:=[3,5]) (by kernel_rfl) (by simp) ?_
 refine AllReadyH.cons rfl (λ K hK=>?_) (AllReadyH.cons rfl (λ K hK=>?_) AllReadyH.nil)
 ·skip
  go_simp
  refine hK.out _ _ ?_ (λ hHeld=>?_)
  ·(first|(go_keep;done)|exact (zCb ((zav w2 _ _ _).2.2.2.block _ x3)).trans x0)
  clear hK K
  try simp only [Act.put,awL]
  refine wpAnyH_ready (rs:=[5]) (by kernel_rfl) (by simp) ?_
  refine AllReadyH.cons rfl (λ K hK=>?_) AllReadyH.nil
  go_simp
  refine hK.out _ _ ?_ (λ hHeld=>?_)
  ·(first|(go_keep;done)|exact (zCb ((zav w2 _ _ _).2.2.2.block _ x3)).trans x0)
  clear hK K
  try simp only [Act.put,awL]
  refine' wpAnyH_take (i:=6) (v:=?v12) rfl (by kernel_rfl) (by kernel_rfl) (by kernel_rfl) (λ _ _ _ h=>QP.put (by decide) h) (Or.inl ⟨by rfl,?hy12⟩) (by assumption) ?_
  case hy12=>(intro w hSw;(try dsimp only at hSw);go_simp;try with_reducible rfl)
  try simp only [Act.put,awL]
  refine wpAnyH_ready (rs:=[7]) (by kernel_rfl) (by simp) ?_
  refine AllReadyH.cons rfl (λ K hK=>?_) AllReadyH.nil
  go_simp
  refine hK.out _ _ ?_ (λ hHeld=>?_)
  ·(first|(go_keep;done)|exact (zCb ((zav w2 _ _ _).2.2.2.block _ x3)).trans x0)
  clear hK K
  try simp only [Act.put,awL]
  refine wpAnyH_ready (rs:=[8]) (by kernel_rfl) (by simp) ?_
  refine AllReadyH.cons rfl (λ K hK=>?_) AllReadyH.nil
  go_simp
  go_at_call 127
  refine Calls.at_args (FP.out _ _ (zav _ _ _ _).2.2.2) (by with_reducible rfl) ?_
  rintro e w7 ⟨rfl,FE⟩
  exact ⟨rfl,rfl,rfl,FE⟩
 ·skip
  go_simp
  refine hK.out _ _ ?_ (λ hHeld=>?_)
  ·(first|(go_keep;done)|exact (zCb ((zav w2 _ _ _).2.2.2.block _ x3)).trans x0)
  clear hK K
  try simp only [Act.put,awL]
  refine wpAnyH_ready (rs:=[3]) (by kernel_rfl) (by simp) ?_
  refine AllReadyH.cons rfl (λ K hK=>?_) AllReadyH.nil
  go_simp
  refine hK.out _ _ ?_ (λ hHeld=>?_)
  ·(first|(go_keep;done)|exact (zCb ((zav w2 _ _ _).2.2.2.block _ x3)).trans x0)
  clear hK K
  try simp only [Act.put,awL]
  refine' wpAnyH_take (i:=6) (v:=?v13) rfl (by kernel_rfl) (by kernel_rfl) (by kernel_rfl) (λ _ _ _ h=>QP.put (by decide) h) (Or.inl ⟨by rfl,?hy13⟩) (by assumption) ?_
  case hy13=>(intro w hSw;(try dsimp only at hSw);go_simp;try with_reducible rfl)
  try simp only [Act.put,awL]
  refine wpAnyH_ready (rs:=[7]) (by kernel_rfl) (by simp) ?_
  refine AllReadyH.cons rfl (λ K hK=>?_) AllReadyH.nil
  go_simp
  refine hK.out _ _ ?_ (λ hHeld=>?_)
  ·(first|(go_keep;done)|exact (zCb ((zav w2 _ _ _).2.2.2.block _ x3)).trans x0)
  clear hK K
  try simp only [Act.put,awL]
  refine wpAnyH_ready (rs:=[8]) (by kernel_rfl) (by simp) ?_
  refine AllReadyH.cons rfl (λ K hK=>?_) AllReadyH.nil
  go_simp
  go_at_call 127
  refine Calls.at_args (FP.out _ _ (zav _ _ _ _).2.2.2) (by with_reducible rfl) ?_
  rintro e w7 ⟨rfl,FE⟩
  exact ⟨rfl,rfl,rfl,FE⟩
theorem zhP {n:Nat} {S:RS} (hl:∀ p,S.used p=true->p<zaf n) (h:∃ r,r<zaf n/\S.used r=false):zaR S n 1:=by
 obtain ⟨r,h1,h2⟩:=h
 refine ⟨(List.range (zaf n)).filter S.used,λ q hq=>List.mem_filter.2 ⟨List.mem_range.2 (hl q hq),hq⟩,?_⟩
 have:((List.range (zaf n)).filter S.used).length<(List.range (zaf n)).length:=List.length_filter_lt_length_iff_exists.2 ⟨r,List.mem_range.2 h1,by simp [h2]⟩
 rw [List.length_range] at this
 omega
theorem zb1.rebase {w w':World} {G:Nat->Prop} {rb n m:Nat} {S:RS} (h:zb1 w w' G rb n m S) {P:List (Int × ByteArray)} (hp:P <+: S.base):zb1 w w' G rb n m ⟨S.root,S.used,S.cont,P⟩:=by
 obtain ⟨G',⟨puts,x1,x2,x3⟩,t⟩:=h
 exact ⟨G',⟨puts,x1,x2,⟨x3.r0,x3.rb,x3.bits,x3.lim,x3.page,hp.trans x3.base⟩⟩,t⟩
theorem ziO {S:RS} {place:Nat} {o:Option TT} {P:List (Int × ByteArray)} (h:zaY S place o):zaY ⟨S.root,S.used,S.cont,P⟩ place o:=by
 cases o with
 | none=>exact h
 | some T=>exact ⟨h.1,h.2.frame λ q _=>⟨rfl,rfl⟩⟩
theorem zsG (G:Nat->Prop) (tb rb place n m:Nat) (S:RS) (o:Option TT) (key val:ByteArray) (w:World) (h:RmS w G rb n m S) (ht:TB w tb rb place) (hg:¬G tb) (hp:place<16) (hm:m<=3900000) (hks:key.size<=96) (hvs:val.size<=56) (hS:zaY S place o) (hh:zeP o<=20) :
 Calls Tryz.prog 71 #[.pointer (some ⟨tb,0,none⟩),.string key,.string val] w λ e w'=>(e=.returned (.int .i64 0)/\Hid (zc5 w w' G rb n m place S o key val))\/(e=.returned (.int .i64 4)/\Hid (zb1 w w' G rb n m S)):=by
 obtain ⟨puts,hl,hrm,hr⟩:=h
 have hr2:Rep n puts ⟨S.root,S.used,S.cont,puts⟩:=⟨hr.r0,hr.rb,hr.bits,hr.lim,hr.page,List.prefix_refl _⟩
 have h2:RmS w G rb n m ⟨S.root,S.used,S.cont,puts⟩:=⟨puts,hl,hrm,hr2⟩
 cases o with
 | none =>
   by_cases hfr:∃ r,r<zaf n/\S.used r=false
   ·refine (zlZ G tb rb place n m S key val w ⟨puts,hl,hrm,hr⟩ ht hg hp hm hks hvs hS (zhP hr.lim hfr)).mono ?_
    rintro e w' ⟨rfl,hE⟩
    exact .inl ⟨rfl,hE⟩
   ·refine (zod G tb rb place n m w puts S ⟨S.root,S.used,S.cont,puts⟩ hr rfl hl hrm key val h2 ht hg hp hm hks hvs hS λ q hq=>?_).mono ?_
    ·show S.used q=true
     cases hu:S.used q with
     | true=>rfl
     | false=>exact absurd ⟨q,hq,hu⟩ hfr
    ·rintro e w' ⟨rfl,hE⟩
     exact .inr ⟨rfl,hE⟩
 | some T =>
   refine (zoc G tb rb place n m w puts S ⟨S.root,S.used,S.cont,puts⟩ hr rfl hl hrm T key val h2 ht hg hp hm hks hvs ⟨hS.1,hS.2.frame λ q _=>⟨rfl,rfl⟩⟩ hh).mono ?_
   rintro e w' (⟨rfl,hE⟩|⟨rfl,hE⟩)
   ·refine .inl ⟨rfl,?_⟩
    obtain ⟨S',o',a,⟨⟨b1,b2⟩,c⟩⟩:=hE.out
    have hb:S'.base=puts:=b2.base
    exact ⟨⟨S'.root,S'.used,S'.cont,S.base⟩,o',a.rebase (by rw [hb];exact hr.base),⟨⟨ziO b1,⟨b2.keep,b2.back,b2.root,rfl⟩⟩,c⟩⟩
   ·exact .inr ⟨rfl,hE⟩
theorem zoe (G:Nat->Prop) (tb rb place n m:Nat) (S:RS) (T:TT) (key val:ByteArray) (w:World) (h:RmS w G rb n m S) (ht:TB w tb rb place) (hg:¬G tb) (hp:place<16) (hm:m<=3900000) (hks:key.size<=96) (hvs:val.size<=56) (hS:zaY S place (some T)) (hh:T.h<=20) (hit:∃ v,(key,v)∈zbh (some T)/\v.size=val.size) :
 Calls Tryz.prog 71 #[.pointer (some ⟨tb,0,none⟩),.string key,.string val] w λ e w'=>e=.returned (.int .i64 0)/\Hid (zc5 w w' G rb n m place S (some T) key val):=by
 have hmf:∀ (fn:Fn) (first cap:Array Value) (w:World),(Instr.makeFunc fn first cap).run Tryz.prog w=.ok (.func fn first cap) w:=λ _ _ _ _=>rfl
 obtain ⟨hh0,p,t⟩:=T
 obtain ⟨hr,hT⟩:=hS
 have hp65:p<65536:=by
  have:=h.lim p hT.on.top.1
  have:=h.bounds
  unfold zaf at *;omega
 have htl:=zab ht
 obtain ⟨c0,c1⟩:=ht.cells
 have hb3:=λ k=>zbc w tb k
 have d0:(((w.alloc (.cells #[.pointer (some ⟨tb,0,none⟩)] 103)).alloc (.cells #[.int .i64 0] 34)).alloc (.cells #[.int .i64 0] 3)).cell? ⟨tb,0,none⟩=some (.pointer (some ⟨rb,0,none⟩)):=(zCb ((hb3 0).block tb htl)).trans c0
 have M3:Hid (Calls Tryz.prog 114 #[.pointer (some ⟨rb,0,none⟩)] (((w.alloc (.cells #[.pointer (some ⟨tb,0,none⟩)] 103)).alloc (.cells #[.int .i64 0] 34)).alloc (.cells #[.int .i64 0] 3)) λ e w'=>∃ k:Nat,e=.returned (.int .i64 (k:Int))/\w'=(((w.alloc (.cells #[.pointer (some ⟨tb,0,none⟩)] 103)).alloc (.cells #[.int .i64 0] 34)).alloc (.cells #[.int .i64 0] 3))):=Hd (zhD G rb n m S _ (h.below (hb3 0)))
 have hk1:¬(96:Int)<(key.size:Int):=by omega
 have hk2:¬(56:Int)<(val.size:Int):=by omega
 have HG:=Hd h.lt
 have HKS:=Hd hks
 have HVS:=Hd hvs
 have HR:=Hd hr
 have HT:=Hd hT
 have HP65:=Hd hp65
 have HH:=Hd hh
 have B0:Hid (∀ k:Int,zak (zeB w tb k) (zeB w tb k) G G tb rb place n m S):=Hd λ k=>zak.start (h.below (hb3 k)) (ht.below (hb3 k)) hg
 have HP:=Hd hp
 have HM:=Hd hm
 clear h ht hg hp hm hks hvs hr hb3 c1 hT hp65 hh
 go_enter_defers Tryz.func71,Tryz.ntmps71
 go_wp2_with fail
 refine M3.out.mono ?_
 rintro e w1 ⟨k,rfl,rfl⟩
 clear M3 d0
 go_wp2_with fail
 have BW:=Hd (B0.out (k:Int))
 have LW:=Hd (zeo w tb (k:Int))
 have SW:=Hd (zdj w tb (k:Int))
 have BB:=Hd (zbc w tb (k:Int))
 change Calls Tryz.prog 125 #[.pointer (some ⟨tb,0,none⟩)] (zeB w tb (k:Int)) _
 generalize zeB w tb (k:Int)=W0 at *
 have RT:=zc3 G tb rb place n m S W0 BW.out.room BW.out.blk HP.out (by have:=HM.out;omega) (by have:=HP65.out;rw [HR.out];omega)
 rw [HR.out,show (((p+1:Nat):Int)-1)=(p:Int) by omega] at RT
 refine RT.mono ?_
 rintro e w2 ⟨rfl,hb⟩
 have B2:=Hd (BW.out.below hb.out)
 have L2:=Hd (LW.out.below hb.out)
 obtain ⟨x0,x1,x2,x3,x4⟩:=L2.out.cells
 have hgB:Hid (¬G w.heap.size/\¬G (w.heap.size+1)):=Hd ⟨λ e=>by have:=HG.out _ e;omega,λ e=>by have:=HG.out _ e;omega⟩
 have PT0:=Hd (zo9 hh0 G tb rb place n m S p t key val 0 w2 B2.out.room B2.out.blk B2.out.gt HT.out HKS.out HVS.out (by have:=HH.out;omega) hit (by have:=HM.out;have:hh0<=20:=HH.out;omega))
 rw [show ((0:Nat):Int)=0 from rfl] at PT0
 have hp0:¬(p:Int)<0:=by omega
 clear RT hb
 go_wp2_with fail
 refine PT0.out.mono ?_
 rintro e w3 ⟨kk,q,rfl,HPP⟩
 clear PT0 x0 x1 x2 x3 x4 hit
 obtain ⟨S3,hgo3,hif⟩:=HPP.out
 rw [if_neg (by simp)] at hif
 obtain ⟨rfl,rfl,t',K⟩:=hif
 obtain ⟨G3,b3,-⟩:=B2.out.step hgo3
 have L3:=zdk (w:=w) LW.out b3 hgB.out.1 hgB.out.2
 obtain ⟨x0,x1,x2,x3,x4⟩:=L3.cells
 have hfin:(w3.setCell ⟨w.heap.size+1,0,none⟩ (.int .i64 0)).cell? ⟨w.heap.size+1,0,none⟩=some (.int .i64 0):=zaa (zac L3.b1 _) rfl
 have hgo:=Hd (b3.fin BB.out HG.out (x:=w.heap.size+1) (by omega) (by have:=SW.out;omega) 0 (.int .i64 0))
 have HK:=Hd K
 clear b3 L3 HPP hgo3 K
 go_wp2_with fail
 refine leaves_cons (f:=124) (args:=#[.pointer (some ⟨w.heap.size+1,0,none⟩)]) (by simp) (by simp [go_sem]) ?_
 refine (zax _ _).mono ?_
 rintro e u' w5 ⟨rfl,rfl,rfl⟩
 refine leaves_cons (f:=123) (args:=#[.pointer (some ⟨w.heap.size+1,0,none⟩),.pointer (some ⟨w.heap.size,0,none⟩),.pointer (some ⟨w.heap.size+1+1,0,none⟩)]) (by simp [settle]) (by simp [go_sem]) ?_
 refine (zcC _ _ _ _ _ hfin).mono ?_
 rintro e u' w6 ⟨rfl,rfl,rfl⟩
 have HGO:Hid (zc5 w (w3.setCell ⟨w.heap.size+1,0,none⟩ (.int .i64 0)) G rb n m place S (some ⟨hh0,p,t⟩) key val):=Hd (by
  obtain ⟨G5,y1,y2⟩:=hgo.out
  exact ⟨_,_,⟨G5,y1.more (by have:hh0<=20:=HH.out;omega),y2⟩,zgL HK.out HR.out⟩)
 simp [Leaves,settle,results,Tryz.results71,go_sem,hfin]
 exact HGO
theorem zeT {n:Nat} {S:RS} (hl:∀ p,S.used p=true->p<zaf n):zaR S n 0:=by
 refine ⟨(List.range (zaf n)).filter S.used,λ q hq=>List.mem_filter.2 ⟨List.mem_range.2 (hl q hq),hq⟩,?_⟩
 have:=List.length_filter_le S.used (List.range (zaf n))
 rw [List.length_range] at this
 omega
section
variable (w1 w:World) (K:Nat->Prop) (tb rb place n m:Nat) (S:RS) (o:Option TT)
theorem zrY (key val:ByteArray) (h:RSt w1 w K rb n m S) (ht:TB w tb rb place) (hK:K tb) (ho:zaY S place o) (hit:∃ v,(key,v)∈zbh o/\v.size=val.size) (hp:place<16) (hm:m<=3900000) (hks:key.size<=96) (hvs:val.size<=56) (hh:zeP o<=20) :
 Calls Tryz.prog 71 #[.pointer (some ⟨tb,0,none⟩),.string key,.string val] w λ e w'=>e=.returned (.int .i64 0)/\Hid (∃ S' o',RSt w1 w' K rb n (m+100) S'/\zbX K w w'/\zhE place n S S' o o' key val):=by
 obtain ⟨G,a,b,d,e⟩:=h
 cases o with
 | none=>obtain ⟨v,hm,-⟩:=hit;cases hm
 | some T =>
   refine (zoe G tb rb place n m S T key val w a ht (d tb hK).2 hp hm hks hvs ho hh hit).mono ?_
   rintro e' w' ⟨rfl,hE⟩
   obtain ⟨S',o',hs,hg⟩:=hE.out
   exact ⟨rfl,Hd ⟨S',o',(RSt.of b d e hs).1,(RSt.of b d e hs).2,hg⟩⟩
theorem zpb (key val:ByteArray) (h:RSt w1 w K rb n m S) (ht:TB w tb rb place) (hK:K tb) (ho:zaY S place o) (hp:place<16) (hm:m<=3900000) (hks:key.size<=96) (hvs:val.size<=56) (hh:zeP o<=20) :
 Calls Tryz.prog 71 #[.pointer (some ⟨tb,0,none⟩),.string key,.string val] w λ e w'=>(e=.returned (.int .i64 0)/\Hid (∃ S' o',RSt w1 w' K rb n (m+100) S'/\zbX K w w'/\zhE place n S S' o o' key val))\/(e=.returned (.int .i64 4)/\Hid (RSt w1 w' K rb n m S/\zbX K w w')):=by
 obtain ⟨G,a,b,d,e⟩:=h
 refine (zsG G tb rb place n m S o key val w a ht (d tb hK).2 hp hm hks hvs ho hh).mono ?_
 rintro e' w' (⟨rfl,hE⟩|⟨rfl,hE⟩)
 ·obtain ⟨S',o',hs,hg⟩:=hE.out
  exact .inl ⟨rfl,Hd ⟨S',o',(RSt.of b d e hs).1,(RSt.of b d e hs).2,hg⟩⟩
 ·exact .inr ⟨rfl,Hd ⟨(RSt.of b d e hE.out).1,(RSt.of b d e hE.out).2⟩⟩
end
def pgB (s:ByteArray):ByteArray:=⟨#[0,0,0,0,0,UInt8.ofNat s.size]⟩++s
theorem zjP (s:ByteArray):(pgB s).size=6+s.size:=by
 unfold pgB;rw [ByteArray.size_append];rfl
theorem zrZ (x:UInt8):strOfNums [0,0,0,0,0,(x.toNat:Int)]=⟨#[0,0,0,0,0,x]⟩:=by
 apply ByteArray.ext
 simp [strOfNums]
theorem zof (x:UInt8) (g:Nat) (W:World) (h0:W.cell? ⟨g,0,none⟩=some (.int .u8 0)) (h1:W.cell? ⟨g,1,none⟩=some (.int .u8 0)) (h2:W.cell? ⟨g,2,none⟩=some (.int .u8 0)) (h3:W.cell? ⟨g,3,none⟩=some (.int .u8 0)) (h4:W.cell? ⟨g,4,none⟩=some (.int .u8 0)) (h5:W.cell? ⟨g,5,none⟩=some (.int .u8 (x.toNat:Int))) :
 (convert 91 9 (.slice (some ⟨g,0,none⟩) 6 6)).run Tryz.prog W=.ok (.string ⟨#[0,0,0,0,0,x]⟩) W:=by
 have:=run_convert_bytes_arg (P:=Tryz.prog) W 91 5 Tryz.underlying91 Tryz.underlying5 g 0 6 6 [0,0,0,0,0,(x.toNat:Int)] rfl (λ i hi=>by
  have:i=0\/i=1\/i=2\/i=3\/i=4\/i=5:=by omega
  rcases this with rfl|rfl|rfl|rfl|rfl|rfl
  ·exact h0
  ·exact h1
  ·exact h2
  ·exact h3
  ·exact h4
  ·exact h5) 9 Tryz.underlying9
 rwa [zrZ] at this
theorem zr0 (s:ByteArray) (w:World) (hs:s.size<=128) :
 Calls Tryz.prog 173 #[.int .i64 0,.string s] w λ e w'=>e=.returned (.string (pgB s))/\Hid (Below w.heap.size w w'):=by
 have u1:(UInt8.ofNat s.size).toNat=s.size:=by rw [UInt8.toNat_ofNat'];omega
 have hcv:=zof (UInt8.ofNat s.size) w.heap.size (w.alloc (.cells #[.int .u8 0,.int .u8 0,.int .u8 0,.int .u8 0,.int .u8 0,.int .u8 ((UInt8.ofNat s.size).toNat:Int)] 5)) (zaa (heap_alloc_new _ _) rfl) (zaa (heap_alloc_new _ _) rfl) (zaa (heap_alloc_new _ _) rfl) (zaa (heap_alloc_new _ _) rfl) (zaa (heap_alloc_new _ _) rfl) (zaa (heap_alloc_new _ _) rfl)
 rw [u1] at hcv
 have HB:Hid (∀ o:Obj,Below w.heap.size w (w.alloc o)):=Hd λ o=>(zBr w.heap.size w).alloc (zNr _) o
 have HE:Hid (pgB s=(⟨#[0,0,0,0,0,UInt8.ofNat s.size]⟩:ByteArray)++s):=Hd rfl
 have hz:(⟨#[0,0,0,0,0,UInt8.ofNat s.size]⟩:ByteArray).size=6:=rfl
 generalize (⟨#[0,0,0,0,0,UInt8.ofNat s.size]⟩:ByteArray)=hd at *
 have ha:(hd.size+s.size > 9223372036854775807)=False:=by simp;omega
 have ha2:(9223372036854775807<hd.size+s.size)=False:=ha
 have d1:(s.size:Int) / 256=0:=by omega
 have d2:(s.size:Int)%256=(s.size:Int):=by omega
 have b0:(0:Int)<=(s.size:Int):=by omega
 have b1:(s.size:Int)<=128:=by omega
 generalize pgB s=R at *
 clear u1 hz hs
 go_enter Tryz.func173,Tryz.ntmps173
 go_wp2_with fail
 go_ret
 exact ⟨by rw [HE.out];rfl,HB.out _⟩
theorem zr1 (s:ByteArray) (hs:s.size<=128):(∀ k,k<5->(pad (pgB s))[k]?=some 0)/\(pad (pgB s))[5]?=some (UInt8.ofNat s.size)/\(pad (pgB s)).extract 6 (6+s.size)=s/\(pad (pgB s)).size=512:=by
 have hl:(pad (pgB s)).data.toList=[0,0,0,0,0,UInt8.ofNat s.size]++(s.data.toList++List.replicate (512-(pgB s).size) 0):=by
  unfold pad pgB;simp
 have hsz:(pad (pgB s)).size=512:=zjp (by rw [zjP];omega)
 have hg:∀ k,(h:k<512)->(pad (pgB s))[k]?=(pad (pgB s)).data.toList[k]?:=λ k h=>by
  rw [getElem?_pos _ k (by rw [hsz];exact h),List.getElem?_eq_getElem (by rw [<-Lib.size_eq,hsz];exact h)]
  rfl
 refine ⟨λ k hk=>?_,?_,?_,hsz⟩
 ·rw [hg k (by omega),hl]
  have:k=0\/k=1\/k=2\/k=3\/k=4:=by omega
  rcases this with rfl|rfl|rfl|rfl|rfl <;> rfl
 ·rw [hg 5 (by omega),hl];rfl
 ·apply ByteArray.ext
  apply Array.ext'
  rw [ByteArray.data_extract,Array.toList_extract,List.extract,hl]
  rw [Lib.size_eq]
  simp
theorem zr2 (G:Nat->Prop) (rb n m:Nat) (S:RS) (p:Nat) (s:ByteArray) (w:World) (h:RmS w G rb n m S) (hm:m<=4000000) (hs:s.size<=128) (hu:S.used p=true) (hc:S.cont p=pad (pgB s)) :
 Calls Tryz.prog 168 #[.pointer (some ⟨rb,0,none⟩),.int .i64 (p:Int)] w λ e w'=>e=.returned (.tuple #[.int .i64 0,.string s,.int .i64 0])/\Hid (Below w.heap.size w w'):=by
 obtain ⟨puts,h1,h2,h3⟩:=h
 have RD:=zlz G rb n puts S p w h2 h3 (by omega) hu
 rw [hc] at RD
 obtain ⟨g0,g5,hex,hz⟩:=zr1 s hs
 generalize pad (pgB s)=z at *
 have i0:=λ W=>zaI (P:=Tryz.prog) 9 z 0 0 Tryz.underlying9 (g0 0 (by decide)) W
 have i1:=λ W=>zaI (P:=Tryz.prog) 9 z 1 0 Tryz.underlying9 (g0 1 (by decide)) W
 have i2:=λ W=>zaI (P:=Tryz.prog) 9 z 2 0 Tryz.underlying9 (g0 2 (by decide)) W
 have i3:=λ W=>zaI (P:=Tryz.prog) 9 z 3 0 Tryz.underlying9 (g0 3 (by decide)) W
 have i4:=λ W=>zaI (P:=Tryz.prog) 9 z 4 0 Tryz.underlying9 (g0 4 (by decide)) W
 have i5:=λ W=>zaI (P:=Tryz.prog) 9 z 5 _ Tryz.underlying9 g5 W
 rw [show (UInt8.ofNat s.size).toNat=s.size by rw [UInt8.toNat_ofNat'];omega] at i5
 simp only [show ((0:Nat):Int)=0 from rfl,show ((1:Nat):Int)=1 from rfl,show ((2:Nat):Int)=2 from rfl,show ((3:Nat):Int)=3 from rfl,show ((4:Nat):Int)=4 from rfl,show ((5:Nat):Int)=5 from rfl,show (0:UInt8).toNat=0 from rfl] at i0 i1 i2 i3 i4 i5
 have o0:bits .or .i64 0 0=0:=by decide
 have oo:∀ k:Fin 129,bits .or .i64 0 (k.val:Int)=(k.val:Int):=by decide +kernel
 have o1:bits .or .i64 0 (s.size:Int)=(s.size:Int):=oo ⟨s.size,by omega⟩
 have HEX:=Hd hex
 obtain ⟨k,hk⟩:=exE (s.size)
 rw [hk] at i5 o1 hex hs
 have b1:(k:Int)<=128:=by omega
 have t1:(6+(k:Int)).toNat=6+k:=by omega
 have l1:¬(506:Int)<(k:Int):=by omega
 clear h2 h3 hu hc g0 g5 hk oo
 go_enter Tryz.func168,Tryz.ntmps168
 go_wp2_with fail
 refine RD.mono ?_
 rintro e w1 ⟨rfl,hb⟩
 have HB:=Hd hb
 clear RD hb
 go_wp2_with fail
 go_quiet (fail)
 go_wp2_with fail
 go_quiet (fail)
 go_wp2_with fail
 go_quiet (fail)
 go_wp2_with fail
 go_ret3
 exact ⟨rfl,Hd (Below.drewN (Below.drewN HB.out _) _)⟩
theorem zqk {w:World} {base base' size n:Nat} {e:TypeId} {v:Value} {xs:List Value} (h:w.ownsRow base e size v n xs) (hb:base'<=base):w.ownsRow base' e size v n xs :=
 ⟨h.1,h.2.imp id (λ ⟨g,cap,cur,a,b,c⟩=>⟨g,cap,cur,a,Nat.le_trans hb b,c⟩)⟩
theorem zhQ {w w':World} {base n b:Nat} {v:Value} {xs:List Value} (h:w.ownsRow base 3 1 v n xs) (hk:Lib.OthersKept 5 (some b) w w') (hb:v.ownBlock≠some b):w'.ownsRow base 3 1 v n xs:=by
 refine ⟨h.1,?_⟩
 rcases h.2 with h0|⟨g,cap,cur,rfl,hbg,hg,rest⟩
 ·exact .inl h0
 ·exact .inr ⟨g,cap,cur,rfl,hbg,hk g _ hg (λ e=>hb e) (λ c fz e=>by cases e),rest⟩
theorem zmo {w w':World} (h:w'.heap[w.heap.size]?=some (.cells #[.pointer none,.slice none 0 0] 156 (0,0))):Bld w.heap.size w.heap.size [] w' :=
 .inl ⟨zNr _,_,h,World.ownsRowF_of (World.ownsRow_nil _ _ _ _),by simp [Value.ownBlock]⟩
theorem zog (B b:Nat) (l:List UInt8) (S:ByteArray) (w:World) (h:Bld B b l w) (hB:B<=w.heap.size) (hl:l.length+S.size<=100000000000) :
 Calls Tryz.prog 82 #[.pointer (some ⟨b,0,none⟩),.string S] w λ e w'=>e=.returned (.tuple #[.int .i64 S.size,.nilIface])/\Hid (Bld B b (l++S.data.toList) w'/\Below B w w'/\Lib.OthersKept 5 (some b) w w'):=by
 refine (Tryz.Builder_WriteString_k B b (Lib.byteCells l) S w h (by rw [zb0];omega) hB).mono ?_
 rintro e w' ⟨rfl,h1,h2,h3⟩
 refine ⟨rfl,Hd ⟨?_,h2,h3⟩⟩
 have:=Bld.of (l:=l++S.data.toList) (by simpa [Lib.byteCells,Lib.strCells] using h1)
 exact this
theorem zpc (G:Nat->Prop) (rb n m:Nat) (S:RS) (p:Nat) (s:ByteArray) (w:World) (h:RmS w G rb n m S) (hm:m<=4000000) (hs:s.size<=128) (hu:S.used p=true) (hc:S.cont p=pad (pgB s)) :
 Calls Tryz.prog 117 #[.pointer (some ⟨rb,0,none⟩),.int .i64 (p:Int)] w λ e w'=>∃ v,e=.returned (.tuple #[v,.string s,.int .i64 0])/\Hid (w'.ownsRow w.heap.size 3 1 v 1 [.int .i64 (p:Int)]/\Below w.heap.size w w'):=by
 obtain ⟨jI,hjI,hI0,hI1,hI2⟩:=info_parts zlo
 obtain ⟨w0,hw0⟩:=exE (w.alloc (.cells #[.pointer none,.slice none 0 0] 156))
 have hb0:Below w.heap.size w w0:=by rw [<-hw0];exact (zBr w.heap.size w).alloc (zNr _) _
 have hk0:w0.heap[w.heap.size]?=some (.cells #[.pointer none,.slice none 0 0] 156 (0,0)):=by rw [<-hw0];exact heap_alloc_new _ _
 have RD:=zr2 G rb n m S p s w0 (h.below hb0) hm hs hu hc
 have HB0:=Hd hb0
 have HK0:=Hd hk0
 have HS:=Hd hs
 have HL:Hid (([]:List Nat).length+1<=maxLen/\(([]:List Nat).length+1)*8<=140737488355328):=Hd (by unfold maxLen;decide)
 clear h hm hs hu hc hb0 hk0
 go_enter Tryz.func117,Tryz.ntmps117
 go_wp2_with fail
 clear hw0
 first
  | (refine wp_loop_rounds 1 ?_;rw [rounds_succ])
  | skip
 go_wp2_with fail
 refine RD.mono ?_
 rintro e w1 ⟨rfl,H1⟩
 have B1:=Hd (HB0.out.trans (H1.out.mono HB0.out.size))
 have K1:=Hd ((H1.out.block _ (zab HK0.out)).trans HK0.out)
 have HO6:=Hd ((World.ownsRow_nil w1 w1.heap.size 3 1).alloc (.cells #[.int .i64 (p:Int)] 3))
 have HS6:Hid (w1.heap.size<=(w1.alloc (.cells #[.int .i64 (p:Int)] 3)).heap.size):=Hd (by simp)
 clear RD H1
 go_wp2_with (
  (refine zeA 191 191 ⟨_,_,by with_reducible rfl⟩ ?_
   refine zag (by rfl) _ _ _ rfl w1.heap.size 3 jI _ 1 8 Tryz.underlying191 hjI hI0 hI1 hI2 rfl (by decide) _ _ _ (by rfl) HO6.out _ 1 _ (by rfl) (zai _ #[.int .i64 (p:Int)] _ 1 1) rfl (zkk _ rfl) HL.out.1 HL.out.2 HS6.out ?_
   intro v5 W5 ho5 hg5 ha5
   have R5:Hid (W5.ownsRow w1.heap.size 3 1 v5 1 [.int .i64 (p:Int)]):=Hd (by simpa using ho5)
   have B5:Hid (Below w1.heap.size w1 W5):=Hd (((zBr w1.heap.size w1).alloc (zNr _) _).grown hg5 HS6.out (λ k e=>(HO6.out.lt k e).1))
   clear ho5 hg5 ha5))
 have K5:=(B5.out.block _ (zab K1.out)).trans K1.out
 have hsz1:w.heap.size<=w1.heap.size:=B1.out.size
 have hsz5:w1.heap.size<=W5.heap.size:=B5.out.size
 have hne:v5.ownBlock≠some w.heap.size:=λ e=>by
  have h1:=(R5.out.lt _ e).1
  have h2:=zab K1.out
  omega
 have WS:=zog w.heap.size w.heap.size [] s W5 (zmo K5) (by omega) (by have:=HS.out;simp;omega)
 have HNE:=Hd hne
 have HZ:=Hd (And.intro hsz1 hsz5)
 clear K5 hsz1 hsz5 hne
 refine WS.mono ?_
 rintro e w6 ⟨rfl,H6⟩
 have ST:=Tryz.Builder_String_any_k w.heap.size w.heap.size ([]++s.data.toList) w6 H6.out.1 (by have:=H6.out.2.1.size;have:=HZ.out;omega)
 have eS:(⟨(([]++s.data.toList:List UInt8)).toArray⟩:ByteArray)=s:=by apply ByteArray.ext;simp
 rw [eS] at ST
 clear eS
 have R6:Hid (w6.ownsRow w1.heap.size 3 1 v5 1 [.int .i64 (p:Int)]):=Hd (zhQ R5.out H6.out.2.2 HNE.out)
 have B6:Hid (Below w.heap.size w w6):=Hd ((B1.out.trans (B5.out.mono B1.out.size)).trans H6.out.2.1)
 obtain ⟨va5,vc5,hv5⟩:∃ a c,v5=.slice a 1 c:=by
  rcases R6.out.2 with ⟨rfl,h0⟩|⟨g,cap,cur,rfl,-⟩
  ·cases h0
  ·exact ⟨_,_,rfl⟩
 subst hv5
 clear WS H6 R5 B5
 go_wp2_with fail
 refine ST.mono ?_
 rintro e w7 ⟨rfl,h71,h72,h73⟩
 have HE:Hid (w7.ownsRow w.heap.size 3 1 (.slice va5 1 vc5) 1 [.int .i64 (p:Int)]/\Below w.heap.size w w7):=Hd ⟨zqk (zhQ R6.out h73 HNE.out) HZ.out.1,B6.out.trans h72⟩
 clear ST h71 h72 h73
 go_wp2_with fail
 go_ret3
 exact ⟨_,rfl,HE⟩
theorem zsH (G:Nat->Prop) (rb n m:Nat) (S:RS) (p:Nat) (s:ByteArray) (w:World) (h:RmS w G rb n m S) (hm:m<=4000000) (hs:s.size<=128) (hu:S.used p=true) (hc:S.cont p=pad (pgB s)) :
 Calls Tryz.prog 66 #[.pointer (some ⟨rb,0,none⟩),.int .i64 (p:Int)] w λ e w'=>e=.returned (.tuple #[.string s,.int .i64 0])/\Hid (Below w.heap.size w w'):=by
 have WK:=zpc G rb n m S p s w h hm hs hu hc
 clear h hm hs hu hc
 go_enter Tryz.func66,Tryz.ntmps66
 go_wp2_with fail
 refine WK.mono ?_
 rintro e w1 ⟨v,rfl,H1⟩
 have HB:=Hd H1.out.2
 clear WK H1
 go_wp2_with fail
 go_ret2
 exact ⟨rfl,Hd HB.out⟩
def wrP (S:RS) (p:Nat) (s:ByteArray):RS:=⟨S.root,S.used,λ q=>if q=p then pad s else S.cont q,S.base⟩
theorem zql (G:Nat->Prop) (rb n m:Nat) (S:RS) (p:Nat) (s:ByteArray) (w:World) (h:RmS w G rb n m S) (hm:m<=3999000) (hs:s.size<=512) (hu:S.used p=true) :
 Calls Tryz.prog 172 #[.pointer (some ⟨rb,0,none⟩),.int .i64 (p:Int),.string s] w λ e w'=>e=.returned (.int .i64 0)/\Hid (zb1 w w' G rb n (m+1) (wrP S p s)):=by
 obtain ⟨puts,h1,h2,h3⟩:=h
 refine (zjq G rb n puts S p s w h2 h3 (by omega) hu hs).mono ?_
 rintro e w' ⟨rfl,hg⟩
 exact ⟨rfl,Hd (zb1.of_room hg.out h1)⟩
theorem zhR (n:Nat) (w:World) (h:n<=506):Calls Tryz.prog 171 #[.int .i64 (n:Int)] w λ e w'=>e=.returned (.int .i64 1)/\w=w':=by
 have h1:(n:Int)<=506:=by omega
 clear h
 go_enter Tryz.func171,Tryz.ntmps171
 go_wp2_with fail
 go_ret
 exact ⟨rfl,rfl⟩
def zga (S:RS) (p:Nat) (s:ByteArray):RS:=wrP (zaT S p) p (pgB s)
theorem zr3 (G:Nat->Prop) (rb n m:Nat) (S:RS) (s:ByteArray) (w:World) (h:RmS w G rb n m S) (hm:m<=3900000) (hs:s.size<=128) (hf:∃ q,q<zaf n/\S.used q=false) :
 Calls Tryz.prog 118 #[.pointer (some ⟨rb,0,none⟩),.string s] w λ e w'=>∃ p:Nat,e=.returned (.tuple #[.int .i64 (p:Int),.int .i64 0])/\Hid (p<zaf n/\S.used p=false/\zb1 w w' G rb n (m+3) (zga S p s)):=by
 obtain ⟨jI,hjI,hI0,hI1,hI2⟩:=info_parts zlo
 have PG:=zhR s.size w (by omega)
 have AL:=zlT G rb n m S w h (by omega) hf
 have HS:=Hd hs
 have HM:=Hd hm
 have HL:Hid (([]:List Nat).length+1<=maxLen/\(([]:List Nat).length+1)*8<=140737488355328):=Hd (by unfold maxLen;decide)
 have b1:(s.size:Int)<=128:=by omega
 have m1:min (s.size:Int) 506=(s.size:Int):=by omega
 have x1:s.extract 0 s.size=s:=by apply ByteArray.ext;simp
 clear h hm hs hf
 go_enter Tryz.func118,Tryz.ntmps118
 go_wp2_with fail
 refine PG.mono ?_
 rintro e w0 ⟨rfl,rfl⟩
 clear PG
 go_wp2_with fail
 refine wp_loop_rounds 2 ?_
 rw [rounds_succ]
 go_wp2_with fail
 refine AL.mono ?_
 rintro e w1 ⟨p,rfl,H1⟩
 have P1:=Hd (And.intro H1.out.1 H1.out.2.1)
 have G1:=Hd H1.out.2.2
 have HO6:=Hd ((World.ownsRow_nil w1 w1.heap.size 3 1).alloc (.cells #[.int .i64 (p:Int)] 3))
 have HS6:Hid (w1.heap.size<=(w1.alloc (.cells #[.int .i64 (p:Int)] 3)).heap.size):=Hd (by simp)
 clear AL H1
 go_wp2_with (
  (refine zeA 191 191 ⟨_,_,by with_reducible rfl⟩ ?_
   refine zag (by rfl) _ _ _ rfl w1.heap.size 3 jI _ 1 8 Tryz.underlying191 hjI hI0 hI1 hI2 rfl (by decide) _ _ _ (by rfl) HO6.out _ 1 _ (by rfl) (zai _ #[.int .i64 (p:Int)] _ 1 1) rfl (zkk _ rfl) HL.out.1 HL.out.2 HS6.out ?_
   intro v5 W5 ho5 hg5 ha5
   have R5:Hid (W5.ownsRow w1.heap.size 3 1 v5 1 [.int .i64 (p:Int)]):=Hd (by simpa using ho5)
   have B5:Hid (Below w1.heap.size w1 W5):=Hd (((zBr w1.heap.size w1).alloc (zNr _) _).grown hg5 HS6.out (λ k e=>(HO6.out.lt k e).1))
   clear ho5 hg5 ha5))
 obtain ⟨G',r1,t1⟩:=G1.out
 have HR1:=Hd r1
 have HT1:=Hd t1
 obtain ⟨g5,vc5,hv5,hg5,hcell⟩:∃ g c,v5=.slice (some ⟨g,0,none⟩) 1 c/\w1.heap.size<=g/\W5.cell? ⟨g,0,none⟩=some (.int .i64 (p:Int)):=by
  have hr:=R5.out
  rcases hr.2 with ⟨e,h0⟩|⟨g,cap,cur,e,hb,hg,-⟩
  ·cases h0
  ·subst e
   exact ⟨g,cap,rfl,hb,(hr.cellAt 0 (by simp)).trans rfl⟩
 subst hv5
 have PC:=zr0 s W5 HS.out
 have HG5:=Hd hg5
 have hgl:g5<W5.heap.size:=World.block_lt_of_cell? W5 _ hcell
 have HCELL:=Hd hcell
 have HGL:=Hd hgl
 clear G1 r1 t1 R5 hg5
 rw [rounds_succ]
 go_wp2_with fail
 refine wp_loop_rounds 2 ?_
 rw [rounds_succ]
 go_wp2_with fail
 refine PC.mono ?_
 rintro e w7 ⟨rfl,hb7⟩
 have B7:=Hd (B5.out.trans (hb7.out.mono B5.out.size))
 have C7:w7.cell? ⟨g5,0,none⟩=some (.int .i64 (p:Int)):=(hb7.out.cell (p:=⟨g5,0,none⟩) HGL.out).trans HCELL.out
 have hu:(zaT S p).used p=true:=by
  show zbn S.used p p=true
  unfold zbn;rw [if_pos rfl,P1.out.2];rfl
 have WR:=zql G' rb n (m+2) (zaT S p) p (pgB s) w7 (HR1.out.below B7.out) (by have:=HM.out;omega) (by rw [zjP];have:=HS.out;omega) hu
 have HC7:=Hd C7
 clear PC hb7 hcell hgl hu C7
 go_wp2_with fail
 refine WR.mono ?_
 rintro e w8 ⟨rfl,H8⟩
 have GO:Hid (zb1 w w8 G rb n (m+3) (zga S p s)):=Hd (by
  obtain ⟨G2,r2,t2⟩:=H8.out
  exact ⟨G2,r2,HT1.out.trans (t2.below_left B7.out)⟩)
 have c8:w8.cell? ⟨g5,0,none⟩=some (.int .i64 (p:Int)):=by
  have hb:=H8.out.upd
  have hn:¬G' g5:=λ e=>by have:=HR1.out.lt g5 e;have:=HG5.out;omega
  exact (zCb (hb.block g5 (World.block_lt_of_cell? w7 _ HC7.out) hn)).trans HC7.out
 clear WR H8
 go_wp2_with fail
 rw [rounds_succ]
 go_wp2_with fail
 go_ret2
 exact ⟨p,rfl,Hd ⟨P1.out.1,P1.out.2,GO.out⟩⟩
theorem zr4 (G:Nat->Prop) (rb n m:Nat) (S:RS) (s:ByteArray) (w:World) (h:RmS w G rb n m S) (hm:m<=3900000) (hs:s.size<=128) (hf:∃ q,q<zaf n/\S.used q=false) :
 Calls Tryz.prog 67 #[.pointer (some ⟨rb,0,none⟩),.string s] w λ e w'=>∃ p:Nat,e=.returned (.tuple #[.int .i64 (p:Int),.int .i64 0])/\Hid (p<zaf n/\S.used p=false/\zb1 w w' G rb n (m+3) (zga S p s)):=by
 have PT:=zr3 G rb n m S s w h hm hs hf
 have MK:∃ k:Nat,Calls Tryz.prog 114 #[.pointer (some ⟨rb,0,none⟩)] w λ e w'=>e=.returned (.int .i64 (k:Int))/\w=w':=by
  obtain ⟨puts,h1,h2,h3⟩:=h
  exact ⟨_,zdR G rb n puts w h2⟩
 obtain ⟨k,MK⟩:=MK
 have l1:¬(131072:Int)<(s.size:Int):=by omega
 clear h hm hs hf
 go_enter Tryz.func67,Tryz.ntmps67
 go_wp2_with fail
 refine MK.mono ?_
 rintro e w1 ⟨rfl,rfl⟩
 go_wp2_with fail
 refine PT.mono ?_
 rintro e w2 ⟨p,rfl,H2⟩
 clear PT MK
 go_wp2_with fail
 go_ret2
 exact ⟨p,rfl,H2⟩
def zbT (c:UInt8):Bool:=c == 110 || c == 104 || c == 98 || c == 116
def zbs:List UInt8->Bool
 | []=>true
 | [c]=>zbT c || c == 114
 | c::d::r=>zbT c && zbs (d::r)
theorem zcT {c:UInt8} {r:List UInt8} (h:r≠[]):zbs (c::r)=(zbT c && zbs r):=by
 cases r with
 | nil=>exact absurd rfl h
 | cons d r=>rfl
theorem ziP (m:List UInt8) (c:UInt8):zbs (m++[c])=(m.all zbT && (zbT c || c == 114)):=by
 induction m with
 | nil=>simp [zbs]
 | cons a m ih =>
   rw [List.cons_append,zcT (by simp),ih,List.all_cons,Bool.and_assoc]
theorem zgV {α:Type} (p:α->Bool) (l:List α):l.dropWhile p=[] ↔ ∀ x∈l,p x=true:=by
 induction l with
 | nil=>simp
 | cons a l ih =>
   by_cases h:p a=true
   ·simp [h,ih]
   ·simp [h]
theorem zmp (l cs:List UInt8):Lib.trimS l cs=[] ↔ ∀ x∈l,cs.contains x=true:=by
 unfold Lib.trimS Lib.trimLeftS Lib.trimRightS
 rw [zgV]
 constructor
 ·intro h x hx
  have h1:x∈l.reverse:=by simpa using hx
  rw [<-List.takeWhile_append_dropWhile (p:=(cs.contains ·)) (l:=l.reverse)] at h1
  rcases List.mem_append.1 h1 with h2|h2
  ·have h4:∀ (q:UInt8->Bool) (m:List UInt8),∀ y∈m.takeWhile q,q y=true:=by
    intro q m
    induction m with
    | nil=>simp
    | cons a m ih =>
      intro y hy
      rw [List.takeWhile_cons] at hy
      split at hy
      ·rcases List.mem_cons.1 hy with rfl|hy
       ·assumption
       ·exact ih y hy
      ·simp at hy
   exact h4 _ _ x h2
  ·exact h x (by simpa using h2)
 ·intro h x hx
  exact h x (by have:=List.dropWhile_sublist (cs.contains ·) (l:=l.reverse);exact List.mem_reverse.1 (this.subset (by simpa using hx)))
theorem zgW (x:UInt8):[(110:UInt8),104,98,116].contains x=zbT x:=by
 simp only [List.contains_cons,List.contains_nil,Bool.or_false,zbT,Bool.or_assoc]
theorem zkP (l:List UInt8):(Lib.trimS (Lib.trimSuffix l [114]) [110,104,98,116]=[]) ↔ zbs l=true:=by
 rw [zmp]
 simp only [zgW]
 have hall:∀ m:List UInt8,(∀ x∈m,zbT x=true) ↔ m.all zbT=true:=λ m=>by simp [List.all_eq_true]
 rw [hall]
 rcases List.eq_nil_or_concat l with rfl|⟨m,c,rfl⟩
 ·simp [Lib.trimSuffix,Lib.hasSuffix,zbs]
 ·simp only [List.concat_eq_append]
  rw [ziP]
  by_cases hc:c=114
  ·subst hc
   have h1:Lib.trimSuffix (m++[114]) [114]=m:=by
    simp [Lib.trimSuffix,Lib.hasSuffix,List.isSuffixOf]
   rw [h1];simp
  ·have h1:Lib.trimSuffix (m++[c]) [114]=m++[c]:=by
    simp [Lib.trimSuffix,Lib.hasSuffix,List.isSuffixOf,Ne.symm hc]
   rw [h1,List.all_append]
   simp [hc]
theorem ziQ (l:List UInt8):(Lib.trimS (Lib.trimSuffix l [114]) [110,104,98,116]).isEmpty=zbs l:=by
 rw [Bool.eq_iff_iff,List.isEmpty_iff];exact zkP l
end Go.Proofs.YtdcjhpafipbpkaaGreatDoor
