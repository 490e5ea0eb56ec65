/- Parts of the proof of ChunksFull,joined: FulC,FulD,ChkV,ChkW,RcpA,RcpR,RcpE,RcpF,RcpG,ChkT,Iter,TxtP,RcpB,RcpC,RcpD,RcpH,RcpI,RcpJ,RcpK,RcpL,RfsP,CrnP,ChrA,ChrB,RdR. No condition. -/
import Derived.Test.YtdcjhpafipbpkaaGreatDoorCf6
import Derived.Maps.RangeRun
import Derived.Laws.ResultCell
set_option maxRecDepth 100000
set_option maxHeartbeats 4000000
set_option linter.unusedSimpArgs false
set_option linter.unusedVariables false
set_option linter.unusedSectionVars false
namespace Go.Proofs.YtdcjhpafipbpkaaGreatDoor
open Go.RowKit
variable {bse:List (Int × ByteArray)}
theorem ChE.endB {P:List (Int × ByteArray)} {w1 w0 w w':World} {x:Nat} {er:Int} {K:Nat->Prop} {sb rb ti tl n N N' a a' nx nx':Nat} {C C':List Ck} {L L':List Lg} {X X':List (Nat × ByteArray)} (h:Chs bse w1 w0 w K sb rb ti tl n N a C L nx X) (E:ChE P w1 w x er w' K sb rb ti tl n N' a' C' L' nx' X') (hp:bse <+: P):Chs bse w1 w0 w' K sb rb ti tl n N' a' C' L' nx' X' :=
 (((E.st.mono (K':=K) λ k hk=>.inl hk).to E.kp).to h.kept).rebase hp
def zck (bse:List (Int × ByteArray)) (w1 w0 w:World) (K:Nat->Prop) (sb rb ti tl n N a:Nat) (C:List Ck) (L:List Lg) (nx:Nat) (X:List (Nat × ByteArray)) (p t:ByteArray) (id:ByteArray) (fresh:Bool) (er:Int):Prop :=
 (er=0/\zfd bse w1 w0 w K sb rb ti tl n N a C L nx X p t id fresh)\/(er=4/\N=999/\id=⟨#[]⟩/\fresh=false/\Chs bse w1 w0 w K sb rb ti tl n N a C L nx X)
section
variable (w1 w w0:World) (K:Nat->Prop) (sb rb ti tl n N a nx:Nat) (C:List Ck) (L:List Lg) (X:List (Nat × ByteArray))
theorem zsi (t:ByteArray) (h:Hid (Chs bse w1 w0 w K sb rb ti tl n N a C L nx X)) (hN:a+2<=N/\N<=1000) (ht1:1<=t.size) (ht2:t.size<=128) (hC:C.length<=250) (hX:∀ c∈C,(c.page,c.text)∈X) :
 Calls Tryz.prog 18 #[.pointer (some ⟨sb,0,none⟩),.string t] w λ e w'=>∃ id fresh er,e=.returned (.tuple #[.string id,.bool fresh,.int .i64 er])/\Hid (zck bse w1 w0 w' K sb rb ti tl n N a C L nx X (prB t) t id fresh er):=by
 obtain ⟨x,hx⟩:=exE (w.heap.size)
 obtain ⟨wb,hwb⟩:=exE (w.alloc (.cells #[.int .i64 0] 34))
 have HOK:=Hd h.out.ok.1
 have E00:Hid (ChE bse w1 w x 0 wb K sb rb ti tl n N a C L nx X):=Hd (by subst hx hwb;exact ChE.start h.out)
 obtain ⟨puts,hpre,hst,MK,BACK⟩:=E00.out.st.markB
 have E0:Hid (ChE puts w1 w x 0 wb K sb rb ti tl n N a C L nx X):=Hd ⟨hst,E00.out.kp,E00.out.bx,E00.out.lo,E00.out.ne,E00.out.nk⟩
 have BKF:Hid (∀ W a2 C2 L2 nx2 X2,ChE puts w1 w x 4 W K sb rb ti tl n N a2 C2 L2 nx2 X2->a2<=1000->Calls Tryz.prog 77 #[.pointer (some ⟨sb,0,none⟩),.int .i64 (puts.length:Int)] W λ e w'=>e=.returned (.tuple #[])/\Hid (w'.cell? ⟨x,0,none⟩=some (.int .i64 4)/\Chs bse w1 w0 w' K sb rb ti tl n N a C L nx X)):=Hd λ W a2 C2 L2 nx2 X2 h2 ha=>by
  refine (BACK.out W W _ N a2 nx2 C2 L2 X2 h2.st ha).mono ?_
  rintro e w' ⟨rfl,hE⟩
  exact ⟨rfl,Hd ⟨zaa ((hE.out.kept x (.inr rfl)).trans h2.bx) rfl,(((hE.out.mono (K':=K) λ k hk=>.inl hk).to h2.kp).to h.out.kept).rebase hpre⟩⟩
 have HPRE:=Hd hpre
 obtain ⟨pl,hpl⟩:∃ pl:Int,(puts.length:Int)=pl:=⟨_,rfl⟩
 rw [hpl] at MK BKF
 have F0:=zg4 ⟨#[]⟩ (Hd E0.out.st) ⟨by omega,hN.2⟩ (by decide) (zmt λ c hc e=>by have:=(HOK.out c hc).id;rw [e] at this;cases this)
 rw [show ck0=.agg #[.int .i64 0,.int .i64 0,.int .i64 0] from rfl] at F0
 have PR:=λ W=>zqe t W (by omega)
 obtain ⟨p,hp⟩:=exE (prB t)
 have hps:p.size=32:=by rw [<-hp];exact zgR t
 have HSZ:Hid (∀ k,(zas p k).size=33):=Hd λ k=>by rw [zgq,hps]
 rw [hp] at PR ⊢
 have NM:Hid (∀ W (k:Nat),k<256->Calls Tryz.prog 64 #[.string p,.int .i64 (k:Int)] W λ e w'=>e=.returned (.string (zas p k))/\Hid (Below W.heap.size W w')):=Hd λ W k hk=>zpj p k W (by omega) hk
 have FN:Hid (∀ W (s:ByteArray),s.size=33->cAt C s=none->Hid (ChE puts w1 w x 0 W K sb rb ti tl n N a C L nx X)->Calls Tryz.prog 62 #[.pointer (some ⟨sb,0,none⟩),.string s] W λ e w'=>e=.returned (.tuple #[.agg #[.int .i64 0,.int .i64 0,.int .i64 0],.bool false,.int .i64 0])/\Hid (ChE puts w1 w x 0 w' K sb rb ti tl n N a C L nx X)):=Hd λ W s hs hc hW=>by
  refine (zg4 s (Hd hW.out.st) ⟨by omega,hN.2⟩ (by omega) hc).mono ?_
  rintro e w' ⟨rfl,hE⟩
  exact ⟨rfl,Hd (hW.out.step hE.out)⟩
 have FY:Hid (∀ W (s:ByteArray) (c:Ck),s.size=33->cAt C s=some c->Hid (ChE puts w1 w x 0 W K sb rb ti tl n N a C L nx X)->Calls Tryz.prog 62 #[.pointer (some ⟨sb,0,none⟩),.string s] W λ e w'=>e=.returned (.tuple #[.agg #[.int .i64 (c.page:Int),.int .i64 (c.text.size:Int),.int .i64 c.cnt],.bool true,.int .i64 0])/\Hid (ChE puts w1 w x 0 w' K sb rb ti tl n N a C L nx X)):=Hd λ W s c hs hc hW=>by
  refine (zcW s c (Hd hW.out.st) ⟨by omega,hN.2⟩ (by omega) hc).mono ?_
  rintro e w' ⟨rfl,hE⟩
  exact ⟨rfl,Hd (hW.out.step hE.out)⟩
 have LS:Hid (∀ W (k:Nat),k<256->Hid (ChE puts w1 w x 0 W K sb rb ti tl n N a C L nx X)->Calls Tryz.prog 65 #[.pointer (some ⟨sb,0,none⟩),.string p,.int .i64 (k:Int)] W λ e w'=>∃ b:Bool,e=.returned (.tuple #[.bool b,.int .i64 0])/\(b=true ↔ NoC C (zas p k) (p++ffB))/\Hid (ChE puts w1 w x 0 w' K sb rb ti tl n N a C L nx X)):=Hd λ W k hk hW=>by
  refine (zsd w1 W W _ sb rb ti tl n N a nx C L X p k (by omega) hk (Hd hW.out.st) ⟨by omega,hN.2⟩ (by omega)).mono ?_
  rintro e w' ⟨b,rfl,hb,hE⟩
  exact ⟨b,rfl,hb,Hd (hW.out.step hE.out)⟩
 have BG:Hid (∀ W WA g (c:Ck),c∈C->Hid (ChE puts w1 WA x 0 W (λ k=>K k\/k=g) sb rb ti tl n N a C L nx X)->WA.cell? ⟨g,0,none⟩=some (.int .i64 (c.page:Int))->Calls Tryz.prog 66 #[.pointer (some ⟨rb,0,none⟩),.int .i64 (c.page:Int)] W λ e w'=>e=.returned (.tuple #[.string c.text,.int .i64 0])/\(w'.cell? ⟨sb,0,none⟩=some (.pointer (some ⟨rb,0,none⟩))/\w'.cell? ⟨g,0,none⟩=some (.int .i64 (c.page:Int)))/\Hid (ChE puts w1 WA x 0 w' (λ k=>K k\/k=g) sb rb ti tl n N a C L nx X)):=Hd λ W WA g c hc hW hg=>by
  refine (zjY w1 W W _ sb rb ti tl n N a nx C L X c.page c.text (hX c hc) (HOK.out c hc).t2 (Hd hW.out.st) ⟨by omega,hN.2⟩).mono ?_
  rintro e w' ⟨rfl,hE⟩
  have hs:=hW.out.step hE.out
  exact ⟨rfl,⟨hs.st.sbk.cells.1,(zCb (hs.kp g (.inr rfl))).trans hg⟩,Hd hs⟩
 have BP:Hid (∀ W,Hid (ChE puts w1 w x 0 W K sb rb ti tl n N a C L nx X)->Calls Tryz.prog 67 #[.pointer (some ⟨rb,0,none⟩),.string t] W λ e w'=>∃ (page:Nat) (er:Int),e=.returned (.tuple #[.int .i64 (page:Int),.int .i64 er])/\Hid ((er=0/\page<65536/\ChE puts w1 w x 0 w' K sb rb ti tl n N (a+1) C L nx ((page,t)::X))\/(er=4/\N=999/\ChE puts w1 w x 0 w' K sb rb ti tl n N a C L nx X))):=Hd λ W hW=>by
  refine (zmC t ht2 (Hd hW.out.st) ⟨by omega,hN.2⟩).mono ?_
  rintro e w' ⟨page,er,rfl,hE⟩
  refine ⟨page,er,rfl,Hd ?_⟩
  rcases hE.out with ⟨e1,e2,e3⟩|⟨e1,e2,e3⟩
  ·exact .inl ⟨e1,e2,hW.out.step e3⟩
  ·exact .inr ⟨e1,e2,hW.out.step e3⟩
 have KP:Hid (∀ W (page:Nat) (s:ByteArray),page<65536->s.size=33->Hid (ChE puts w1 w x 0 W K sb rb ti tl n N (a+1) C L nx ((page,t)::X))->Calls Tryz.prog 68 #[.pointer (some ⟨sb,0,none⟩),.string s,.agg #[.int .i64 (page:Int),.int .i64 (t.size:Int),.int .i64 0]] W λ e w'=>∃ er:Int,e=.returned (.int .i64 er)/\Hid ((er=0/\∃ C',zeC ⟨s,page,0,t⟩ C C'/\ChE puts w1 w x 0 w' K sb rb ti tl n N (a+2) C' L nx ((page,t)::X))\/(er=4/\N=999/\ChE puts w1 w x 0 w' K sb rb ti tl n N (a+1) C L nx ((page,t)::X)))):=Hd λ W page s hpg hs hW=>by
  refine (zsh ⟨s,page,0,t⟩ ⟨hs,hpg,ht1,ht2,by show (-1000000000:Int)<=0;decide,by show (0:Int)<=1000000000;decide⟩ (Hd hW.out.st) ⟨by omega,hN.2⟩).mono ?_
  rintro e w' ⟨er,rfl,hE⟩
  refine ⟨er,rfl,Hd ?_⟩
  rcases hE.out with ⟨e1,C',h1,h2⟩|⟨e1,e2,e3⟩
  ·exact .inl ⟨e1,C',h2,hW.out.step h1⟩
  ·exact .inr ⟨e1,e2,hW.out.step e3⟩
 have HN:=Hd hN
 have HH:=Hd h.out
 have k1:((t.size:Int)<1)=False:=by simp;omega
 have k2:((128:Int)<t.size)=False:=by simp;omega
 have HCL:Hid (C.length<256):=Hd (by omega)
 clear h hN ht1 ht2 hC hX hp hps hpre hst BACK hpl E00
 go_enter_defers Tryz.func18,Tryz.ntmps18
 go_wp2_with fail
 subst hx
 refine MK.mono ?_
 rintro e wm ⟨rfl,rfl⟩
 go_wp2_with fail
 refine F0.mono ?_
 rintro e w2 ⟨rfl,G2⟩
 have E2:=Hd (E0.out.step G2.out)
 have E3:Hid (∀ o,ChE puts w1 w w.heap.size 0 (w2.alloc o) K sb rb ti tl n N a C L nx X):=Hd λ o=>E2.out.below ((zBr _ _).alloc (zNr _) o)
 clear F0 MK G2
 go_wp2_with fail
 refine (PR _).mono ?_
 rintro e w3 ⟨rfl,hb3⟩
 have R0:Hid (zbN C p 0 (-1)/\zcp C p t 0/\ChE puts w1 w w.heap.size 0 w3 K sb rb ti tl n N a C L nx X):=Hd ⟨zbN.zero C p,zcp.zero C p t,(E3.out _).below hb3.out⟩
 clear E2 E3 hb3 PR k1 k2
 go_wp2_with fail
 go_loopg [11,12,13,14,15,16,17,18,43,55,59,94,98] 256 (λ g s11 s12 s13 s14 s15 s16 s17 s18 s43 s55 s59 s94 s98 wr=>∃ (i:Nat) (f:Int),g=256-i/\i<=256/\s43=.int .i64 (i:Int)/\s11=.int .i64 f/\Hid (zbN C p i f/\zcp C p t i/\ChE puts w1 w w.heap.size 0 wr K sb rb ti tl n N a C L nx X))
 case atStart=>exact ⟨0,-1,rfl,zNz _,rfl,rfl,R0⟩
 case round =>
  obtain ⟨i,f,rfl,hi,rfl,rfl,HR⟩:=hrel
  clear R0
  have HE:=Hd HR.out.2.2
  have HFA:=Hd (And.intro HR.out.1 HR.out.2.1)
  clear HR
  by_cases hlt:i<256
  ·have NMi:=NM.out wr i hlt
   have hsz:=HSZ.out i
   have LSi:Hid (∀ W,Hid (ChE puts w1 w w.heap.size 0 W K sb rb ti tl n N a C L nx X)->Calls Tryz.prog 65 #[.pointer (some ⟨sb,0,none⟩),.string p,.int .i64 (i:Int)] W λ e w'=>∃ b:Bool,e=.returned (.tuple #[.bool b,.int .i64 0])/\(b=true ↔ NoC C (zas p i) (p++ffB))/\Hid (ChE puts w1 w w.heap.size 0 w' K sb rb ti tl n N a C L nx X)):=Hd λ W hW=>LS.out W i hlt hW
   have HLT:=Hd hlt
   have hltI:(i:Int)<256:=by omega
   cases hf:cAt C (zas p i) with
   | none =>
     have FNi:=λ W=>FN.out W _ hsz hf
     have HF:=Hd hf
     clear hf hlt hi hsz
     go_wp2_with fail
     refine NMi.mono ?_
     rintro e w4 ⟨rfl,hb4⟩
     go_wp2_with fail
     refine (FNi _ (Hd (HE.out.below hb4.out))).mono ?_
     rintro e w5 ⟨rfl,HE5⟩
     have HE6:Hid (∀ o,ChE puts w1 w w.heap.size 0 (w5.alloc o) K sb rb ti tl n N a C L nx X):=Hd λ o=>HE5.out.below ((zBr _ _).alloc (zNr _) o)
     clear NMi FNi hb4
     by_cases hneg:f<0
     ·have HNG:=Hd hneg
      go_wp2_with fail
      refine (LSi.out _ (Hd (HE6.out _))).mono ?_
      rintro e w6 ⟨bb,rfl,hbb,HE7⟩
      clear HE5 HE6
      cases bb with
      | false =>
        clear hbb
        go_wp2_with fail
        go_roundg (256-(i+1))
        case measure=>have:=HLT.out;omega
        case rel=>exact ⟨i+1,_,rfl,HLT.out,by congr 1,rfl,Hd ⟨HFA.out.1.no HF.out HNG.out,HFA.out.2.no HF.out,HE7.out⟩⟩
      | true =>
        have HKF:Hid (i<256/\cAt C (zas p i)=none/\(∀ j,j<i->cAt C (zas p j)≠none)/\zcp C p t 256):=Hd (by
         obtain ⟨k',e1,e2,e3,e4⟩:=(HFA.out.1.no HF.out HNG.out).pos HLT.out (by omega)
         obtain rfl:k'=i:=by omega
         exact ⟨e2,e3,e4,HFA.out.2.all HLT.out (hbb.1 rfl)⟩)
        clear hbb
        have CF:=Hd (HE7.out.st.sbk.cells)
        have BPw:=BP.out _ HE7
        obtain ⟨s0,s1,s2⟩:=CF.out
        obtain ⟨cx,fx,lx⟩:=HE7.out.cell
        have lsb:sb<w6.heap.size:=zab HE7.out.st.sbk.1
        clear CF
        go_wp2_with fail
        refine BPw.mono ?_
        rintro e w5 ⟨page,er,rfl,HP5⟩
        clear BPw cx fx lx s0 s1 s2 lsb
        rcases HP5.out with ⟨rfl,h51,h52⟩|⟨rfl,h59,h52⟩
        ·have HPG:Hid (page<65536):=Hd h51
         have E5:=Hd h52
         clear HP5 h51 h52
         obtain ⟨cx,fx,lx⟩:=E5.out.cell
         have E6:=Hd (E5.out.set 0)
         obtain ⟨w6,hw6⟩:=exE (w5.setCell ⟨w.heap.size,0,none⟩ (.int .i64 0))
         rw [hw6] at E6
         have lx6:=E6.out.cell.1
         obtain ⟨s0,s1,s2⟩:=E6.out.st.sbk.cells
         have NM6:=NM.out w6 i HKF.out.1
         go_wp2_with fail
         refine NM6.mono ?_
         rintro e w7 ⟨rfl,hb7⟩
         have E7:=Hd (E6.out.below hb7.out)
         have KPw:=KP.out _ page (zas p i) HPG.out (HSZ.out _) E7
         clear NM6 hb7 lx6 s0 s1 s2 hw6
         obtain ⟨s0,s1,s2⟩:=E7.out.st.sbk.cells
         go_wp2_with fail
         refine KPw.mono ?_
         rintro e w8 ⟨er,rfl,HK8⟩
         clear KPw cx fx lx s0 s1 s2
         rcases HK8.out with ⟨rfl,C',hpc,hE8⟩|⟨rfl,h89,hE8⟩
         ·have E8:=Hd hE8
          have HPC:=Hd hpc
          clear HK8 hE8 hpc
          have NM8:=NM.out w8 i HKF.out.1
          go_wp2_with fail
          refine NM8.mono ?_
          rintro e w9 ⟨rfl,hb9⟩
          have E9:=Hd (E8.out.below hb9.out)
          clear NM8 hb9
          obtain ⟨cx,fx,lx⟩:=E9.out.cell
          have E10:=Hd (E9.out.set 0)
          have hfin:=E10.out.cell.1
          have HG:Hid (zck bse w1 w0 (w9.setCell ⟨w.heap.size,0,none⟩ (.int .i64 0)) K sb rb ti tl n N a C L nx X p t (zas p i) true 0):=Hd (.inl ⟨rfl,.inr ⟨rfl,i,page,C',HKF.out.1,rfl,HKF.out.2.1,HKF.out.2.2.1,HKF.out.2.2.2,HPC.out,ChE.endB HH.out E10.out HPRE.out⟩⟩)
          go_wp2_with fail
          refine leaves_cons (f:=60) (args:=#[.pointer (some ⟨sb,0,none⟩),.int .i64 pl,.pointer (some ⟨w.heap.size,0,none⟩)]) (by simp) (by simp [go_sem]) ?_
          refine (zev _ _ _ _ _ hfin).mono ?_
          rintro e u' wz ⟨rfl,rfl,rfl⟩
          simp [Leaves,settle,results,Tryz.results18,go_sem,hfin]
          exact ⟨_,_,⟨rfl,rfl⟩,HG⟩
         ·have E8:=Hd hE8
          have hN9:=Hd h89
          clear HK8 hE8 h89
          obtain ⟨cx,fx,lx⟩:=E8.out.cell
          have E6:=Hd (E8.out.set 4)
          have hfin:=E6.out.cell.1
          have B6:=BKF.out _ _ _ _ _ _ E6.out (by have:=HN.out;omega)
          go_wp2_with fail
          refine leaves_cons (f:=60) (args:=#[.pointer (some ⟨sb,0,none⟩),.int .i64 pl,.pointer (some ⟨w.heap.size,0,none⟩)]) (by simp) (by simp [go_sem]) ?_
          refine (zbb _ _ _ _ _ hfin (by decide) B6).mono ?_
          rintro e u' wz ⟨rfl,rfl,HQ⟩
          have hq:=HQ.out.1
          have HG:Hid (zck bse w1 w0 wz K sb rb ti tl n N a C L nx X p t ⟨#[]⟩ false 4):=Hd (.inr ⟨rfl,hN9.out,rfl,rfl,HQ.out.2⟩)
          simp [Leaves,settle,results,Tryz.results18,go_sem,hq]
          exact ⟨_,_,⟨rfl,rfl⟩,HG⟩
        ·have E5:=Hd h52
         have hN9:=Hd h59
         clear HP5 h52 h59
         obtain ⟨cx,fx,lx⟩:=E5.out.cell
         have E60:=Hd (E5.out.set 4)
         obtain ⟨w6,hw6⟩:=exE (w5.setCell ⟨w.heap.size,0,none⟩ (.int .i64 4))
         rw [hw6] at E60
         obtain ⟨cx6,fx6,lx6⟩:=E60.out.cell
         have E6:=Hd ((E60.out.set 4).below (zBr _ _).drew)
         have hfin:=E6.out.cell.1
         have B6:=BKF.out _ _ _ _ _ _ E6.out (by have:=HN.out;omega)
         go_wp2_with fail
         go_region
         go_wp2_with fail
         refine leaves_cons (f:=60) (args:=#[.pointer (some ⟨sb,0,none⟩),.int .i64 pl,.pointer (some ⟨w.heap.size,0,none⟩)]) (by simp) (by simp [go_sem]) ?_
         refine (zbb _ _ _ _ _ hfin (by decide) B6).mono ?_
         rintro e u' wz ⟨rfl,rfl,HQ⟩
         have hq:=HQ.out.1
         have HG:Hid (zck bse w1 w0 wz K sb rb ti tl n N a C L nx X p t ⟨#[]⟩ false 4):=Hd (.inr ⟨rfl,hN9.out,rfl,rfl,HQ.out.2⟩)
         simp [Leaves,settle,results,Tryz.results18,go_sem,hq]
         exact ⟨_,_,⟨rfl,rfl⟩,HG⟩
     ·have hpos:Hid (∃ kf:Nat,f=(kf:Int)/\kf<256/\cAt C (zas p kf)=none/\∀ j,j<kf->cAt C (zas p j)≠none):=Hd (HFA.out.1.pos (Nat.le_of_lt HLT.out) hneg)
      have HNG:=Hd hneg
      go_wp2_with fail
      refine (LSi.out _ (Hd (HE6.out _))).mono ?_
      rintro e w6 ⟨bb,rfl,hbb,HE7⟩
      clear HE5 HE6
      cases bb with
      | false =>
        clear hbb
        go_wp2_with fail
        go_roundg (256-(i+1))
        case measure=>have:=HLT.out;omega
        case rel=>exact ⟨i+1,_,rfl,HLT.out,by congr 1,rfl,Hd ⟨HFA.out.1.no' (by have:=HNG.out;omega),HFA.out.2.no HF.out,HE7.out⟩⟩
      | true =>
        obtain ⟨kf,hkf,q1,q2,q3⟩:=hpos.out
        have HKF:Hid (kf<256/\cAt C (zas p kf)=none/\(∀ j,j<kf->cAt C (zas p j)≠none)/\zcp C p t 256):=Hd ⟨q1,q2,q3,HFA.out.2.all HLT.out (hbb.1 rfl)⟩
        subst hkf
        clear hbb q1 q2 q3 hneg HFA HNG hpos
        have CF:=Hd (HE7.out.st.sbk.cells)
        have BPw:=BP.out _ HE7
        obtain ⟨s0,s1,s2⟩:=CF.out
        obtain ⟨cx,fx,lx⟩:=HE7.out.cell
        have lsb:sb<w6.heap.size:=zab HE7.out.st.sbk.1
        clear CF
        go_wp2_with fail
        refine BPw.mono ?_
        rintro e w5 ⟨page,er,rfl,HP5⟩
        clear BPw cx fx lx s0 s1 s2 lsb
        rcases HP5.out with ⟨rfl,h51,h52⟩|⟨rfl,h59,h52⟩
        ·have HPG:Hid (page<65536):=Hd h51
         have E5:=Hd h52
         clear HP5 h51 h52
         obtain ⟨cx,fx,lx⟩:=E5.out.cell
         have E6:=Hd (E5.out.set 0)
         obtain ⟨w6,hw6⟩:=exE (w5.setCell ⟨w.heap.size,0,none⟩ (.int .i64 0))
         rw [hw6] at E6
         have lx6:=E6.out.cell.1
         obtain ⟨s0,s1,s2⟩:=E6.out.st.sbk.cells
         have NM6:=NM.out w6 kf HKF.out.1
         go_wp2_with fail
         refine NM6.mono ?_
         rintro e w7 ⟨rfl,hb7⟩
         have E7:=Hd (E6.out.below hb7.out)
         have KPw:=KP.out _ page (zas p kf) HPG.out (HSZ.out _) E7
         clear NM6 hb7 lx6 s0 s1 s2 hw6
         obtain ⟨s0,s1,s2⟩:=E7.out.st.sbk.cells
         go_wp2_with fail
         refine KPw.mono ?_
         rintro e w8 ⟨er,rfl,HK8⟩
         clear KPw cx fx lx s0 s1 s2
         rcases HK8.out with ⟨rfl,C',hpc,hE8⟩|⟨rfl,h89,hE8⟩
         ·have E8:=Hd hE8
          have HPC:=Hd hpc
          clear HK8 hE8 hpc
          have NM8:=NM.out w8 kf HKF.out.1
          go_wp2_with fail
          refine NM8.mono ?_
          rintro e w9 ⟨rfl,hb9⟩
          have E9:=Hd (E8.out.below hb9.out)
          clear NM8 hb9
          obtain ⟨cx,fx,lx⟩:=E9.out.cell
          have E10:=Hd (E9.out.set 0)
          have hfin:=E10.out.cell.1
          have HG:Hid (zck bse w1 w0 (w9.setCell ⟨w.heap.size,0,none⟩ (.int .i64 0)) K sb rb ti tl n N a C L nx X p t (zas p kf) true 0):=Hd (.inl ⟨rfl,.inr ⟨rfl,kf,page,C',HKF.out.1,rfl,HKF.out.2.1,HKF.out.2.2.1,HKF.out.2.2.2,HPC.out,ChE.endB HH.out E10.out HPRE.out⟩⟩)
          go_wp2_with fail
          refine leaves_cons (f:=60) (args:=#[.pointer (some ⟨sb,0,none⟩),.int .i64 pl,.pointer (some ⟨w.heap.size,0,none⟩)]) (by simp) (by simp [go_sem]) ?_
          refine (zev _ _ _ _ _ hfin).mono ?_
          rintro e u' wz ⟨rfl,rfl,rfl⟩
          simp [Leaves,settle,results,Tryz.results18,go_sem,hfin]
          exact ⟨_,_,⟨rfl,rfl⟩,HG⟩
         ·have E8:=Hd hE8
          have hN9:=Hd h89
          clear HK8 hE8 h89
          obtain ⟨cx,fx,lx⟩:=E8.out.cell
          have E6:=Hd (E8.out.set 4)
          have hfin:=E6.out.cell.1
          have B6:=BKF.out _ _ _ _ _ _ E6.out (by have:=HN.out;omega)
          go_wp2_with fail
          refine leaves_cons (f:=60) (args:=#[.pointer (some ⟨sb,0,none⟩),.int .i64 pl,.pointer (some ⟨w.heap.size,0,none⟩)]) (by simp) (by simp [go_sem]) ?_
          refine (zbb _ _ _ _ _ hfin (by decide) B6).mono ?_
          rintro e u' wz ⟨rfl,rfl,HQ⟩
          have hq:=HQ.out.1
          have HG:Hid (zck bse w1 w0 wz K sb rb ti tl n N a C L nx X p t ⟨#[]⟩ false 4):=Hd (.inr ⟨rfl,hN9.out,rfl,rfl,HQ.out.2⟩)
          simp [Leaves,settle,results,Tryz.results18,go_sem,hq]
          exact ⟨_,_,⟨rfl,rfl⟩,HG⟩
        ·have E5:=Hd h52
         have hN9:=Hd h59
         clear HP5 h52 h59
         obtain ⟨cx,fx,lx⟩:=E5.out.cell
         have E60:=Hd (E5.out.set 4)
         obtain ⟨w6,hw6⟩:=exE (w5.setCell ⟨w.heap.size,0,none⟩ (.int .i64 4))
         rw [hw6] at E60
         obtain ⟨cx6,fx6,lx6⟩:=E60.out.cell
         have E6:=Hd ((E60.out.set 4).below (zBr _ _).drew)
         have hfin:=E6.out.cell.1
         have B6:=BKF.out _ _ _ _ _ _ E6.out (by have:=HN.out;omega)
         go_wp2_with fail
         go_region
         go_wp2_with fail
         refine leaves_cons (f:=60) (args:=#[.pointer (some ⟨sb,0,none⟩),.int .i64 pl,.pointer (some ⟨w.heap.size,0,none⟩)]) (by simp) (by simp [go_sem]) ?_
         refine (zbb _ _ _ _ _ hfin (by decide) B6).mono ?_
         rintro e u' wz ⟨rfl,rfl,HQ⟩
         have hq:=HQ.out.1
         have HG:Hid (zck bse w1 w0 wz K sb rb ti tl n N a C L nx X p t ⟨#[]⟩ false 4):=Hd (.inr ⟨rfl,hN9.out,rfl,rfl,HQ.out.2⟩)
         simp [Leaves,settle,results,Tryz.results18,go_sem,hq]
         exact ⟨_,_,⟨rfl,rfl⟩,HG⟩
   | some c =>
     have hcm:=(zaQ hf).1
     have FYi:=λ W=>FY.out W _ c hsz hf
     have HF:=Hd hf
     have BGi:Hid (∀ W WA g,Hid (ChE puts w1 WA w.heap.size 0 W (λ k=>K k\/k=g) sb rb ti tl n N a C L nx X)->WA.cell? ⟨g,0,none⟩=some (.int .i64 (c.page:Int))->Calls Tryz.prog 66 #[.pointer (some ⟨rb,0,none⟩),.int .i64 (c.page:Int)] W λ e w'=>e=.returned (.tuple #[.string c.text,.int .i64 0])/\(w'.cell? ⟨sb,0,none⟩=some (.pointer (some ⟨rb,0,none⟩))/\w'.cell? ⟨g,0,none⟩=some (.int .i64 (c.page:Int)))/\Hid (ChE puts w1 WA w.heap.size 0 w' (λ k=>K k\/k=g) sb rb ti tl n N a C L nx X)):=Hd λ W WA g h1 h2=>BG.out W WA g c hcm h1 h2
     clear hf hlt hi hsz hcm
     obtain ⟨tx,htx⟩:=exE (c.text)
     have HTX:=Hd htx
     rw [htx] at BGi FYi
     generalize c.page=z0 at *
     generalize c.cnt=z2 at *
     generalize (tx.size:Int)=z1 at *
     clear htx
     go_wp2_with fail
     refine NMi.mono ?_
     rintro e w4 ⟨rfl,hb4⟩
     go_wp2_with fail
     refine (FYi _ (Hd (HE.out.below hb4.out))).mono ?_
     rintro e w5 ⟨rfl,HE5⟩
     clear NMi FYi hb4
     have HE6:=Hd (HE5.out.new (.cells #[.int .i64 (z0:Int),.int .i64 z1,.int .i64 z2] 124))
     have HOLD:Hid (∀ W,ChE puts w1 (w5.alloc (.cells #[.int .i64 (z0:Int),.int .i64 z1,.int .i64 z2] 124)) w.heap.size 0 W (λ k=>K k\/k=w5.heap.size) sb rb ti tl n N a C L nx X->ChE puts w1 w w.heap.size 0 W K sb rb ti tl n N a C L nx X):=Hd λ W h9=>ChE.old HE5.out h9
     obtain ⟨w6,hw6⟩:=exE (w5.alloc (.cells #[.int .i64 (z0:Int),.int .i64 z1,.int .i64 z2] 124))
     have g0:w6.cell? ⟨w5.heap.size,0,none⟩=some (.int .i64 (z0:Int)):=by rw [<-hw6];exact zaa (heap_alloc_new _ _) rfl
     rw [hw6] at HE6 HOLD
     obtain ⟨s0,s1,s2⟩:=HE6.out.st.sbk.cells
     have lsb:sb<w6.heap.size:=zab HE6.out.st.sbk.1
     have HE7:Hid (ChE puts w1 w6 w.heap.size 0 w6.drew (λ k=>K k\/k=w5.heap.size) sb rb ti tl n N a C L nx X):=Hd (HE6.out.below (zBr _ _).drew)
     have HG0:=Hd g0
     clear HE5
     go_wp2_with fail
     go_region_held3 (λ w'=>w'.cell? ⟨sb,0,none⟩=some (.pointer (some ⟨rb,0,none⟩))/\w'.cell? ⟨w5.heap.size,0,none⟩=some (.int .i64 (z0:Int))) (go_keep) ((first
      | (go_at_call 66
         refine Calls.at_args (BGi.out _ _ _ HE7 HG0.out) (by with_reducible rfl) ?_
         rintro e w7 ⟨rfl,hk7,HE8⟩)))
     all_goals (
      have HE9:=Hd (HOLD.out _ HE8.out)
      clear HE6 HE7 HE8 HOLD s0 s1 s2 lsb g0 HG0 hk7 hw6 BGi
      by_cases he:tx=t
      ·have q:(tx.toList == t.toList)=true:=by rw [zj1];simp [he]
       have NM2:=NM.out w7 i HLT.out
       have HQ:=Hd he
       clear he
       go_wp2_with fail
       refine NM2.mono ?_
       rintro e w9 ⟨rfl,hb9⟩
       have E9:=Hd (HE9.out.below hb9.out)
       clear NM2 hb9
       obtain ⟨cx,fx,lx⟩:=E9.out.cell
       have E10:=Hd (E9.out.set 0)
       have hfin:=E10.out.cell.1
       have HG:Hid (zck bse w1 w0 (w9.setCell ⟨w.heap.size,0,none⟩ (.int .i64 0)) K sb rb ti tl n N a C L nx X p t (zas p i) false 0):=Hd (.inl ⟨rfl,.inl ⟨rfl,i,c,HLT.out,rfl,HF.out,HTX.out.trans HQ.out,HFA.out.2,ChE.endB HH.out E10.out HPRE.out⟩⟩)
       go_wp2_with fail
       refine leaves_cons (f:=60) (args:=#[.pointer (some ⟨sb,0,none⟩),.int .i64 pl,.pointer (some ⟨w.heap.size,0,none⟩)]) (by simp) (by simp [go_sem]) ?_
       refine (zev _ _ _ _ _ hfin).mono ?_
       rintro e u' wz ⟨rfl,rfl,rfl⟩
       simp [Leaves,settle,results,Tryz.results18,go_sem,hfin]
       exact ⟨_,_,⟨rfl,rfl⟩,HG⟩
      ·have q:(tx.toList == t.toList)=false:=by rw [zj1];simp [he]
       have HQ:=Hd he
       clear he
       go_wp2_with fail
       go_roundg (256-(i+1))
       case measure=>have:=HLT.out;omega
       case rel=>exact ⟨i+1,_,rfl,HLT.out,by congr 1,rfl,Hd ⟨HFA.out.1.yes HF.out,HFA.out.2.yes HF.out (λ e=>HQ.out (HTX.out.symm.trans e)),HE9.out⟩⟩)
  ·obtain rfl:i=256:=by omega
   obtain ⟨kf,hkf,q1,q2,q3⟩:=HFA.out.1.fin HCL.out
   have HKF:Hid (kf<256/\cAt C (zas p kf)=none/\(∀ j,j<kf->cAt C (zas p j)≠none)/\zcp C p t 256):=Hd ⟨q1,q2,q3,HFA.out.2⟩
   subst hkf
   clear q1 q2 q3 HFA hlt hi
   have CF:=Hd (HE.out.st.sbk.cells)
   have BPw:=BP.out _ HE
   obtain ⟨s0,s1,s2⟩:=CF.out
   obtain ⟨cx,fx,lx⟩:=HE.out.cell
   have lsb:sb<wr.heap.size:=zab HE.out.st.sbk.1
   clear CF
   go_wp2_with fail
   refine BPw.mono ?_
   rintro e w5 ⟨page,er,rfl,HP5⟩
   clear BPw cx fx lx s0 s1 s2 lsb
   rcases HP5.out with ⟨rfl,h51,h52⟩|⟨rfl,h59,h52⟩
   ·have HPG:Hid (page<65536):=Hd h51
    have E5:=Hd h52
    clear HP5 h51 h52
    obtain ⟨cx,fx,lx⟩:=E5.out.cell
    have E6:=Hd (E5.out.set 0)
    obtain ⟨w6,hw6⟩:=exE (w5.setCell ⟨w.heap.size,0,none⟩ (.int .i64 0))
    rw [hw6] at E6
    have lx6:=E6.out.cell.1
    obtain ⟨s0,s1,s2⟩:=E6.out.st.sbk.cells
    have NM6:=NM.out w6 kf HKF.out.1
    go_wp2_with fail
    refine NM6.mono ?_
    rintro e w7 ⟨rfl,hb7⟩
    have E7:=Hd (E6.out.below hb7.out)
    have KPw:=KP.out _ page (zas p kf) HPG.out (HSZ.out _) E7
    clear NM6 hb7 lx6 s0 s1 s2 hw6
    obtain ⟨s0,s1,s2⟩:=E7.out.st.sbk.cells
    go_wp2_with fail
    refine KPw.mono ?_
    rintro e w8 ⟨er,rfl,HK8⟩
    clear KPw cx fx lx s0 s1 s2
    rcases HK8.out with ⟨rfl,C',hpc,hE8⟩|⟨rfl,h89,hE8⟩
    ·have E8:=Hd hE8
     have HPC:=Hd hpc
     clear HK8 hE8 hpc
     have NM8:=NM.out w8 kf HKF.out.1
     go_wp2_with fail
     refine NM8.mono ?_
     rintro e w9 ⟨rfl,hb9⟩
     have E9:=Hd (E8.out.below hb9.out)
     clear NM8 hb9
     obtain ⟨cx,fx,lx⟩:=E9.out.cell
     have E10:=Hd (E9.out.set 0)
     have hfin:=E10.out.cell.1
     have HG:Hid (zck bse w1 w0 (w9.setCell ⟨w.heap.size,0,none⟩ (.int .i64 0)) K sb rb ti tl n N a C L nx X p t (zas p kf) true 0):=Hd (.inl ⟨rfl,.inr ⟨rfl,kf,page,C',HKF.out.1,rfl,HKF.out.2.1,HKF.out.2.2.1,HKF.out.2.2.2,HPC.out,ChE.endB HH.out E10.out HPRE.out⟩⟩)
     go_wp2_with fail
     refine leaves_cons (f:=60) (args:=#[.pointer (some ⟨sb,0,none⟩),.int .i64 pl,.pointer (some ⟨w.heap.size,0,none⟩)]) (by simp) (by simp [go_sem]) ?_
     refine (zev _ _ _ _ _ hfin).mono ?_
     rintro e u' wz ⟨rfl,rfl,rfl⟩
     simp [Leaves,settle,results,Tryz.results18,go_sem,hfin]
     exact ⟨_,_,⟨rfl,rfl⟩,HG⟩
    ·have E8:=Hd hE8
     have hN9:=Hd h89
     clear HK8 hE8 h89
     obtain ⟨cx,fx,lx⟩:=E8.out.cell
     have E6:=Hd (E8.out.set 4)
     have hfin:=E6.out.cell.1
     have B6:=BKF.out _ _ _ _ _ _ E6.out (by have:=HN.out;omega)
     go_wp2_with fail
     refine leaves_cons (f:=60) (args:=#[.pointer (some ⟨sb,0,none⟩),.int .i64 pl,.pointer (some ⟨w.heap.size,0,none⟩)]) (by simp) (by simp [go_sem]) ?_
     refine (zbb _ _ _ _ _ hfin (by decide) B6).mono ?_
     rintro e u' wz ⟨rfl,rfl,HQ⟩
     have hq:=HQ.out.1
     have HG:Hid (zck bse w1 w0 wz K sb rb ti tl n N a C L nx X p t ⟨#[]⟩ false 4):=Hd (.inr ⟨rfl,hN9.out,rfl,rfl,HQ.out.2⟩)
     simp [Leaves,settle,results,Tryz.results18,go_sem,hq]
     exact ⟨_,_,⟨rfl,rfl⟩,HG⟩
   ·have E5:=Hd h52
    have hN9:=Hd h59
    clear HP5 h52 h59
    obtain ⟨cx,fx,lx⟩:=E5.out.cell
    have E60:=Hd (E5.out.set 4)
    obtain ⟨w6,hw6⟩:=exE (w5.setCell ⟨w.heap.size,0,none⟩ (.int .i64 4))
    rw [hw6] at E60
    obtain ⟨cx6,fx6,lx6⟩:=E60.out.cell
    have E6:=Hd ((E60.out.set 4).below (zBr _ _).drew)
    have hfin:=E6.out.cell.1
    have B6:=BKF.out _ _ _ _ _ _ E6.out (by have:=HN.out;omega)
    go_wp2_with fail
    go_region
    go_wp2_with fail
    refine leaves_cons (f:=60) (args:=#[.pointer (some ⟨sb,0,none⟩),.int .i64 pl,.pointer (some ⟨w.heap.size,0,none⟩)]) (by simp) (by simp [go_sem]) ?_
    refine (zbb _ _ _ _ _ hfin (by decide) B6).mono ?_
    rintro e u' wz ⟨rfl,rfl,HQ⟩
    have hq:=HQ.out.1
    have HG:Hid (zck bse w1 w0 wz K sb rb ti tl n N a C L nx X p t ⟨#[]⟩ false 4):=Hd (.inr ⟨rfl,hN9.out,rfl,rfl,HQ.out.2⟩)
    simp [Leaves,settle,results,Tryz.results18,go_sem,hq]
    exact ⟨_,_,⟨rfl,rfl⟩,HG⟩
theorem zqG (t:ByteArray) (h:Hid (Chs bse w1 w0 w K sb rb ti tl n N a C L nx X)) (hN:a+2<=N/\N<=1000) (ht1:1<=t.size) (ht2:t.size<=128) (hC:C.length<=250) (hX:∀ c∈C,(c.page,c.text)∈X) (hW9:N≠999:=by first|assumption|decide) :
 Calls Tryz.prog 18 #[.pointer (some ⟨sb,0,none⟩),.string t] w λ e w'=>∃ id fresh,e=.returned (.tuple #[.string id,.bool fresh,.int .i64 0])/\Hid (zfd bse w1 w0 w' K sb rb ti tl n N a C L nx X (prB t) t id fresh):=by
 refine (zsi w1 w w0 K sb rb ti tl n N a nx C L X t h hN ht1 ht2 hC hX).mono ?_
 rintro e w' ⟨id,fresh,er,rfl,hE⟩
 rcases hE.out with ⟨rfl,h1⟩|⟨-,h1,-⟩
 ·exact ⟨id,fresh,rfl,Hd h1⟩
 ·exact absurd h1 hW9
end
variable {bse:List (Int × ByteArray)}
def zmH (bse:List (Int × ByteArray)) (w1 w0 w:World) (K:Nat->Prop) (sb rb ti tl n N a:Nat) (C:List Ck) (L L':List Lg) (nx:Nat) (X:List (Nat × ByteArray)) (er:Int):Prop :=
 (er=0/\Chs bse w1 w0 w K sb rb ti tl n N (a+1) C L' (nx+1) X)\/(er=4/\N=999/\Chs bse w1 w0 w K sb rb ti tl n N a C L nx X)
section
variable (w1 w w0:World) (K:Nat->Prop) (sb rb ti tl n N a nx:Nat) (C:List Ck) (L:List Lg) (X:List (Nat × ByteArray))
theorem zsj (id:ByteArray) (up:Bool) (c:Ck) (h:Hid (Chs bse w1 w0 w K sb rb ti tl n N a C L nx X)) (hN:a<N/\N<=1000) (hi:id.size=33) (hf:cAt C id=some c) :
 Calls Tryz.prog 19 #[.pointer (some ⟨sb,0,none⟩),.string id,.int .i64 (byI up)] w λ e w'=>∃ er,e=.returned (.int .i64 er)/\Hid (zmH bse w1 w0 w' K sb rb ti tl n N a C L (L++[⟨nx,up,id⟩]) nx X er):=by
 obtain ⟨x,hx⟩:=exE (w.heap.size)
 obtain ⟨wb,hwb⟩:=exE (w.alloc (.cells #[.int .i64 0] 34))
 have E00:Hid (ChE bse w1 w x 0 wb K sb rb ti tl n N a C L nx X):=Hd (by subst hx hwb;exact ChE.start h.out)
 obtain ⟨puts,hpre,hst,MK,BACK⟩:=E00.out.st.markB
 have E0:Hid (ChE puts w1 w x 0 wb K sb rb ti tl n N a C L nx X):=Hd ⟨hst,E00.out.kp,E00.out.bx,E00.out.lo,E00.out.ne,E00.out.nk⟩
 have BKF:Hid (∀ W,ChE puts w1 w x 4 W K sb rb ti tl n N a C L nx X->Calls Tryz.prog 77 #[.pointer (some ⟨sb,0,none⟩),.int .i64 (puts.length:Int)] W λ e w'=>e=.returned (.tuple #[])/\Hid (w'.cell? ⟨x,0,none⟩=some (.int .i64 4)/\Chs bse w1 w0 w' K sb rb ti tl n N a C L nx X)):=Hd λ W h2=>by
  refine (BACK.out W W _ N a nx C L X h2.st (by omega)).mono ?_
  rintro e w' ⟨rfl,hE⟩
  exact ⟨rfl,Hd ⟨zaa ((hE.out.kept x (.inr rfl)).trans h2.bx) rfl,(((hE.out.mono (K':=K) λ k hk=>.inl hk).to h2.kp).to h.out.kept).rebase hpre⟩⟩
 have HPRE:=Hd hpre
 obtain ⟨pl,hpl⟩:∃ pl:Int,(puts.length:Int)=pl:=⟨_,rfl⟩
 rw [hpl] at MK BKF
 have FY:=zcW id c (Hd E0.out.st) ⟨by omega,hN.2⟩ (by omega) hf
 rw [show c.v=.agg #[.int .i64 (c.page:Int),.int .i64 (c.text.size:Int),.int .i64 c.cnt] from rfl] at FY
 have hnx:=h.out.ok.2.2.2
 have RT:Hid (∀ W,Hid (ChE puts w1 w x 0 W K sb rb ti tl n N a C L nx X)->Calls Tryz.prog 69 #[.pointer (some ⟨rb,0,none⟩),.int .i64 2] W λ e w'=>e=.returned (.tuple #[.int .u64 (nx:Int),.int .i64 0])/\Hid (ChE puts w1 w x 0 w' K sb rb ti tl n N a C L nx X)):=Hd λ W hW=>by
  refine (zsM w1 W W _ sb rb ti tl n N a nx C L X (Hd hW.out.st) ⟨by omega,hN.2⟩).mono ?_
  rintro e w' ⟨rfl,hE⟩
  exact ⟨rfl,Hd (hW.out.step hE.out)⟩
 have WN:Hid (∀ W g,Hid (ChE puts w1 w x 0 W K sb rb ti tl n N a C L nx X)->W.heap[g]?=some (.cells #[.int .u64 (nx:Int),.string ⟨#[]⟩] 139 (0,0))->Calls Tryz.prog 70 #[.string ⟨#[110]⟩,.slice (some ⟨g,0,none⟩) 1 1] W λ e w'=>e=.returned (.tuple #[.string (zbY nx),.bool true])/\Hid (ChE puts w1 w x 0 w' K sb rb ti tl n N a C L nx X)):=Hd λ W g hW hg=>by
  refine (zqC nx (by omega) W g hg).mono ?_
  rintro e w' ⟨rfl,hE⟩
  exact ⟨rfl,Hd (hW.out.below hE.out)⟩
 have HOK:Lg.Ok ⟨nx,up,id⟩:=⟨by show nx<_;omega,hi⟩
 have WL:Hid (∀ W g,Hid (ChE puts w1 w x 0 W K sb rb ti tl n N a C L nx X)->W.heap[g]?=some (.cells #[.int .u64 (sgB up:Int),.string ⟨#[]⟩,.int .u64 0,.string id] 139 (0,0))->Calls Tryz.prog 70 #[.string ⟨#[98,114]⟩,.slice (some ⟨g,0,none⟩) 2 2] W λ e w'=>e=.returned (.tuple #[.string (Lg.val ⟨nx,up,id⟩),.bool true])/\Hid (ChE puts w1 w x 0 w' K sb rb ti tl n N a C L nx X)):=Hd λ W g hW hg=>by
  refine (zqD ⟨nx,up,id⟩ HOK W g hg).mono ?_
  rintro e w' ⟨rfl,hE⟩
  exact ⟨rfl,Hd (hW.out.below hE.out)⟩
 have LP:Hid (∀ W,Hid (ChE puts w1 w x 0 W K sb rb ti tl n N a C L nx X)->Calls Tryz.prog 71 #[.pointer (some ⟨tl,0,none⟩),.string (zbY nx),.string (Lg.val ⟨nx,up,id⟩)] W λ e w'=>∃ er:Int,e=.returned (.int .i64 er)/\Hid ((er=0/\zqA puts w1 W w' (λ k=>K k\/k=x) sb rb ti tl n N a C (L++[⟨nx,up,id⟩]) nx X)\/(er=4/\N=999/\ChE puts w1 w x 0 w' K sb rb ti tl n N a C L nx X))):=Hd λ W hW=>by
  refine (zoq ⟨nx,up,id⟩ HOK rfl (Hd hW.out.st) hN).mono ?_
  rintro e w' ⟨er,rfl,hE⟩
  refine ⟨er,rfl,Hd ?_⟩
  rcases hE.out with ⟨e1,e2⟩|⟨e1,e2,e3⟩
  ·exact .inl ⟨e1,e2⟩
  ·exact .inr ⟨e1,e2,hW.out.step e3⟩
 have SR:Hid (∀ W0 W,Hid (ChE puts w1 w x 0 W0 K sb rb ti tl n N a C L nx X)->Hid (zqA puts w1 W0 W (λ k=>K k\/k=x) sb rb ti tl n N a C (L++[⟨nx,up,id⟩]) nx X)->Calls Tryz.prog 72 #[.pointer (some ⟨rb,0,none⟩),.int .i64 2,.int .u64 ((nx:Int)+1)] W λ e w'=>e=.returned (.int .i64 0)/\Hid (ChE puts w1 w x 0 w' K sb rb ti tl n N (a+1) C (L++[⟨nx,up,id⟩]) (nx+1) X)):=Hd λ W0 W h0 hW=>by
  refine (zmA w1 W W0 _ sb rb ti tl n N a nx C _ X hW hN).mono ?_
  rintro e w' ⟨rfl,hE⟩
  exact ⟨rfl,Hd (h0.out.step hE.out)⟩
 have kn:IntKind.u64.wrap ((nx:Int)+1)=(nx:Int)+1:=by
  have:=zcs (v:=nx+1) (by omega)
  simpa using this
 have HBA:Hid (∀ (W:World) (o:Obj),Below W.heap.size W (W.alloc o)):=Hd λ W o=>(zBr _ _).alloc (zNr _) o
 generalize c.page=z0 at *
 generalize (c.text.size:Int)=z1 at *
 generalize c.cnt=z2 at *
 generalize hvl:Lg.val ⟨nx,up,id⟩=vl at *
 generalize L++[⟨nx,up,id⟩]=L' at *
 generalize zbY nx=ky at *
 have HH:=Hd h.out
 clear h hN hi hf HOK hvl hnx hpre hst BACK hpl E00
 cases up
 all_goals (
  first
   | rw [show byI true=1 from rfl]
   | rw [show byI false=-1 from rfl]
  first
   | rw [show ((sgB true:Nat):Int)=1 from rfl] at WL
   | rw [show ((sgB false:Nat):Int)=0 from rfl] at WL
  go_enter_defers Tryz.func19,Tryz.ntmps19
  go_wp2_with fail
  subst hx
  refine MK.mono ?_
  rintro e wm ⟨rfl,rfl⟩
  go_wp2_with fail
  refine FY.mono ?_
  rintro e w2 ⟨rfl,G2⟩
  have E2:=Hd (E0.out.step G2.out)
  obtain ⟨cx,fx,lx⟩:=E2.out.cell
  obtain ⟨s0,s1,s2⟩:=E2.out.st.sbk.cells
  have lsb:sb<w2.heap.size:=zab E2.out.st.sbk.1
  have nsb:sb≠w.heap.size:=E2.out.ne.1.symm
  clear FY MK G2
  go_wp2_with fail
  refine (RT.out _ (Hd ((E2.out.set 0).below (HBA.out _ _)))).mono ?_
  rintro e w3 ⟨rfl,E3⟩
  clear RT cx fx lx s0 s1 s2 lsb
  obtain ⟨cx,fx,lx⟩:=E3.out.cell
  obtain ⟨s0,s1,s2⟩:=E3.out.st.sbk.cells
  have lsb:sb<w3.heap.size:=zab E3.out.st.sbk.1
  go_wp2_with fail
  refine (WN.out _ _ (Hd ((E3.out.set 0).below (HBA.out _ _))) (zg5 _ _ _ _ _)).mono ?_
  rintro e w4 ⟨rfl,E4⟩
  clear WN cx fx lx s0 s1 s2 lsb
  obtain ⟨cx,fx,lx⟩:=E4.out.cell
  obtain ⟨s0,s1,s2⟩:=E4.out.st.sbk.cells
  go_wp2_with fail
  refine (WL.out _ _ (Hd (E4.out.below (HBA.out _ _))) (heap_alloc_new _ _)).mono ?_
  rintro e w5 ⟨rfl,E5⟩
  clear WL cx fx lx s0 s1 s2
  obtain ⟨cx,fx,lx⟩:=E5.out.cell
  obtain ⟨s0,s1,s2⟩:=E5.out.st.sbk.cells
  go_wp2_with fail
  refine (LP.out _ E5).mono ?_
  rintro e w6 ⟨er,rfl,M6⟩
  clear LP cx fx lx s0 s1 s2
  rcases M6.out with ⟨rfl,m6⟩|⟨rfl,m9,m6⟩
  ·have MM:=Hd m6
   obtain ⟨s0,s1,s2⟩:=MM.out.sbk.cells
   go_wp2_with fail
   refine (SR.out _ _ E5 MM).mono ?_
   rintro e w7 ⟨rfl,E7⟩
   clear SR s0 s1 s2
   obtain ⟨cx,fx,lx⟩:=E7.out.cell
   have E8:=Hd (E7.out.set 0)
   have hfin:=E8.out.cell.1
   go_wp2_with fail
   refine leaves_cons (f:=60) (args:=#[.pointer (some ⟨sb,0,none⟩),.int .i64 pl,.pointer (some ⟨w.heap.size,0,none⟩)]) (by simp) (by simp [go_sem]) ?_
   refine (zev _ _ _ _ _ hfin).mono ?_
   rintro e u' w9 ⟨rfl,rfl,rfl⟩
   have HGO:Hid (zmH bse w1 w0 (w7.setCell ⟨w.heap.size,0,none⟩ (.int .i64 0)) K sb rb ti tl n N a C L L' nx X 0):=Hd (.inl ⟨rfl,ChE.endB HH.out E8.out HPRE.out⟩)
   simp [Leaves,settle,results,Tryz.results19,go_sem,hfin]
   exact HGO
  ·have E6:=Hd m6
   have hN9:=Hd m9
   clear m9
   obtain ⟨cx,fx,lx⟩:=E6.out.cell
   have E7:=Hd (E6.out.set 4)
   have hfin:=E7.out.cell.1
   have B7:=BKF.out _ E7.out
   go_wp2_with fail
   refine leaves_cons (f:=60) (args:=#[.pointer (some ⟨sb,0,none⟩),.int .i64 pl,.pointer (some ⟨w.heap.size,0,none⟩)]) (by simp) (by simp [go_sem]) ?_
   refine (zbb _ _ _ _ _ hfin (by decide) B7).mono ?_
   rintro e u' wz ⟨rfl,rfl,HQ⟩
   have hq:=HQ.out.1
   have HGO:Hid (zmH bse w1 w0 wz K sb rb ti tl n N a C L L' nx X 4):=Hd (.inr ⟨rfl,hN9.out,HQ.out.2⟩)
   simp [Leaves,settle,results,Tryz.results19,go_sem,hq]
   exact HGO)
theorem zmI (id:ByteArray) (up:Bool) (c:Ck) (h:Hid (Chs bse w1 w0 w K sb rb ti tl n N a C L nx X)) (hN:a<N/\N<=1000) (hi:id.size=33) (hf:cAt C id=some c) (hW9:N≠999:=by first|assumption|decide) :
 Calls Tryz.prog 19 #[.pointer (some ⟨sb,0,none⟩),.string id,.int .i64 (byI up)] w λ e w'=>e=.returned (.int .i64 0)/\Hid (Chs bse w1 w0 w' K sb rb ti tl n N (a+1) C (L++[⟨nx,up,id⟩]) (nx+1) X):=by
 refine (zsj w1 w w0 K sb rb ti tl n N a nx C L X id up c h hN hi hf).mono ?_
 rintro e w' ⟨er,rfl,hE⟩
 rcases hE.out with ⟨rfl,h1⟩|⟨-,h1,-⟩
 ·exact ⟨rfl,Hd h1⟩
 ·exact absurd h1 hW9
end
variable {bse:List (Int × ByteArray)}
theorem zeC.nil {c:Ck} {C':List Ck} (h:zeC c [] C'):C'=[c]:=by
 obtain ⟨A,B,rfl,h',-,-⟩:=h
 rcases h' with h'|⟨c0,-,h'⟩
 ·have:=List.append_eq_nil_iff.1 h'.symm
  rw [this.1,this.2];rfl
 ·simp at h'
theorem zeC.same {c c0:Ck} {C':List Ck} (h:zeC c [c0] C') (e:c0.id=c.id):C'=[c]:=by
 obtain ⟨A,B,rfl,h',hA,hB⟩:=h
 rcases h' with h'|⟨c1,-,h'⟩
 ·exfalso
  have hm:c0∈A++B:=by rw [<-h'];simp
  rcases List.mem_append.1 hm with hm|hm
  ·exact zaW (hA c0 hm) e
  ·exact zaW (hB c0 hm) e.symm
 ·cases A with
  | nil =>
    rw [List.nil_append] at h'
    have:=(List.cons.inj h').2
    subst this;rfl
  | cons x A =>
    rw [List.cons_append] at h'
    have:=(List.cons.inj h').2
    simp at this
theorem zg7 {c:Ck}:cAt [c] c.id=some c:=by simp [cAt]
theorem zfe {c d:Ck} {s:ByteArray} (h:cAt [c] s=some d):d=c/\c.id=s:=by
 obtain ⟨h1,h2⟩:=zaQ h
 simp at h1
 subst h1
 exact ⟨rfl,h2⟩
theorem Mg.one {c:Ck} {T:List Lg} {C':List Ck} (h:Mg [c] T C') (hT:∀ e∈T,e.id=c.id):C'=[c.add (zfc T c.id)]:=by
 induction h with
 | nil=>simp [zfc,Ck.add]
 | @snoc T C1 C2 e h1 h2 ih =>
   have e1:=ih λ x hx=>hT x (by simp [hx])
   have e2:=hT e (by simp)
   subst e1
   rcases h2 with ⟨h3,-⟩|⟨d,h3,h4⟩
   ·exact absurd e2.symm (zdA h3 (c.add (zfc T c.id)) (by simp))
   ·obtain ⟨rfl,h5⟩:=zfe h3
    have:=h4.same rfl
    rw [this,zh5,if_pos e2]
    simp only [Ck.add,List.cons.injEq,Ck.mk.injEq,and_true,true_and]
    omega
section
variable {w1 w0 w:World} {K:Nat->Prop} {sb rb ti tl n N a nx:Nat} {C:List Ck} {L:List Lg} {X:List (Nat × ByteArray)} {p t id:ByteArray} {fresh:Bool}
theorem zfd.empty (h:zfd bse w1 w0 w K sb rb ti tl n N a [] L nx X p t id fresh):fresh=true/\id=zas p 0/\∃ page,Chs bse w1 w0 w K sb rb ti tl n N (a+2) [⟨id,page,0,t⟩] L nx ((page,t)::X):=by
 rcases h with ⟨-,k,c,-,-,h,-⟩|⟨h1,k,page,C',-,h2,-,h3,-,h4,h5⟩
 ·simp [cAt] at h
 ·have hk:k=0:=by
   rcases Nat.eq_zero_or_pos k with h|h
   ·exact h
   ·exact absurd rfl (h3 0 h)
  subst hk
  rw [h4.nil] at h5
  exact ⟨h1,h2,page,h5⟩
theorem zfd.one {c:Ck} (h:zfd bse w1 w0 w K sb rb ti tl n N a [c] L nx X p t id fresh) (hi:c.id=zas p 0) (ht:c.text=t):fresh=false/\id=c.id/\Chs bse w1 w0 w K sb rb ti tl n N a [c] L nx X:=by
 rcases h with ⟨h1,k,d,-,h2,h,-,-,h5⟩|⟨-,k,page,C',-,-,-,-,h4,-⟩
 ·obtain ⟨rfl,h6⟩:=zfe h
  exact ⟨h1,h6.symm,h5⟩
 ·exact absurd ht (h4 0 (by decide) c (by rw [<-hi];exact zg7))
end
def aB:ByteArray:=⟨#[97]⟩
theorem zmJ (w:World):Calls Tryz.prog 13 #[] w λ e w'=>e=.returned (.bool true)/\Hid (Below w.heap.size w w'):=by
 have WD:=zo2 3000 w (by decide) (by decide)
 rw [show ((3000:Nat):Int)=3000 from rfl] at WD
 go_enter Tryz.func13,Tryz.ntmps13
 go_wp2_with fail
 refine WD.mono ?_
 rintro e wb ⟨db,lb,FL,rfl,H1⟩
 clear WD
 go_wp2_with fail
 refine (zln lb wb).mono ?_
 rintro e wc ⟨rfl,H2⟩
 have OF:=zsW _ lb 3000 FL _ [] wc (zmg H1.out H2.out) (by decide)
 go_wp2_with fail
 refine OF.mono ?_
 rintro e wd ⟨rb,G,rfl,H3⟩
 have NR:=Hd (zeG.of (w1:=w) (zBr _ _) H1.out H2.out H3.out)
 clear OF H1 H2 H3
 have AT:=zsY rb wd
 go_wp2_with fail
 refine AT.mono ?_
 rintro e we ⟨sb,ti,tl,rfl,HT⟩
 have M0:=Hd (Chs.start (N:=20) NR.out (by decide) (by decide) HT.out.1 HT.out.2.1 HT.out.2.2)
 clear NR HT AT
 have P1:=zqG w we we (λ _=>False) sb rb ti tl 3000 20 0 0 [] [] [] aB M0 (by decide) (by decide) (by decide) (by decide) (λ c hc=>by cases hc)
 rw [show aB=⟨#[97]⟩ from rfl] at P1
 clear M0
 go_wp2_with fail
 refine P1.mono ?_
 rintro e w3 ⟨id,fresh,rfl,HP⟩
 obtain ⟨rfl,hid,page,HC⟩:=zfd.empty HP.out
 have M1:=Hd HC
 have hsz:id.size=33:=by rw [hid,zgq,zgR]
 have HI:=Hd hid
 clear HP HC P1 hid
 have P2:=zqG w w3 we (λ _=>False) sb rb ti tl 3000 20 2 0 [⟨id,page,0,⟨#[97]⟩⟩] [] [(page,⟨#[97]⟩)] aB M1 (by decide) (by decide) (by decide) (show 1<=250 by decide) (λ c hc=>by simp at hc;subst hc;simp)
 rw [show aB=⟨#[97]⟩ from rfl] at P2
 clear M1
 go_wp2_with fail
 refine P2.mono ?_
 rintro e w4 ⟨id2,fresh,rfl,HP⟩
 obtain ⟨rfl,hid,HC⟩:=zfd.one HP.out HI.out rfl
 obtain rfl:id2=id:=hid
 have M2:=Hd HC
 clear HP HC P2
 have AD:=zmI w w4 we (λ _=>False) sb rb ti tl 3000 20 2 0 [⟨id2,page,0,⟨#[97]⟩⟩] [] [(page,⟨#[97]⟩)] id2 true ⟨id2,page,0,⟨#[97]⟩⟩ M2 (by decide) hsz zg7
 rw [show byI true=1 from rfl] at AD
 clear M2
 go_wp2_with fail
 refine AD.mono ?_
 rintro e w5 ⟨rfl,M3⟩
 clear AD
 have MG:=zmG w w5 we (λ _=>False) sb rb ti tl 3000 20 3 1 [⟨id2,page,0,⟨#[97]⟩⟩] ([]++[Lg.mk 0 true id2]) [(page,⟨#[97]⟩)] 9 9 rfl (by decide) M3 (show 3+2*1<=20/\20<=1000 by decide) (λ c hc=>by simp at hc;subst hc;exact ⟨by show (-1000000:Int)<=0;decide,by show (0:Int)<=1000000;decide⟩)
 have e9:(List.take 9 (([]:List Lg)++[(⟨0,true,id2⟩:Lg)])).length=1:=rfl
 rw [e9,show ((1:Nat):Int)=1 from rfl] at MG
 clear M3
 go_wp2_with fail
 refine MG.mono ?_
 rintro e w6 ⟨rfl,HM⟩
 have M4:Hid (Chs [] w we w6 (λ _=>False) sb rb ti tl 3000 20 5 [⟨id2,page,1,⟨#[97]⟩⟩] [] 1 [(page,⟨#[97]⟩)]):=Hd (by
  obtain ⟨C',h1,h2⟩:=HM.out
  have:=Mg.one h1 (λ e he=>by simp at he;subst he;rfl)
  rw [this] at h2
  simpa [Ck.add,zfc,Lg.by] using h2)
 clear HM MG
 have CT:=zh6 w w6 we (λ _=>False) sb rb ti tl 3000 20 5 1 [⟨id2,page,1,⟨#[97]⟩⟩] [] [(page,⟨#[97]⟩)] id2 ⟨id2,page,1,⟨#[97]⟩⟩ M4 (by decide) (by omega) zg7 (by decide)
 simp only [zfc] at CT
 clear M4
 go_wp2_with fail
 refine CT.mono ?_
 rintro e w7 ⟨rfl,M5⟩
 clear CT
 have GT:=ziX w w7 we (λ _=>False) sb rb ti tl 3000 20 5 1 [⟨id2,page,1,⟨#[97]⟩⟩] [] [(page,⟨#[97]⟩)] id2 ⟨id2,page,1,⟨#[97]⟩⟩ M5 (by decide) (by omega) zg7 (by simp)
 simp only at GT
 have HB:Hid (∀ w8,Hid (Chs [] w we w8 (λ _=>False) sb rb ti tl 3000 20 5 [⟨id2,page,1,⟨#[97]⟩⟩] [] 1 [(page,⟨#[97]⟩)])->Below w.heap.size w w8):=Hd λ w8 h=>h.out.bel
 have hse:((id2.size:Int) == 33)=true:=by rw [hsz];rfl
 clear M5 hsz
 go_wp2_with fail
 refine GT.mono ?_
 rintro e w8 ⟨rfl,M6⟩
 clear GT
 go_wp2_with fail
 go_ret
 exact ⟨rfl,Hd (HB.out _ M6)⟩
theorem ziY {k n:Nat} (h:k<n) (hn:n<=9223372036854775807):wrap64 ((k:Int)+1)=((k+1:Nat):Int):=by
 have e:(k:Int)+1=((k+1:Nat):Int):=by push_cast;rfl
 rw [e]
 unfold wrap64;omega
variable {bse:List (Int × ByteArray)}
theorem zqH (c:Ck) (hc:c.Ok) (W:World):Calls Tryz.prog 88 #[.string ⟨#[104,98,110]⟩,.string c.val] W λ e w'=>∃ g k,W.heap.size<=g/\e=.returned (.tuple #[.slice (some ⟨g,0,none⟩) 3 k,.bool true])/\(w'.cell? ⟨g,2,none⟩=some (.int .u64 (c.text.size:Int))/\w'.cell? ⟨g,4,none⟩=some (.int .u64 (zcG c.cnt:Int)))/\Hid (Below W.heap.size W w'):=by
 have RC:=ziV zhZ c.val W (by decide) (by have:=Ck.val_size c;omega)
 rw [Ck.read hc] at RC
 refine RC.mono ?_
 intro e w' hp
 obtain ⟨v,rfl,ho,hbl⟩:=hp
 rcases ho.2 with ⟨rfl,h0⟩|⟨g,cap,cur,rfl,hbg,-⟩
 ·exact absurd h0 (by simp [Ck.flds])
 ·refine ⟨g,cap,hbg,rfl,?_,Hd hbl⟩
  have c:=λ i (hi:i<6)=>ho.cellAt i (by simpa [Ck.flds] using hi)
  exact ⟨c 2 (by decide),c 4 (by decide)⟩
theorem zsP:(Tryz.prog.info? 106).map (λ i=>(i.zero,i.size,i.bytes))=some (some (.agg #[.string ⟨#[]⟩,.int .i64 0,.int .i64 0]),3,32):=by kernel_rfl
def zgb (C:List Ck):List Value:=C.flatMap λ c=>[.string c.id,.int .i64 (c.text.size:Int),.int .i64 c.cnt]
theorem zmK (T:List Ck) (c:Ck):zgb (T++[c])=zgb T++[.string c.id,.int .i64 (c.text.size:Int),.int .i64 c.cnt]:=by simp [zgb]
def zov (W0:World) (T:List Ck) (i:Nat) (v:Value) (wr:World):Prop:=wr.ownsRow W0.heap.size 106 3 v i (zgb (T.take i))/\Below W0.heap.size W0 wr
def zj2 (bse:List (Int × ByteArray)) (w1 w w':World) (K:Nat->Prop) (sb rb ti tl n N a:Nat) (C:List Ck) (L:List Lg) (nx:Nat) (X:List (Nat × ByteArray)) (v:Value):Prop :=
 w'.ownsRow 0 106 3 v C.length (zgb C)/\Chs bse w1 w' w' (λ k=>K k\/v.ownBlock=some k) sb rb ti tl n N a C L nx X/\zbX K w w'
def zsQ (bse:List (Int × ByteArray)) (w1 w w':World) (K:Nat->Prop) (sb rb ti tl n N a:Nat) (C:List Ck) (L:List Lg) (nx:Nat) (X:List (Nat × ByteArray)) (v:Value):Prop :=
 w'.ownsRow (w.heap.size+2) 170 2 v C.length (zes (C.map zil))/\Chs bse w1 w' w' (λ k=>K k\/(w.heap.size<=k/\k<w'.heap.size)) sb rb ti tl n N a C L nx X/\zbX K w w'
section
variable (w1 w w0:World) (K:Nat->Prop) (sb rb ti tl n N a nx:Nat) (C:List Ck) (L:List Lg) (X:List (Nat × ByteArray))
theorem zow (h:Hid (Chs bse w1 w0 w K sb rb ti tl n N a C L nx X)) (hN:a<=N/\N<=1000) (hL:C.length<=1000000) :
 Calls Tryz.prog 87 #[.pointer (some ⟨ti,0,none⟩),.string ⟨#[]⟩,.string ⟨#[]⟩,.int .i64 33554432] w λ e w'=>∃ v,e=.returned (.tuple #[v,.int .i64 0])/\Hid (zsQ bse w1 w w' K sb rb ti tl n N a C L nx X v):=by
 obtain ⟨S,o0,o1,h1,h2,h3,h4,h5⟩:=h.out
 have hl:(zbh o0).length=C.length:=by rw [h3.eq,zLm]
 have SC:=zmf w1 w _ ti rb 0 n (300*a) S o0 ⟨#[]⟩ ⟨#[]⟩ 33554432 h1.1.1 h1.1.2.2.1 (.inr (.inr (.inl rfl))) h2.t0 (by decide) (by omega) (by have:=h2.hgt0 (by omega);omega) (by omega) (by decide) (by decide)
 rw [zjZ,zfP 33554432 _ [] (zNz _),List.nil_append,h3.eq,List.length_nil,Nat.sub_zero,<-List.map_take,List.take_of_length_le (by omega),zLm] at SC
 refine SC.mono ?_
 rintro e w' ⟨v,rfl,hE⟩
 obtain ⟨r1,r2,r3⟩:=hE.out
 have hg:=h1.1.of (r2.mono λ k hk=>.inl hk) r3
 refine ⟨v,rfl,Hd ⟨r1,⟨S,o0,o1,⟨⟨r2.mono λ k hk=>?_,hg.1.2⟩,λ _ _=>rfl⟩,h2,h3,h4,h5⟩,hg.2⟩⟩
 rcases hk with (hk|hk)|hk
 ·exact .inl (.inl hk)
 ·exact .inr hk
 ·exact .inl (.inr hk)
theorem zsk (h:Hid (Chs bse w1 w0 w K sb rb ti tl n N a C L nx X)) (hN:a<=N/\N<=1000) (hL:C.length<=1000000) :
 Calls Tryz.prog 30 #[.pointer (some ⟨sb,0,none⟩)] w λ e w'=>∃ v,e=.returned (.tuple #[v,.int .i64 0])/\Hid (zj2 bse w1 w w' K sb rb ti tl n N a C L nx X v):=by
 have SC:=zow w1 w w0 K sb rb ti tl n N a nx C L X h hN hL
 have HOK:Hid (∀ c∈C,c.Ok):=Hd h.out.ok.1
 have HLEN:Hid (C.length<=1000000):=Hd hL
 obtain ⟨s0,s1,s2⟩:=h.out.sbk.cells
 have HH:=Hd h.out.kept
 clear h hN hL
 go_enter Tryz.func30,Tryz.ntmps30
 go_wp2_with fail
 refine SC.mono ?_
 rintro e w4 ⟨v,rfl,HS⟩
 clear SC
 obtain ⟨va,vc,hv⟩:∃ va vc,v=.slice va C.length vc:=by
  rcases HS.out.1.2 with ⟨rfl,h0⟩|⟨g,cap,cur,rfl,-⟩
  ·exact ⟨_,_,by rw [h0]⟩
  ·exact ⟨_,_,rfl⟩
 subst hv
 have CE:Hid (∀ i (hi:i<C.length),∃ g,va=some ⟨g,0,none⟩/\g<w4.heap.size/\w4.cell? ⟨g,i*2,none⟩=some (.string C[i].id)/\w4.cell? ⟨g,i*2+1,none⟩=some (.string C[i].val)):=Hd λ i hi=>by
  have hr:=HS.out.1
  rcases hr.2 with ⟨e,h0⟩|⟨g,cap,cur,e,h1,h2,-⟩
  ·omega
  ·cases e
   have hl:i<(C.map zil).length:=by simpa using hi
   obtain ⟨x,y⟩:=zh4 (C.map zil) i hl
   refine ⟨g,rfl,zab h2,?_,?_⟩
   ·rw [hr.cellAt (i*2) (by omega),x];simp [zil]
   ·rw [hr.cellAt (i*2+1) (by omega),y];simp [zil]
 have R0:Hid (zov w4 C 0 (.slice none 0 0) w4):=Hd ⟨World.ownsRow_nil _ _ _ _,zBr _ _⟩
 have HEND:Hid (∀ v w',zov w4 C C.length v w'->zj2 bse w1 w w' K sb rb ti tl n N a C L nx X v):=Hd λ v w' hr=>by
  obtain ⟨h1,h2⟩:=hr
  rw [List.take_length] at h1
  obtain ⟨g1,g2⟩:=HS.out.2
  have hm:=g1.mono (K':=K) λ k hk=>.inl hk
  have hb:Chs bse w1 w' w' (λ k=>K k\/v.ownBlock=some k) sb rb ti tl n N a C L nx X:=by
   obtain ⟨S,o0,o1,x1,x2⟩:=hm
   refine ⟨S,o0,o1,⟨(x1.1.belowK h2).1.mono λ k hk=>hk.imp id λ hk=>h1.lt k hk,λ _ _=>rfl⟩,x2⟩
  exact ⟨zjR h1 (zNz _),hb,g2.trans (hm.keep h2)⟩
 obtain ⟨jE,hjE,hE0,hE1,hE2⟩:=info_parts zsP
 go_wp2_with fail
 go_loopg [6,8,9,10,26] C.length (λ g s6 s8 s9 s10 s26 wr=>∃ (i:Nat) (sv:Value),g=C.length-i/\i<=C.length/\s26=.int .i64 (i:Int)/\sv=s6/\Hid (zov w4 C i sv wr))
 case atStart=>exact ⟨0,_,rfl,zNz _,rfl,rfl,R0⟩
 case round =>
  obtain ⟨i,sv,rfl,hi,rfl,rfl,HR⟩:=hrel
  clear R0
  by_cases hlt:i<C.length
  ·obtain ⟨g,rfl,hg,c0,c1⟩:=CE.out i hlt
   have hbl:=HR.out.2
   have d0:wr.cell? ⟨g,i*2,none⟩=some (.string C[i].id):=(hbl.cell (p:=⟨g,i*2,none⟩) hg).trans c0
   have d1:wr.cell? ⟨g,i*2+1,none⟩=some (.string C[i].val):=(hbl.cell (p:=⟨g,i*2+1,none⟩) hg).trans c1
   have hok:=HOK.out C[i] (List.getElem_mem hlt)
   have RD:=λ W=>zqH C[i] hok W
   have HSTEP:Hid (∀ v' W5,W5.ownsRow w4.heap.size 106 3 v' (i+1) (zgb (C.take i)++[.string C[i].id,.int .i64 (C[i].text.size:Int),.int .i64 C[i].cnt])->Below w4.heap.size w4 W5->zov w4 C (i+1) v' W5):=Hd λ v' W5 ho hb=>by
    refine ⟨?_,hb⟩
    rw [zTs hlt,zmK]
    exact ho
   have u0:IntKind.i64.wrap ((C[i].text.size:Nat):Int)=((C[i].text.size:Nat):Int):=zcX (by omega) (by have:=hok.t2;omega)
   have u1:IntKind.i64.wrap (zcG C[i].cnt:Int)=C[i].cnt:=zgp _ (by have:=hok.c1;omega) (by have:=hok.c2;omega)
   have HLT:=Hd hlt
   have hl64:i<=1000000:=by have:=HLEN.out;omega
   clear c0 c1 hok hi
   have HL:Hid (i+1<=maxLen/\(i+1)*32<=140737488355328):=Hd (by unfold maxLen;omega)
   generalize C[i].val=vl at *
   generalize C[i].id=ky at *
   generalize C[i].text.size=z1 at *
   generalize zcG C[i].cnt=z2 at *
   generalize C[i].cnt=z3 at *
   clear hlt hbl
   go_wp2_with fail
   refine (RD _).mono ?_
   rintro e w6 ⟨gf,kf,hgf,rfl,⟨f2,f4⟩,hb6⟩
   have hbp:w6.cell? ⟨wr.heap.size,0,none⟩=some (.string ky):=zaa ((hb6.out.block wr.heap.size (by simp)).trans (heap_alloc_new wr _)) rfl
   have hb7:Below wr.heap.size wr w6:=((zBr wr.heap.size wr).alloc (zNr _) _).trans (hb6.out.mono (by simp))
   have HB6:Hid (Below w4.heap.size w4 w6.drew):=Hd (HR.out.2.trans (hb7.drew.mono HR.out.2.size))
   have HOD:Hid (w6.drew.ownsRow w4.heap.size 106 3 sv i (zgb (C.take i))):=Hd (zaH HR.out.1 (hb7.drew.upd' (zNr _)) (λ _ _ e=>e))
   have HBX:Hid (∀ o,w4.heap.size<=(w6.drew.alloc o).heap.size):=Hd λ o=>by have:=HB6.out.size;simp at this ⊢;omega
   have CK:Hid (∀ o W5,(w6.drew.alloc o).grownBy W5 sv.ownBlock->W5.cell? ⟨wr.heap.size,0,none⟩=some (.string ky)/\W5.cell? ⟨gf,2,none⟩=some (.int .u64 (z1:Int))/\W5.cell? ⟨gf,4,none⟩=some (.int .u64 (z2:Int))):=Hd λ o W5 hg=>by
    have q:∀ b i v,wr.heap.size<=b->w6.cell? ⟨b,i,none⟩=some v->W5.cell? ⟨b,i,none⟩=some v:=λ b i v hb hc=>by
     have hbb:Below w6.heap.size w6 (w6.drew.alloc o):=((zBr w6.heap.size w6).drew).alloc (zNr _) _
     refine hg.cell ((hbb.cell (p:=⟨b,i,none⟩) (World.block_lt_of_cell? w6 _ hc)).trans hc) λ e=>?_
     have:=HR.out.1.lt b e.symm
     omega
    have hgf':wr.heap.size<=gf:=by simp at hgf;omega
    exact ⟨q _ _ _ (zNr _) hbp,q _ _ _ hgf' f2,q _ _ _ hgf' f4⟩
   clear hb6 hb7 RD d0 d1 hgf
   go_wp2_with fail
   go_region_held3 (λ w'=>w'.cell? ⟨wr.heap.size,0,none⟩=some (.string ky)/\w'.cell? ⟨gf,2,none⟩=some (.int .u64 (z1:Int))/\w'.cell? ⟨gf,4,none⟩=some (.int .u64 (z2:Int))) (go_keep) ((first
    | (refine zat (by rfl) _ _ _ (by rfl) w4.heap.size 106 jE _ 3 32 Tryz.underlying68 hjE hE0 hE1 hE2 rfl (by decide) _ _ _ (by rfl) (HOD.out.alloc _) _ 1 _ (by rfl) (zai _ #[.string ky,.int .i64 (z1:Int),.int .i64 z3] _ 1 1) rfl (zpk _ _ _ rfl rfl rfl) HL.out.1 HL.out.2 (HBX.out _) ?_
       intro v5 W5 ho5 hg5 ha5
       have HN5:=Hd (HSTEP.out v5 W5 ho5 ((HB6.out.alloc HB6.out.size _).grown hg5 (HBX.out _) (λ k e=>(HOD.out.lt k e).1)))
       obtain ⟨k0,k1,k2⟩:=CK.out _ W5 hg5
       clear ho5 hg5 ha5)))
   all_goals go_wp2_with fail
   all_goals go_roundg (C.length-(i+1))
   all_goals (first
    | (case measure=>have:=HLT.out;omega)
    | (case rel=>exact ⟨i+1,_,rfl,HLT.out,by congr 1,rfl,HN5⟩))
  ·obtain rfl:i=C.length:=by omega
   have HE:=Hd (HEND.out _ _ HR.out)
   clear hlt hi
   go_wp2_with fail
   go_ret2
   exact ⟨_,rfl,HE⟩
end
open Go.RowKit Go.MapKept
section
variable {κ α:Type} [DecidableEq κ] {K:zq5 κ} {V:α->Value} {w:World} {r it:Nat} {m left:List (κ × α)}
end
theorem RSt.upd {w1 w w':World} {K F:Nat->Prop} {rb n m:Nat} {S:RS} (h:RSt w1 w K rb n m S) (hu:Upd F w w') (hF:∀ k,F k->K k/\w1.heap.size<=k):RSt w1 w' K rb n m S:=by
 obtain ⟨G,a,b,d,e⟩:=h
 exact ⟨G,a.frame hu λ k hk hf=>(d k (hF k hf).1).2 hk,b,λ k hk=>⟨Nat.lt_of_lt_of_le (d k hk).1 hu.size,(d k hk).2⟩,e.trans (hu.below e.size λ k hk hf=>by have:=(hF k hf).2;omega)⟩
theorem Chs.upd {bse:List (Int × ByteArray)} {w1 w0 w w':World} {K F:Nat->Prop} {sb rb ti tl n N a nx:Nat} {C:List Ck} {L:List Lg} {X:List (Nat × ByteArray)} (h:Chs bse w1 w0 w K sb rb ti tl n N a C L nx X) (hu:Upd F w w') (hF:∀ k,F k->K k/\w1.heap.size<=k/\k≠sb/\k≠ti/\k≠tl):Chs bse w1 w' w' K sb rb ti tl n N a C L nx X:=by
 obtain ⟨S,o0,o1,h1,h2⟩:=h
 have hs:=h1.1.2
 refine ⟨S,o0,o1,⟨⟨h1.1.1.upd hu λ k hk=>⟨.inl (hF k hk).1,(hF k hk).2.1⟩,?_,?_,?_⟩,λ _ _=>rfl⟩,h2⟩
 ·exact hu.at hs.1 λ hf=>(hF _ hf).2.2.1 rfl
 ·exact hu.at hs.2.1 λ hf=>(hF _ hf).2.2.2.1 rfl
 ·exact hu.at hs.2.2 λ hf=>(hF _ hf).2.2.2.2 rfl
section
variable {w1 w0 w w':World} {K:Nat->Prop} {sb rb ti tl i:Nat} {M:List (ByteArray × ByteArray)} {t:ByteArray}
end
variable {bse:List (Int × ByteArray)}
section
variable (w1 w w0:World) (K:Nat->Prop) (sb rb ti tl n N m:Nat) (C:List Ck) (L:List Lg) (X:List (Nat × ByteArray))
end
variable {bse:List (Int × ByteArray)}
theorem RSt.updN {w1 w w':World} {K F:Nat->Prop} {rb n m:Nat} {S:RS} (h:RSt w1 w K rb n m S) (hu:Upd F w w') (hF:∀ k,F k->K k/\w1.heap.size<=k):RSt w1 w' (λ k=>K k\/(w.heap.size<=k/\k<w'.heap.size)) rb n m S:=by
 obtain ⟨G,a,b,d,e⟩:=h
 refine ⟨G,a.frame hu λ k hk hf=>(d k (hF k hf).1).2 hk,b,λ k hk=>?_,e.trans (hu.below e.size λ k hk hf=>by have:=(hF k hf).2;omega)⟩
 rcases hk with hk|hk
 ·exact ⟨Nat.lt_of_lt_of_le (d k hk).1 hu.size,(d k hk).2⟩
 ·exact ⟨hk.2,λ hg=>by have:=a.lt k hg;omega⟩
theorem Chs.updN {w1 w0 w w':World} {K F:Nat->Prop} {sb rb ti tl n N a nx:Nat} {C:List Ck} {L:List Lg} {X:List (Nat × ByteArray)} (h:Chs bse w1 w0 w K sb rb ti tl n N a C L nx X) (hu:Upd F w w') (hF:∀ k,F k->K k/\w1.heap.size<=k/\k≠sb/\k≠ti/\k≠tl):Chs bse w1 w' w' (λ k=>K k\/(w.heap.size<=k/\k<w'.heap.size)) sb rb ti tl n N a C L nx X:=by
 obtain ⟨S,o0,o1,h1,h2⟩:=h
 have hs:=h1.1.2
 refine ⟨S,o0,o1,⟨⟨(h1.1.1.updN hu λ k hk=>⟨.inl (hF k hk).1,(hF k hk).2.1⟩).mono λ k hk=>?_,?_,?_,?_⟩,λ _ _=>rfl⟩,h2⟩
 ·rcases hk with (hk|hk)|hk
  ·exact .inl (.inl hk)
  ·exact .inr hk
  ·exact .inl (.inr hk)
 ·exact hu.at hs.1 λ hf=>(hF _ hf).2.2.1 rfl
 ·exact hu.at hs.2.1 λ hf=>(hF _ hf).2.2.2.1 rfl
 ·exact hu.at hs.2.2 λ hf=>(hF _ hf).2.2.2.2 rfl
section
variable {w1 w0 w w':World} {K K' F:Nat->Prop} {sb rb ti tl n N m:Nat} {C:List Ck} {L:List Lg} {X:List (Nat × ByteArray)}
end
section
variable {w1 w0 w wr w' w3 w4:World} {K:Nat->Prop} {sb rb ti tl n N m k B:Nat} {C C' C2:List Ck} {L L':List Lg} {X X' X2:List (Nat × ByteArray)} {P:List (List UInt8)} {vp v v':Value}
end
variable {bse:List (Int × ByteArray)}
section
variable (w1 w w0:World) (K:Nat->Prop) (sb rb ti tl n N m:Nat) (C:List Ck) (L:List Lg) (X:List (Nat × ByteArray))
end
section
variable {w1 w0 w W W2 w3 w4:World} {K:Nat->Prop} {sb rb ti tl n N m ys bb:Nat} {C:List Ck} {L:List Lg} {X:List (Nat × ByteArray)} {out:List UInt8}
end
section
variable (w1 w w0:World) (K:Nat->Prop) (sb rb ti tl n N m:Nat) (C:List Ck) (L:List Lg) (X:List (Nat × ByteArray))
end
abbrev RCk:=ByteArray × ByteArray × Int
abbrev REn:=ByteArray × Int
def rC (C:List Ck):List RCk:=C.map λ c=>(c.id,c.text,c.cnt)
def rL (L:List Lg):List REn:=L.map λ e=>(e.id,e.by)
def zhj (C:List RCk) (id:ByteArray):Option RCk:=C.find? λ c=>decide (c.1=id)
def ixR (C:List RCk) (id:ByteArray):Int:=match C.findIdx? (λ c=>decide (c.1=id)) with
 | some i=>(i:Int)
 | none=>-1
theorem zcH (C:List Ck) (id:ByteArray):zhj (rC C) id=(cAt C id).map λ c=>(c.id,c.text,c.cnt):=by
 unfold zhj rC cAt
 rw [List.find?_map]
 rfl
theorem zcY {C:List RCk} {id:ByteArray} {c:RCk} (h:zhj C id=some c):∃ i,∃ hi:i<C.length,C[i]=c/\ixR C id=(i:Int)/\∀ j (hj:j<i),(C[j]'(Nat.lt_trans hj hi)).1≠id:=by
 unfold zhj at h
 obtain ⟨hp,i,hi,e,hno⟩:=List.find?_eq_some_iff_getElem.1 h
 refine ⟨i,hi,e,?_,λ j hj=>by have:=hno j hj;simpa using this⟩
 have:C.findIdx? (λ c=>decide (c.1=id))=some i:=by
  rw [List.findIdx?_eq_some_iff_getElem]
  refine ⟨hi,by rw [e];exact hp,λ j hj=>by have:=hno j hj;simpa using this⟩
 unfold ixR;rw [this]
theorem zdD {C:List RCk} {id:ByteArray} (h:zhj C id=none):ixR C id=-1/\∀ c∈C,c.1≠id:=by
 unfold zhj at h
 rw [List.find?_eq_none] at h
 have h2:∀ c∈C,c.1≠id:=λ c hc=>by have:=h c hc;simpa using this
 refine ⟨?_,h2⟩
 have:C.findIdx? (λ c=>decide (c.1=id))=none:=by
  rw [List.findIdx?_eq_none_iff]
  intro c hc;simp [h2 c hc]
 unfold ixR;rw [this]
def zg8 (C:List RCk) (p t:ByteArray) (k:Nat):Bool:=match zhj C (zas p k) with
 | some c=>decide (c.2.1=t)
 | none=>false
def zd1 (C:List RCk) (p:ByteArray) (k:Nat):Bool:=(zhj C (zas p k)).isNone
def zf4:List RCk->RCk->List RCk
 | [],c=>[c]
 | d::r,c=>if zah c.1 d.1 then c::d::r else d::zf4 r c
def zbI (A:List RCk) (c:RCk):Bool:=A.any λ d=>zah c.1 d.1
theorem ziZ:∀ {A:List RCk} {c:RCk},zbI A c=false->zf4 A c=A++[c]
 | [],c,_=>rfl
 | d::r,c,h=>by
   simp only [zbI,List.any_cons,Bool.or_eq_false_iff] at h
   simp only [zf4,h.1]
   rw [ziZ (A:=r) h.2];simp
theorem zfT:∀ {A:List RCk} {c d:RCk} {B:List RCk},zbI A c=false->zah c.1 d.1=true->zf4 (A++d::B) c=A++c::d::B
 | [],c,d,B,_,h=>by simp [zf4,h]
 | a::r,c,d,B,h,hd=>by
   simp only [zbI,List.any_cons,Bool.or_eq_false_iff] at h
   simp only [List.cons_append,zf4,h.1]
   rw [zfT (A:=r) h.2 hd];simp
theorem zj3:∀ {A:List RCk} {c d:RCk},zbI A c=true->zf4 (A++[d]) c=zf4 A c++[d]
 | [],c,d,h=>by simp [zbI] at h
 | a::r,c,d,h=>by
   simp only [List.cons_append,zf4]
   by_cases ha:zah c.1 a.1=true
   ·simp [ha]
   ·simp only [ha]
    have:zbI r c=true:=by
     simp only [zbI,List.any_cons,Bool.or_eq_true] at h
     exact h.resolve_left ha
    rw [zj3 (A:=r) this];simp
theorem zfU (A:List RCk) (c d:RCk):zbI (A++[d]) c=(zbI A c || zah c.1 d.1):=by
 simp [zbI]
theorem zqI:∀ {A B:List RCk} {c:RCk},(∀ a∈A,zah c.1 a.1=false)->(∀ b∈B,zah c.1 b.1=true)->zf4 (A++B) c=A++c::B
 | A,[],c,hA,_=>by
   rw [List.append_nil]
   exact ziZ (by unfold zbI;rw [List.any_eq_false];intro x hx;simp [hA x hx])
 | A,b::B,c,hA,hB=>zfT (by unfold zbI;rw [List.any_eq_false];intro x hx;simp [hA x hx]) (hB b (by simp))
theorem zfV:∀ (C:List RCk) (c:RCk),(zf4 C c).length=C.length+1
 | [],c=>rfl
 | a::r,c=>by
   simp only [zf4]
   split
   ·simp
   ·simp [zfV r c]
def zew (C:List RCk) (t:ByteArray):List RCk × ByteArray × Bool × Int :=
 if t.size<1\/128<t.size then (C,⟨#[]⟩,false,1) else
 match (List.range 256).find? (zg8 C (prB t) t) with
 | some k=>(C,zas (prB t) k,false,0)
 | none=>match (List.range 256).find? (zd1 C (prB t)) with
   | some k=>(zf4 C (zas (prB t) k,t,0),zas (prB t) k,true,0)
   | none=>(C,⟨#[]⟩,false,4)
theorem zcZ {f:Nat->Bool} {k n:Nat} (hk:k<n) (h:f k=true) (hno:∀ j,j<k->f j=false):(List.range n).find? f=some k:=by
 rw [List.find?_range_eq_some]
 exact ⟨h,List.mem_range.2 hk,λ j hj=>by simp [hno j hj]⟩
theorem zdE {f:Nat->Bool} {n:Nat} (hno:∀ j,j<n->f j=false):(List.range n).find? f=none:=by
 rw [List.find?_range_eq_none]
 exact λ j hj=>by simp [hno j hj]
theorem zpm {C:List Ck} {p t:ByteArray} {k:Nat}:zg8 (rC C) p t k=true ↔ ∃ c,cAt C (zas p k)=some c/\c.text=t:=by
 unfold zg8
 rw [zcH]
 cases cAt C (zas p k) with
 | none=>simp
 | some c=>simp
theorem zj4 {C:List Ck} {p t:ByteArray} {i:Nat} (h:zcp C p t i):∀ j,j<i->zg8 (rC C) p t j=false:=λ j hj=>by
 cases hq:zg8 (rC C) p t j with
 | false=>rfl
 | true =>
   obtain ⟨c,h1,h2⟩:=zpm.1 hq
   exact absurd h2 (h j hj c h1)
theorem zj5 {C:List Ck} {t:ByteArray} {k:Nat} {c:Ck} (h1:1<=t.size) (h2:t.size<=128) (hk:k<256) (hc:cAt C (zas (prB t) k)=some c) (ht:c.text=t) (hn:zcp C (prB t) t k):zew (rC C) t=(rC C,zas (prB t) k,false,0):=by
 unfold zew
 rw [if_neg (by omega),zcZ hk (zpm.2 ⟨c,hc,ht⟩) (zj4 hn)]
theorem zmL {C C':List Ck} {c:Ck} (h:zeC c C C') (hn:cAt C c.id=none):zf4 (rC C) (c.id,c.text,c.cnt)=rC C':=by
 obtain ⟨A,B,rfl,h',hA,hB⟩:=h
 rcases h' with rfl|⟨c0,e,rfl⟩
 ·unfold rC
  rw [List.map_append,List.map_append,List.map_cons]
  refine zqI (λ a ha=>?_) (λ b hb=>?_)
  ·obtain ⟨x,hx,rfl⟩:=List.mem_map.1 ha
   exact zbx (hA x hx)
  ·obtain ⟨x,hx,rfl⟩:=List.mem_map.1 hb
   exact hB x hx
 ·exact absurd e (zdA hn c0 (by simp))
theorem zj6 {C C':List Ck} {t:ByteArray} {k page:Nat} (h1:1<=t.size) (h2:t.size<=128) (hk:k<256) (hc:cAt C (zas (prB t) k)=none) (hf:∀ j,j<k->cAt C (zas (prB t) j)≠none) (hn:zcp C (prB t) t 256) (hp:zeC ⟨zas (prB t) k,page,0,t⟩ C C'):zew (rC C) t=(rC C',zas (prB t) k,true,0):=by
 have hfr:∀ j,zd1 (rC C) (prB t) j=(cAt C (zas (prB t) j)).isNone:=λ j=>by
  unfold zd1;rw [zcH,Option.isNone_map]
 unfold zew
 rw [if_neg (by omega),zdE (zj4 hn),zcZ hk (by rw [hfr,hc];rfl) λ j hj=>by
  rw [hfr]
  cases hq:cAt C (zas (prB t) j) with
  | none=>exact absurd hq (hf j hj)
  | some c=>rfl]
 have:=zmL hp hc
 simp only at this
 simp only [this]
theorem zi0 (L:List Lg) (e:Lg):rL (L++[e])=rL L++[(e.id,e.by)]:=by simp [rL]
def zd6:List RCk->ByteArray->Int->List RCk
 | [],_,_=>[]
 | c::r,id,d=>if c.1=id then (c.1,c.2.1,c.2.2+d)::r else c::zd6 r id d
theorem zj7 (C:List RCk) (id:ByteArray) (d:Int):(zd6 C id d).length=C.length:=by
 induction C with
 | nil=>rfl
 | cons c r ih=>simp only [zd6];split <;> simp [ih]
theorem zkY (C:List RCk) (id:ByteArray) (d:Int):(zd6 C id d).map Prod.fst=C.map Prod.fst:=by
 induction C with
 | nil=>rfl
 | cons c r ih=>simp only [zd6];split <;> simp [ih]
theorem zmM {C D:List RCk} (h:C.map Prod.fst=D.map Prod.fst) (id:ByteArray):ixR C id=ixR D id:=by
 have:∀ (C:List RCk),C.findIdx? (λ c=>decide (c.1=id))=(C.map Prod.fst).findIdx? (λ c=>decide (c=id)):=λ C=>by
  rw [List.findIdx?_map];rfl
 unfold ixR
 rw [this,this,h]
theorem zmN {C:List RCk} {id:ByteArray} {d:Int} (h:∀ c∈C,c.1≠id):zd6 C id d=C:=by
 induction C with
 | nil=>rfl
 | cons c r ih =>
   simp only [zd6,if_neg (h c (by simp))]
   rw [ih λ x hx=>h x (by simp [hx])]
theorem zj8 {A B:List RCk} {c:RCk} {d:Int} (h:∀ a∈A,a.1≠c.1):zd6 (A++c::B) c.1 d=A++(c.1,c.2.1,c.2.2+d)::B:=by
 induction A with
 | nil=>simp [zd6]
 | cons a r ih =>
   simp only [List.cons_append,zd6,if_neg (h a (by simp))]
   rw [ih λ x hx=>h x (by simp [hx])]
theorem zj9 {C:List RCk} {i:Nat} {id:ByteArray} {d:Int} (hi:i<C.length) (hid:C[i].1=id) (hno:∀ j (hj:j<i),(C[j]'(Nat.lt_trans hj hi)).1≠id):zd6 C id d=C.set i (C[i].1,C[i].2.1,C[i].2.2+d):=by
 have e:C=C.take i++C[i]::C.drop (i+1):=by rw [<-List.drop_eq_getElem_cons hi,List.take_append_drop]
 have h1:∀ a∈C.take i,a.1≠C[i].1:=λ a ha=>by
  obtain ⟨j,hj,rfl⟩:=List.mem_iff_getElem.1 ha
  rw [List.length_take] at hj
  rw [List.getElem_take,hid]
  exact hno j (by omega)
 have h2:=zj8 (B:=C.drop (i+1)) (d:=d) h1
 rw [<-e,hid] at h2
 rw [h2,List.set_eq_take_append_cons_drop,if_pos hi,hid]
def zbO (C:List RCk) (L:List REn):List RCk:=L.foldl (λ D e=>zd6 D e.1 e.2) C
theorem zfW (C:List RCk) (L:List REn) (e:REn):zbO C (L++[e])=zd6 (zbO C L) e.1 e.2:=by
 unfold zbO;rw [List.foldl_append];rfl
theorem zff (C:List RCk) (L:List REn):(zbO C L).map Prod.fst=C.map Prod.fst:=by
 have:∀ (L:List REn) (C:List RCk),(zbO C L).map Prod.fst=C.map Prod.fst:=by
  intro L
  induction L with
  | nil=>intro C;rfl
  | cons e L ih=>intro C;exact (ih (zd6 C e.1 e.2)).trans (zkY C e.1 e.2)
 exact this L C
theorem zeU (C:List RCk) (L:List REn):(zbO C L).length=C.length:=by
 have:=congrArg List.length (zff C L)
 simpa using this
theorem zqJ {C C':List Ck} {c:Ck} {id:ByteArray} {d:Int} (h:cAt C id=some c) (hp:zeC (c.add d) C C'):∃ A B,C=A++c::B/\C'=A++c.add d::B/\∀ a∈A,a.id≠c.id:=by
 obtain ⟨hm,hid⟩:=zaQ h
 obtain ⟨A,B,rfl,h',hA,hB⟩:=hp
 have nA:c ∉ A:=λ hc=>by
  have h1:=hA c hc
  have h2:zah c.id c.id=true:=h1
  rw [zal] at h2;cases h2
 have nB:c ∉ B:=λ hc=>by
  have h1:=hB c hc
  have h2:zah c.id c.id=true:=h1
  rw [zal] at h2;cases h2
 have hne:∀ a∈A,a.id≠c.id:=λ a ha=>zaW (hA a ha)
 rcases h' with rfl|⟨c0,-,rfl⟩
 ·rcases List.mem_append.1 hm with hc|hc
  ·exact absurd hc nA
  ·exact absurd hc nB
 ·rcases List.mem_append.1 hm with hc|hc
  ·exact absurd hc nA
  ·rcases List.mem_cons.1 hc with rfl|hc
   ·exact ⟨A,B,rfl,rfl,hne⟩
   ·exact absurd hc nB
theorem zmO {C C':List Ck} {c:Ck} {id:ByteArray} {d:Int} (h:cAt C id=some c) (hp:zeC (c.add d) C C'):rC C'=zd6 (rC C) id d/\cpg C'=cpg C:=by
 obtain ⟨A,B,rfl,rfl,hn⟩:=zqJ h hp
 have hid:=(zaQ h).2
 refine ⟨?_,by simp [cpg,Ck.add]⟩
 have:=zj8 (A:=rC A) (B:=rC B) (c:=(c.id,c.text,c.cnt)) (d:=d) λ a ha=>by
  obtain ⟨x,hx,rfl⟩:=List.mem_map.1 ha
  exact hn x hx
 rw [show (c.id,c.text,c.cnt).1=id from hid] at this
 simp only [rC,List.map_append,List.map_cons] at this ⊢
 rw [this]
 simp [Ck.add,hid]
theorem Mg.ref {C C':List Ck} {T:List Lg} (h:Mg C T C'):rC C'=zbO (rC C) (rL T)/\cpg C'=cpg C:=by
 induction h with
 | nil=>exact ⟨rfl,rfl⟩
 | @snoc T C1 C2 e h1 h2 ih =>
   rw [zi0,zfW,<-ih.1,<-ih.2]
   rcases h2 with ⟨hn,rfl⟩|⟨c,hc,hp⟩
   ·refine ⟨(zmN λ a ha=>?_).symm,rfl⟩
    obtain ⟨x,hx,rfl⟩:=List.mem_map.1 ha
    exact zdA hn x hx
   ·exact zmO hc hp
def zaU:List REn->ByteArray->Int × Nat
 | [],_=>(0,0)
 | e::r,id=>if e.1=id then ((zaU r id).1+e.2,(zaU r id).2+1) else zaU r id
theorem zkZ (L:List REn) (e:REn) (id:ByteArray):zaU (L++[e]) id=if e.1=id then ((zaU L id).1+e.2,(zaU L id).2+1) else zaU L id:=by
 induction L with
 | nil=>simp [zaU]
 | cons x L ih =>
   simp only [List.cons_append,zaU,ih]
   by_cases h1:x.1=id <;> by_cases h2:e.1=id
   ·simp only [h1,h2,if_true];refine Prod.ext ?_ rfl;simp only;omega
   ·simp only [h1,h2,if_true,if_false]
   ·simp only [h1,h2,if_true,if_false]
   ·simp only [h1,h2,if_false]
theorem zh8 (L:List REn) (id:ByteArray):(zaU L id).2<=L.length:=by
 induction L with
 | nil=>exact zNr _
 | cons x L ih =>
   simp only [zaU,zLc]
   split
   ·show (zaU L id).2+1<=_;omega
   ·omega
theorem zmP {L:List REn} (id:ByteArray) (h:∀ e∈L,-1<=e.2/\e.2<=1):-(L.length:Int)<=(zaU L id).1/\(zaU L id).1<=L.length:=by
 induction L with
 | nil=>simp [zaU]
 | cons x L ih =>
   have h1:=h x (by simp)
   have h2:=ih λ e he=>h e (by simp [he])
   simp only [zaU,zLc]
   split
   ·show _<=(zaU L id).1+x.2/\(zaU L id).1+x.2<=_;omega
   ·omega
def zcq (L:List Lg) (id:ByteArray):Bool:=L.any λ e=>decide (e.id=id)
theorem zka (L:List Lg) (id:ByteArray):(zaU (rL L) id).1=zfc L id/\((zaU (rL L) id).2=0 ↔ zcq L id=false):=by
 induction L with
 | nil=>exact ⟨rfl,by simp [rL,zaU,zcq]⟩
 | cons e L ih =>
   have e1:rL (e::L)=(e.id,e.by)::rL L:=rfl
   rw [e1]
   simp only [zaU,zfc,zcq,List.any_cons]
   by_cases h:e.id=id
   ·simp only [h,if_true];exact ⟨by rw [ih.1];omega,by simp⟩
   ·simp only [h,if_false]
    refine ⟨by rw [ih.1];omega,?_⟩
    rw [ih.2];simp [zcq]
def zcl (L:List REn) (lim:Int):Nat->List RCk->List RCk × Nat
 | n,[]=>([],n)
 | n,c::r=>if (n:Int)<lim/\c.2.2<=0/\(zaU L c.1).2=0 then zcl L lim (n+1) r else (c::(zcl L lim n r).1,(zcl L lim n r).2)
def zaS (L:List Lg) (lim:Int):Nat->List Ck->List Ck × Nat
 | n,[]=>([],n)
 | n,c::r=>if (n:Int)<lim/\c.cnt<=0/\zcq L c.id=false then zaS L lim (n+1) r else (c::(zaS L lim n r).1,(zaS L lim n r).2)
theorem zg9 {L:List REn} {lim:Int} {n:Nat} {a:RCk} {P:List RCk} (h:(n:Int)<lim/\a.2.2<=0/\(zaU L a.1).2=0):zcl L lim n (a::P)=zcl L lim (n+1) P:=by
 show (if _ then _ else _)=_
 exact if_pos h
theorem zha {L:List REn} {lim:Int} {n:Nat} {a:RCk} {P:List RCk} (h:¬((n:Int)<lim/\a.2.2<=0/\(zaU L a.1).2=0)):zcl L lim n (a::P)=(a::(zcl L lim n P).1,(zcl L lim n P).2):=by
 show (if _ then _ else _)=_
 exact if_neg h
theorem zd2 {L:List Lg} {lim:Int} {n:Nat} {a:Ck} {P:List Ck} (h:(n:Int)<lim/\a.cnt<=0/\zcq L a.id=false):zaS L lim n (a::P)=zaS L lim (n+1) P:=by
 show (if _ then _ else _)=_
 exact if_pos h
theorem zds {L:List Lg} {lim:Int} {n:Nat} {a:Ck} {P:List Ck} (h:¬((n:Int)<lim/\a.cnt<=0/\zcq L a.id=false)):zaS L lim n (a::P)=(a::(zaS L lim n P).1,(zaS L lim n P).2):=by
 show (if _ then _ else _)=_
 exact if_neg h
theorem zi1 (L:List Lg) (lim:Int):∀ (C:List Ck) (n:Nat),zcl (rL L) lim n (rC C)=(rC (zaS L lim n C).1,(zaS L lim n C).2)
 | [],n=>rfl
 | c::C,n=>by
   have e1:rC (c::C)=(c.id,c.text,c.cnt)::rC C:=rfl
   rw [e1]
   have hp:=(zka L c.id).2
   by_cases h:(n:Int)<lim/\c.cnt<=0/\zcq L c.id=false
   ·rw [zd2 h,zg9 ⟨h.1,h.2.1,hp.2 h.2.2⟩,zi1 L lim C (n+1)]
   ·rw [zds h,zha (λ g=>h ⟨g.1,g.2.1,hp.1 g.2.2⟩),zi1 L lim C n]
    rfl
def zh9 (L:List REn) (lim:Int) (c:RCk) (q:List RCk × Nat):List RCk × Nat:=if (q.2:Int)<lim/\c.2.2<=0/\(zaU L c.1).2=0 then (q.1,q.2+1) else (q.1++[c],q.2)
def zk0 (L:List Lg) (lim:Int) (c:Ck) (q:List Ck × Nat):List Ck × Nat:=if (q.2:Int)<lim/\c.cnt<=0/\zcq L c.id=false then (q.1,q.2+1) else (q.1++[c],q.2)
theorem zk1 (L:List REn) (lim:Int) (c a:RCk) (q:List RCk × Nat):zh9 L lim c (a::q.1,q.2)=(a::(zh9 L lim c q).1,(zh9 L lim c q).2):=by
 unfold zh9
 split <;> rfl
theorem zk2 (L:List Lg) (lim:Int) (c a:Ck) (q:List Ck × Nat):zk0 L lim c (a::q.1,q.2)=(a::(zk0 L lim c q).1,(zk0 L lim c q).2):=by
 unfold zk0
 split <;> rfl
theorem zeV (L:List REn) (lim:Int) (c:RCk):∀ (P:List RCk) (n:Nat),zcl L lim n (P++[c])=zh9 L lim c (zcl L lim n P)
 | [],n=>rfl
 | a::P,n=>by
   rw [List.cons_append]
   by_cases h:(n:Int)<lim/\a.2.2<=0/\(zaU L a.1).2=0
   ·rw [zg9 h,zg9 h,zeV L lim c P (n+1)]
   ·rw [zha h,zha h,zeV L lim c P n,zk1]
theorem zeW (L:List Lg) (lim:Int) (c:Ck):∀ (P:List Ck) (n:Nat),zaS L lim n (P++[c])=zk0 L lim c (zaS L lim n P)
 | [],n=>rfl
 | a::P,n=>by
   rw [List.cons_append]
   by_cases h:(n:Int)<lim/\a.cnt<=0/\zcq L a.id=false
   ·rw [zd2 h,zd2 h,zeW L lim c P (n+1)]
   ·rw [zds h,zds h,zeW L lim c P n,zk2]
theorem zgr (L:List Lg) (lim:Int):∀ (C:List Ck) (n:Nat),lim<=n->zaS L lim n C=(C,n)
 | [],n,_=>rfl
 | c::C,n,h=>by
   rw [zds (by omega),zgr L lim C n h]
theorem zfX (L:List Lg) (lim:Int) (Q:List Ck):∀ (P:List Ck) (n:Nat),zaS L lim n (P++Q)=((zaS L lim n P).1++(zaS L lim (zaS L lim n P).2 Q).1,(zaS L lim (zaS L lim n P).2 Q).2)
 | [],n=>rfl
 | a::P,n=>by
   rw [List.cons_append]
   by_cases h:(n:Int)<lim/\a.cnt<=0/\zcq L a.id=false
   ·rw [zd2 h,zd2 h]
    exact zfX L lim Q P (n+1)
   ·rw [zds h,zds h,zfX L lim Q P n];rfl
theorem zex (L:List Lg) (lim:Int):∀ (C:List Ck) (n:Nat),(zaS L lim n C).1.length+(zaS L lim n C).2=C.length+n
 | [],n=>rfl
 | c::C,n=>by
   by_cases h:(n:Int)<lim/\c.cnt<=0/\zcq L c.id=false
   ·rw [zd2 h,zex L lim C (n+1),zLc];omega
   ·have:=zex L lim C n
    rw [zds h]
    simp only [zLc];omega
theorem zfY (L:List REn) (lim:Int):∀ (C:List RCk) (n:Nat),(zcl L lim n C).1.length+(zcl L lim n C).2=C.length+n
 | [],n=>rfl
 | c::C,n=>by
   by_cases h:(n:Int)<lim/\c.2.2<=0/\(zaU L c.1).2=0
   ·rw [zg9 h,zfY L lim C (n+1),zLc];omega
   ·have:=zfY L lim C n
    rw [zha h]
    simp only [zLc];omega
theorem zfZ (L:List Lg) (lim:Int):∀ (C:List Ck) (n:Nat) (d:Ck),d∈(zaS L lim n C).1->d∈C
 | [],n,d,h=>by cases h
 | c::C,n,d,h=>by
   by_cases hc:(n:Int)<lim/\c.cnt<=0/\zcq L c.id=false
   ·rw [zd2 hc] at h
    exact List.mem_cons_of_mem _ (zfZ L lim C (n+1) d h)
   ·rw [zds hc] at h
    rcases List.mem_cons.1 h with rfl|h
    ·simp
    ·exact List.mem_cons_of_mem _ (zfZ L lim C n d h)
theorem zkb {K R:List Ck} {c:Ck} (h:zpg (K++c::R)):(K++c::R).filter (λ x=>decide (x.id≠c.id))=K++R:=by
 obtain ⟨-,h2,h3⟩:=List.pairwise_append.1 h
 obtain ⟨h4,-⟩:=List.pairwise_cons.1 h2
 rw [List.filter_append,List.filter_cons,if_neg (by simp),List.filter_eq_self.2 λ x hx=>?_,List.filter_eq_self.2 λ x hx=>?_]
 ·simp only [decide_eq_true_eq];exact λ e=>zaW (h4 x hx) e.symm
 ·simp only [decide_eq_true_eq];exact zaW (h3 x hx c (by simp))
theorem zr8.mid {K R C':List Ck} {c:Ck} (hs:zpg (K++c::R)) (h:zr8 c.id (K++c::R) C'):C'=K++R:=by
 obtain ⟨A,B,d,hd,he,rfl⟩:=h
 have h1:=zkb hs
 rw [he] at hs h1
 rw [<-hd,zkb hs] at h1
 exact h1
theorem zmQ (K R:List Ck) (c:Ck):(cpg (K++c::R)).Perm ((c.page,c.text)::cpg (K++R)):=by
 simp only [cpg,List.map_append,List.map_cons]
 exact List.perm_middle
theorem zmR {c:Ck} {C C':List Ck} (hn:cAt C c.id=none) (h:zeC c C C'):((c.page,c.text)::cpg C).Perm (cpg C'):=by
 obtain ⟨A,B,rfl,h',-,-⟩:=h
 rcases h' with rfl|⟨c0,e,rfl⟩
 ·exact (zmQ A B c).symm
 ·exact absurd e (zdA hn c0 (by simp))
variable {bse:List (Int × ByteArray)}
theorem zgs (w1 w:World) (K:Nat->Prop) (sb rb ti tl n m:Nat) (S:RS) (id:ByteArray) (h:CSt w1 w K sb rb ti tl n m S) (hm:m<=3900000) (hi:96<id.size) :
 Calls Tryz.prog 62 #[.pointer (some ⟨sb,0,none⟩),.string id] w λ e w'=>e=.returned (.tuple #[ck0,.bool false,.int .i64 0])/\Hid (CGo w1 w w' K sb rb ti tl n m S):=by
 obtain ⟨w0,hw0⟩:=exE (w.alloc (.cells #[.int .i64 0,.int .i64 0,.int .i64 0] 124))
 have blk:Hid (w0.heap[w.heap.size]?=some (.cells #[.int .i64 0,.int .i64 0,.int .i64 0] 124 (0,0))):=Hd (by
  subst hw0;exact heap_alloc_new _ _)
 have HB0:Hid (Below w.heap.size w w0):=Hd (by subst hw0;exact (zBr w.heap.size w).alloc (zNr _) _)
 have G0:Hid (CGo w1 w0 w0 (λ k=>K k\/k=w.heap.size) sb rb ti tl n m S):=Hd ⟨h.new HB0.out _ (zNr _) (zab blk.out),λ _ _=>rfl⟩
 obtain ⟨c,US⟩:∃ c:Nat,Calls Tryz.prog 53 #[.pointer (some ⟨rb,0,none⟩)] w0 λ e w'=>e=.returned (.tuple #[.int .i64 (c:Int),.int .i64 0])/\Hid (CGo w1 w0 w' (λ k=>K k\/k=w.heap.size) sb rb ti tl n m S):=by
  obtain ⟨G,⟨puts,hp,hr,hrep⟩,-⟩:=G0.out.1.1
  exact ⟨cnt S.used (zaf n),(zrh G rb n puts S w0 hr hrep (by omega)).mono λ e w' h=>⟨h.1,Hd (G0.out.below h.2)⟩⟩
 obtain ⟨s0,s1,s2⟩:=G0.out.1.2.cells
 have HH:=Hd h
 have hi':id.size > 96:=hi
 have hi2:((96:Int)<id.size)=True:=by simp;omega
 clear h hm hi
 go_enter Tryz.func62,Tryz.ntmps62
 go_wp2_with fail
 refine US.mono ?_
 rintro e w2 ⟨rfl,G2⟩
 have hb2:w2.heap[w.heap.size]?=some (.cells #[.int .i64 0,.int .i64 0,.int .i64 0] 124 (0,0)):=(G2.out.2 _ (.inr rfl)).trans blk.out
 obtain ⟨c0,c1,c2⟩:=zjU hb2
 have f0:∀ i,w2.frozen? ⟨w.heap.size,i,none⟩=false:=λ i=>zad hb2 i
 clear hb2 US
 go_wp2_with fail
 refine bodyPost_ret (v:=.tuple #[ck0,.bool false,.int .i64 0]) (by simp [results,Tryz.results62,go_sem,c0,c1,c2,f0,ck0]) rfl ⟨rfl,Hd (HH.out.fin G2.out HB0.out _ _ _)⟩
section
variable {w1 wA w0 w W w' wb:World} {x:Nat} {er:Int} {K:Nat->Prop} {sb rb ti tl n N a m nx:Nat} {C:List Ck} {L:List Lg} {X:List (Nat × ByteArray)} {puts:List (Int × ByteArray)} {S:RS} {o0 o1:Option TT}
theorem zhb {K2:Nat->Prop} (id:ByteArray) (M:zq7 bse w1 w0 w K2 sb rb ti tl n N a C L nx X puts S o0 o1) (hN:a<=N/\N<=1000) (h:CSt w1 W K sb rb ti tl n (300*a) S) :
 ∃ p q c,(∀ d,cAt C id=some d->p=(d.page:Int)/\q=(d.text.size:Int)/\c=d.cnt)/\Calls Tryz.prog 62 #[.pointer (some ⟨sb,0,none⟩),.string id] W λ e w'=>e=.returned (.tuple #[.agg #[.int .i64 p,.int .i64 q,.int .i64 c],.bool (cAt C id).isSome,.int .i64 0])/\Hid (CGo w1 W w' K sb rb ti tl n (300*a) S):=by
 cases hf:cAt C id with
 | none =>
   refine ⟨0,0,0,λ d e=>(by cases e),?_⟩
   by_cases hi:id.size<=96
   ·exact zjV w1 W K sb rb ti tl n (300*a) S o0 C id h (Hd ⟨M.two.t0,M.c,M.two.hgt0 (by omega)⟩) (by omega) hi hf
   ·exact zgs w1 W K sb rb ti tl n (300*a) S id h (by omega) (by omega)
 | some c =>
   have hid:id.size=33:=by
    obtain ⟨h1,h2⟩:=zaQ hf
    rw [<-h2];exact (M.c.ok c h1).id
   exact ⟨_,_,_,λ d e=>(by cases e;exact ⟨rfl,rfl,rfl⟩),zh2 w1 W K sb rb ti tl n (300*a) S o0 C id h (Hd ⟨M.two.t0,M.c,M.two.hgt0 (by omega)⟩) (by omega) (by omega) c hf⟩
structure ChS (w1 wA:World) (x:Nat) (er:Int) (w:World) (K:Nat->Prop) (sb rb ti tl n m:Nat) (S:RS):Prop where
 st:CSt w1 w (λ k=>K k\/k=x) sb rb ti tl n m S
 kp:zbX K wA w
 bx:w.heap[x]?=some (.cells #[.int .i64 er] 34 (0,0))
 lo:w1.heap.size<=x
 ne:x≠sb/\x≠ti/\x≠tl
 nk:¬K x
theorem ChS.start (E:ChE bse w1 w x er wb K sb rb ti tl n N a C L nx X) (M:zq7 bse w1 wb wb (λ k=>K k\/k=x) sb rb ti tl n N a C L nx X puts S o0 o1):ChS w1 w x er wb K sb rb ti tl n (300*a) S :=
 ⟨M.go.1,E.kp,E.bx,E.lo.1,E.ne,E.nk⟩
theorem ChS.step (h:ChS w1 wA x er w K sb rb ti tl n m S) (g:CGo w1 w w' (λ k=>K k\/k=x) sb rb ti tl n m S):ChS w1 wA x er w' K sb rb ti tl n m S :=
 ⟨g.1,h.kp.trans (g.2.mono λ k hk=>.inl hk),(g.2 x (.inr rfl)).trans h.bx,h.lo,h.ne,h.nk⟩
theorem ChS.below (h:ChS w1 wA x er w K sb rb ti tl n m S) (hb:Below w.heap.size w w'):ChS w1 wA x er w' K sb rb ti tl n m S:=h.step ⟨h.st.below hb,h.st.keep hb⟩
theorem ChS.set (h:ChS w1 wA x er w K sb rb ti tl n m S) (e2:Int):ChS w1 wA x e2 (w.setCell ⟨x,0,none⟩ (.int .i64 e2)) K sb rb ti tl n m S:=by
 refine ⟨h.st.set (.inr rfl) h.lo h.ne 0 _,λ k hk=>?_,zac h.bx _,h.lo,h.ne,h.nk⟩
 have hne:k≠x:=λ e=>h.nk (by rw [<-e];exact hk)
 rw [zae _ hne,h.kp k hk]
theorem ChS.cell (h:ChS w1 wA x er w K sb rb ti tl n m S):w.cell? ⟨x,0,none⟩=some (.int .i64 er)/\w.frozen? ⟨x,0,none⟩=false/\x<w.heap.size:=⟨zaa h.bx rfl,zad h.bx 0,zab h.bx⟩
theorem ChS.back (h:ChS w1 wA x er W K sb rb ti tl n m S) (hm:m<=4000000) (M:zq7 bse w1 wb wb (λ k=>K k\/k=x) sb rb ti tl n N a C L nx X puts S o0 o1) (h0:zbX K w0 wA) :
 Calls Tryz.prog 77 #[.pointer (some ⟨sb,0,none⟩),.int .i64 (puts.length:Int)] W λ e w'=>e=.returned (.tuple #[])/\Hid (w'.cell? ⟨x,0,none⟩=some (.int .i64 er)/\Chs bse w1 w0 w' K sb rb ti tl n N a C L nx X):=by
 refine (zpl (w0:=W) ⟨h.st,λ _ _=>rfl⟩ hm M.base M.rep M.len).mono ?_
 rintro e w' ⟨rfl,hE⟩
 refine ⟨rfl,Hd ⟨zaa ((hE.out.2 x (.inr rfl)).trans h.bx) rfl,?_⟩⟩
 have h1:=(M.chs hE.out).mono (K':=K) λ k hk=>.inl hk
 exact h1.to (h0.trans h.kp)
end
section
variable (w1 w w0:World) (K:Nat->Prop) (sb rb ti tl n N a nx:Nat) (C:List Ck) (L:List Lg) (X:List (Nat × ByteArray))
theorem zmS (id:ByteArray) (by_ er:Int) (h:Hid (Chs bse w1 w0 w K sb rb ti tl n N a C L nx X)) (hN:a<=N/\N<=1000) (hc:((by_≠1/\by_≠-1)/\er=1)\/((by_=1\/by_=-1)/\cAt C id=none/\er=6)) :
 Calls Tryz.prog 19 #[.pointer (some ⟨sb,0,none⟩),.string id,.int .i64 by_] w λ e w'=>e=.returned (.int .i64 er)/\Hid (Chs bse w1 w0 w' K sb rb ti tl n N a C L nx X):=by
 obtain ⟨x,hx⟩:=exE (w.heap.size)
 obtain ⟨wb,hwb⟩:=exE (w.alloc (.cells #[.int .i64 0] 34))
 have E0:Hid (ChE bse w1 w x 0 wb K sb rb ti tl n N a C L nx X):=Hd (by subst hx hwb;exact ChE.start h.out)
 obtain ⟨puts,S,o0,o1,M,MK⟩:=E0.out.st.mark
 have S0:=Hd (ChS.start E0.out M)
 obtain ⟨p,q,c,-,FA⟩:=zhb id M hN S0.out.st
 have HM:=Hd M
 have H0:=Hd h.out.kept
 have HN:=Hd hN
 have BK:Hid (∀ W er,ChS w1 w x er W K sb rb ti tl n (300*a) S->_):=Hd λ W er hW=>hW.back (by omega) M h.out.kept
 obtain ⟨pl,hpl⟩:∃ pl:Int,(puts.length:Int)=pl:=⟨_,rfl⟩
 rw [hpl] at MK BK
 clear h hN M E0 hpl
 rcases hc with ⟨⟨n1,n2⟩,rfl⟩|⟨hc,hf,rfl⟩
 ·have d1:(by_ != 1)=true:=by simpa using n1
  have d2:(by_ != -1)=true:=by simpa using n2
  clear n1 n2
  go_enter_defers Tryz.func19,Tryz.ntmps19
  go_wp2_with fail
  subst hx
  refine MK.mono ?_
  rintro e wm ⟨rfl,rfl⟩
  go_wp2_with fail
  refine FA.mono ?_
  rintro e w2 ⟨rfl,G2⟩
  have E2:=Hd (S0.out.step G2.out)
  obtain ⟨cx,fx,lx⟩:=E2.out.cell
  have E3:=Hd λ o=>((E2.out.set 0).set 1).below ((zBr _ _).alloc (zNr _) o)
  have hfin:=λ o=>(E3.out o).cell.1
  have B3:=λ o=>BK.out _ _ (E3.out o)
  clear FA MK G2 BK
  go_wp2_with fail
  refine leaves_cons (f:=60) (args:=#[.pointer (some ⟨sb,0,none⟩),.int .i64 pl,.pointer (some ⟨w.heap.size,0,none⟩)]) (by simp) (by simp [go_sem]) ?_
  refine (zbb _ _ _ _ _ (hfin _) (by decide) (B3 _)).mono ?_
  rintro e u' w9 ⟨rfl,rfl,HQ⟩
  have hq:=HQ.out.1
  have HG:=Hd HQ.out.2
  simp [Leaves,settle,results,Tryz.results19,go_sem,hq]
  exact HG
 ·rw [hf] at FA
  clear hf
  rcases hc with rfl|rfl
  all_goals (
   go_enter_defers Tryz.func19,Tryz.ntmps19
   go_wp2_with fail
   subst hx
   refine MK.mono ?_
   rintro e wm ⟨rfl,rfl⟩
   go_wp2_with fail
   refine FA.mono ?_
   rintro e w2 ⟨rfl,G2⟩
   have E2:=Hd (S0.out.step G2.out)
   obtain ⟨cx,fx,lx⟩:=E2.out.cell
   have E3:=Hd λ o=>((E2.out.set 0).set 6).below ((zBr _ _).alloc (zNr _) o)
   have hfin:=λ o=>(E3.out o).cell.1
   have B3:=λ o=>BK.out _ _ (E3.out o)
   clear FA MK G2 BK
   go_wp2_with fail
   refine leaves_cons (f:=60) (args:=#[.pointer (some ⟨sb,0,none⟩),.int .i64 pl,.pointer (some ⟨w.heap.size,0,none⟩)]) (by simp) (by simp [go_sem]) ?_
   refine (zbb _ _ _ _ _ (hfin _) (by decide) (B3 _)).mono ?_
   rintro e u' w9 ⟨rfl,rfl,HQ⟩
   have hq:=HQ.out.1
   have HG:=Hd HQ.out.2
   simp [Leaves,settle,results,Tryz.results19,go_sem,hq]
   exact HG)
theorem zmT (id:ByteArray) (by_ er:Int) (h:Hid (Chs bse w1 w0 w K sb rb ti tl n N a C L nx X)) (hN:a<=N/\N<=1000) (hc:((by_≠1/\by_≠-1)/\er=1)\/((by_=1\/by_=-1)/\cAt C id=none/\er=6)) :
 Calls Tryz.prog 96 #[.pointer (some ⟨sb,0,none⟩),.string id,.int .i64 by_] w λ e w'=>e=.returned (.int .i64 er)/\Hid (Chs bse w1 w0 w' K sb rb ti tl n N a C L nx X):=by
 obtain ⟨x,hx⟩:=exE (w.heap.size)
 obtain ⟨wb,hwb⟩:=exE (w.alloc (.cells #[.int .i64 0] 34))
 have E0:Hid (ChE bse w1 w x 0 wb K sb rb ti tl n N a C L nx X):=Hd (by subst hx hwb;exact ChE.start h.out)
 obtain ⟨puts,S,o0,o1,M,MK⟩:=E0.out.st.mark
 have S0:=Hd (ChS.start E0.out M)
 obtain ⟨p,q,c,-,FA⟩:=zhb id M hN S0.out.st
 have HM:=Hd M
 have H0:=Hd h.out.kept
 have HN:=Hd hN
 have BK:Hid (∀ W er,ChS w1 w x er W K sb rb ti tl n (300*a) S->_):=Hd λ W er hW=>hW.back (by omega) M h.out.kept
 obtain ⟨pl,hpl⟩:∃ pl:Int,(puts.length:Int)=pl:=⟨_,rfl⟩
 rw [hpl] at MK BK
 clear h hN M E0 hpl
 rcases hc with ⟨⟨n1,n2⟩,rfl⟩|⟨hc,hf,rfl⟩
 ·have d1:(by_ != 1)=true:=by simpa using n1
  have d2:(by_ != -1)=true:=by simpa using n2
  clear n1 n2
  go_enter_defers Tryz.func96,Tryz.ntmps96
  go_wp2_with fail
  subst hx
  refine MK.mono ?_
  rintro e wm ⟨rfl,rfl⟩
  go_wp2_with fail
  refine FA.mono ?_
  rintro e w2 ⟨rfl,G2⟩
  have E2:=Hd (S0.out.step G2.out)
  obtain ⟨cx,fx,lx⟩:=E2.out.cell
  have E3:=Hd λ o=>((E2.out.set 0).set 1).below ((zBr _ _).alloc (zNr _) o)
  have hfin:=λ o=>(E3.out o).cell.1
  have B3:=λ o=>BK.out _ _ (E3.out o)
  clear FA MK G2 BK
  go_wp2_with fail
  refine leaves_cons (f:=60) (args:=#[.pointer (some ⟨sb,0,none⟩),.int .i64 pl,.pointer (some ⟨w.heap.size,0,none⟩)]) (by simp) (by simp [go_sem]) ?_
  refine (zbb _ _ _ _ _ (hfin _) (by decide) (B3 _)).mono ?_
  rintro e u' w9 ⟨rfl,rfl,HQ⟩
  have hq:=HQ.out.1
  have HG:=Hd HQ.out.2
  simp [Leaves,settle,results,Tryz.results96,go_sem,hq]
  exact HG
 ·rw [hf] at FA
  clear hf
  rcases hc with rfl|rfl
  all_goals (
   go_enter_defers Tryz.func96,Tryz.ntmps96
   go_wp2_with fail
   subst hx
   refine MK.mono ?_
   rintro e wm ⟨rfl,rfl⟩
   go_wp2_with fail
   refine FA.mono ?_
   rintro e w2 ⟨rfl,G2⟩
   have E2:=Hd (S0.out.step G2.out)
   obtain ⟨cx,fx,lx⟩:=E2.out.cell
   have E3:=Hd λ o=>((E2.out.set 0).set 6).below ((zBr _ _).alloc (zNr _) o)
   have hfin:=λ o=>(E3.out o).cell.1
   have B3:=λ o=>BK.out _ _ (E3.out o)
   clear FA MK G2 BK
   go_wp2_with fail
   refine leaves_cons (f:=60) (args:=#[.pointer (some ⟨sb,0,none⟩),.int .i64 pl,.pointer (some ⟨w.heap.size,0,none⟩)]) (by simp) (by simp [go_sem]) ?_
   refine (zbb _ _ _ _ _ (hfin _) (by decide) (B3 _)).mono ?_
   rintro e u' w9 ⟨rfl,rfl,HQ⟩
   have hq:=HQ.out.1
   have HG:=Hd HQ.out.2
   simp [Leaves,settle,results,Tryz.results96,go_sem,hq]
   exact HG)
end
variable {bse:List (Int × ByteArray)}
theorem zsl (G:Nat->Prop) (rb n m:Nat) (S:RS) (p:Nat) (s:ByteArray) (w:World) (h:RmS w G rb n m S) (hm:m<=3900000) (hs:s.size<=128) (hu:S.used p=true) (hc:S.cont p=pad (pgB s)) :
 Calls Tryz.prog 103 #[.pointer (some ⟨rb,0,none⟩),.int .i64 (p:Int)] w λ e w'=>e=.returned (.int .i64 0)/\Hid (zb1 w w' G rb n (m+1) (frS S p)):=by
 have WK:=zpc G rb n m S p s w h (by omega) hs hu hc
 have FR:Hid (∀ W,Below w.heap.size w W->Calls Tryz.prog 132 #[.pointer (some ⟨rb,0,none⟩),.int .i64 (p:Int)] W λ e w'=>e=.returned (.int .i64 0)/\Hid (zb1 w w' G rb n (m+1) (frS S p))):=Hd λ W hW=>by
  obtain ⟨puts,h1,h2,h3⟩:=h
  refine (zoZ G rb n puts S p W (h2.below hW) h3 (by omega) hu).mono ?_
  rintro e w' ⟨rfl,hg⟩
  exact ⟨rfl,Hd ((zb1.of_room hg.out h1).below_left hW)⟩
 clear h hm hs hu hc
 go_enter Tryz.func103,Tryz.ntmps103
 go_wp2_with fail
 refine WK.mono ?_
 rintro e w1 ⟨v,rfl,H1⟩
 obtain ⟨g,vc,rfl,hcell⟩:∃ g c,v=.slice (some ⟨g,0,none⟩) 1 c/\w1.cell? ⟨g,0,none⟩=some (.int .i64 (p:Int)):=by
  have hr:=H1.out.1
  rcases hr.2 with ⟨e,h0⟩|⟨g,cap,cur,e,hb,hg,-⟩
  ·cases h0
  ·subst e
   exact ⟨g,cap,rfl,(hr.cellAt 0 (by simp)).trans rfl⟩
 have F1:=FR.out w1 H1.out.2
 clear WK FR H1
 go_wp2_with fail
 refine wp_loop_rounds 2 ?_
 rw [rounds_succ]
 go_wp2_with fail
 refine F1.mono ?_
 rintro e w2 ⟨rfl,H2⟩
 clear F1
 go_wp2_with fail
 rw [rounds_succ]
 go_wp2_with fail
 go_ret
 exact ⟨rfl,H2⟩
theorem zcV.drop {S:RS} {n c a0 a1 p:Nat} {o0 o1:Option TT} {s:ByteArray} {X:List (Nat × ByteArray)} (h:zcV S n c o0 o1 a0 a1 ((p,s)::X)):zcV (frS S p) n c o0 o1 a0 a1 X:=by
 have hp:=h.pg (p,s) (by simp)
 obtain ⟨q1,q2,q3,q4⟩:=h.parts
 have n0:=q2 (p,s) (by simp)
 have n1:=q4 (p,s) (by simp)
 obtain ⟨d1,d2,d3⟩:=List.nodup_append.1 h.nd
 obtain ⟨d4,d5,d6⟩:=List.nodup_append.1 d2
 rw [List.map_cons] at d5
 obtain ⟨d7,d8⟩:=List.nodup_cons.1 d5
 have ku:∀ q,q≠p->(frS S p).used q=S.used q/\(frS S p).cont q=S.cont q:=λ q hq=>⟨by show zbn S.used p q=_;unfold zbn;rw [if_neg hq],rfl⟩
 refine ⟨h.t0.keep rfl λ q hq=>ku q λ e=>n0 (e ▸ hq),h.t1.keep rfl λ q hq=>ku q λ e=>n1 (e ▸ hq),h.sp.freeS hp.1,h.w0,h.w1,λ x hx=>?_,List.nodup_append.2 ⟨d1,List.nodup_append.2 ⟨d4,d8,λ a ha b hb=>d6 a ha b (by simp [hb])⟩,λ a ha b hb=>d3 a ha b ?_⟩,λ q hq=>?_⟩
 ·have hx':=h.pg x (by simp [hx])
  have hne:x.1≠p:=λ e=>d7 (List.mem_map.2 ⟨x,hx,e⟩)
  exact ⟨(ku _ hne).1.trans hx'.1,(ku _ hne).2.trans hx'.2⟩
 ·rcases List.mem_append.1 hb with hb|hb
  ·exact List.mem_append_left _ hb
  ·exact List.mem_append_right _ (by rw [List.map_cons];exact List.mem_cons_of_mem _ hb)
 ·have hq':zbn S.used p q=true:=hq
  unfold zbn at hq'
  by_cases e:q=p
  ·rw [if_pos e,e,hp.1] at hq';cases hq'
  ·rw [if_neg e] at hq'
   have:=h.al q hq'
   simp only [List.mem_append,List.map_cons,List.mem_cons] at this ⊢
   rcases this with h1|h1|h1|h1
   ·exact .inl h1
   ·exact .inr (.inl h1)
   ·exact absurd h1 e
   ·exact .inr (.inr h1)
section
variable (w1 w w0:World) (K:Nat->Prop) (sb rb ti tl n N a nx:Nat) (C:List Ck) (L:List Lg) (X:List (Nat × ByteArray))
theorem Chs.perm {w1 w w0:World} {K:Nat->Prop} {sb rb ti tl n N a nx:Nat} {C:List Ck} {L:List Lg} {X Y:List (Nat × ByteArray)} (h:Chs bse w1 w0 w K sb rb ti tl n N a C L nx X) (hp:X.Perm Y):Chs bse w1 w0 w K sb rb ti tl n N a C L nx Y:=by
 obtain ⟨S,o0,o1,h1,h2,h3⟩:=h
 exact ⟨S,o0,o1,h1,h2.perm hp,h3⟩
theorem zmU (p:Nat) (s:ByteArray) (hs:s.size<=128) (h:Hid (Chs bse w1 w0 w K sb rb ti tl n N a C L nx ((p,s)::X))) (hN:a<N/\N<=1000) :
 Calls Tryz.prog 103 #[.pointer (some ⟨rb,0,none⟩),.int .i64 (p:Int)] w λ e w'=>e=.returned (.int .i64 0)/\Hid (Chs bse w1 w0 w' K sb rb ti tl n N (a+1) C L nx X):=by
 obtain ⟨S,o0,o1,h1,h2,h3,h4,h5,h6,h7⟩:=h.out
 have hs0:=zjW (N:=N) (Nat.le_succ a)
 obtain ⟨G,x1,x2,x3,x4⟩:=h1.1.1
 have hp:=h2.pg (p,s) (by simp)
 refine (zsl G rb n (300*a) S p s w x1 (by omega) hs hp.1 hp.2).mono ?_
 rintro e w' ⟨rfl,hE⟩
 have hg:=RSt.of x2 x3 x4 hE.out
 have hh:=h1.1.of hg.1 hg.2
 exact ⟨rfl,Hd ⟨frS S p,o0,o1,⟨hh.1.more (by omega),h1.2.trans hh.2⟩,h2.drop.less (by omega) (by omega) (by omega),h3,h4,h5,by omega,h7⟩⟩
theorem zqK (id:ByteArray) (c:Ck) (h:Hid (Chs bse w1 w0 w K sb rb ti tl n N a C L nx X)) (hN:a<N/\N<=1000) (hf:cAt C id=some c) :
 Calls Tryz.prog 74 #[.pointer (some ⟨ti,0,none⟩),.string id] w λ e' w'=>e'=.returned (.tuple #[.bool true,.int .i64 0])/\Hid (∃ C',Chs bse w1 w0 w' K sb rb ti tl n N (a+1) C' L nx X/\zr8 id C C'):=by
 obtain ⟨S,o0,o1,h1,h2,h3,h4,h5,h6,h7⟩:=h.out
 have hs0:=zjW (N:=N) (Nat.le_succ a)
 obtain ⟨hm,hid⟩:=zaQ hf
 have hh:=zcU (k:=10) h2.t0 h2.w0 (by omega)
 refine (zrX w1 w _ ti rb 0 n (300*a) S o0 id h1.1.1 h1.1.2.2.1 (.inr (.inr (.inl rfl))) h2.t0 (by decide) (by omega) (by omega)).mono ?_
 rintro e' w' ⟨was,rfl,hE⟩
 obtain ⟨S',o',x1,x2,g1⟩:=hE.out
 rcases g1 with ⟨rfl,g1,g2,g3,g4,g5,g6⟩|⟨rfl,-,-,g3⟩
 ·have hg:=h1.1.of x1 x2
  have hr:S'.root 2=S.root 2:=g1.frm.root 2 (by decide)
  obtain ⟨C',y1,y2⟩:=h3.del g2
  refine ⟨rfl,Hd ⟨C',⟨S',o',o1,⟨hg.1.more (by omega),h1.2.trans hg.2⟩,(h2.go0 (c':=spc N (a+1)) (b0:=a+1) g1 (g4 _ (h2.sp.less (by omega))) (by have:=h2.w0;omega)).less (zNr _) (zNr _) (by omega),y1,h4,hr.trans h5,by omega,g1.frm.base.trans h7⟩,y2⟩⟩
 ·exact absurd hid (g3 (zil c) (by rw [h3.eq];exact List.mem_map.2 ⟨c,hm,rfl⟩))
end
def zaB (w:World) (v:Value) (n sz:Nat) (xs:List Value):Prop :=
 ∃ a cap,v=.slice a n cap/\xs.length=n*sz/\n<=cap/\(a=none->n=0)/\∀ ad,a=some ad->∃ b off,ad=⟨b,off,none⟩/\b<w.heap.size/\∀ j u,xs[j]?=some u->w.cell? ⟨b,off+j,none⟩=some u
theorem zbk (g o j:Nat):(⟨g,o,none⟩:Addr).add j=⟨g,o+j,none⟩:=by unfold Addr.add;split <;> simp_all
theorem zaB.below {w w':World} {v:Value} {n sz:Nat} {xs:List Value} (h:zaB w v n sz xs) (hb:Below w.heap.size w w'):zaB w' v n sz xs:=by
 obtain ⟨a,cap,rfl,hl,hc,h0,h1⟩:=h
 refine ⟨a,cap,rfl,hl,hc,h0,λ ad e=>?_⟩
 obtain ⟨b,off,e1,h2,h3⟩:=h1 ad e
 exact ⟨b,off,e1,Nat.lt_of_lt_of_le h2 hb.size,λ j u hu=>(hb.cell (p:=⟨b,off+j,none⟩) h2).trans (h3 j u hu)⟩
theorem zaB.nil (w:World) (sz:Nat):zaB w (.slice none 0 0) 0 sz []:=⟨none,0,rfl,by simp,zNr _,λ _=>rfl,λ ad e=>by cases e⟩
theorem zaB.own {w:World} {base n sz:Nat} {e:TypeId} {v:Value} {xs:List Value} (h:w.ownsRow base e sz v n xs):zaB w v n sz xs:=by
 have hl:=h.1
 rcases h.2 with ⟨rfl,rfl⟩|⟨g,cap,cur,rfl,h1,h2,h3,-⟩
 ·refine ⟨none,0,rfl,hl,zNr _,λ _=>rfl,λ ad e=>by cases e⟩
 ·refine ⟨some ⟨g,0,none⟩,cap,rfl,hl,h3,λ e=>(by cases e),λ ad e=>?_⟩
  cases e
  refine ⟨g,0,rfl,(h.lt g rfl).2,λ j u hu=>?_⟩
  have:=h.cells rfl j u hu
  rwa [zbk] at this
theorem zaB.yields {w:World} {v:Value} {n sz:Nat} {xs:List Value} (h:zaB w v n sz xs):zbV w v n xs:=by
 obtain ⟨a,cap,rfl,hl,hc,h0,h1⟩:=h
 refine ⟨a,cap,rfl,h0,λ ad e j u hu=>?_⟩
 obtain ⟨b,off,rfl,h2,h3⟩:=h1 ad e
 rw [zbk]
 exact h3 j u hu
theorem zaB.form {w:World} {v:Value} {n sz:Nat} {xs:List Value} (h:zaB w v n sz xs):∃ a cap,v=.slice a n cap/\n<=cap:=by
 obtain ⟨a,cap,rfl,_,hc,_⟩:=h;exact ⟨a,cap,rfl,hc⟩
theorem zaB.get {w:World} {a:Option Addr} {n m cap sz:Nat} {xs:List Value} (h:zaB w (.slice a m cap) n sz xs) {j:Nat} {u:Value} (hu:xs[j]?=some u):∃ b off,a=some ⟨b,off,none⟩/\b<w.heap.size/\∀ j u,xs[j]?=some u->w.cell? ⟨b,off+j,none⟩=some u:=by
 obtain ⟨a',cap',e,hl,hc,h0,h1⟩:=h
 cases e
 cases a with
 | none =>
   obtain rfl:=h0 rfl
   rw [Nat.zero_mul] at hl
   rw [List.length_eq_zero_iff.1 hl] at hu
   cases hu
 | some ad =>
   obtain ⟨b,off,e1,h2,h3⟩:=h1 ad rfl
   exact ⟨b,off,by rw [e1],h2,h3⟩
theorem zaB.part {w:World} {b off n cap:Nat} {xs:List Value} (h:zaB w (.slice (some ⟨b,off,none⟩) n cap) n 1 xs) (lo k c:Nat) (hk:lo+k<=n) (hc:k<=c):zaB w (.slice (some ⟨b,off+lo,none⟩) k c) k 1 ((xs.drop lo).take k):=by
 obtain ⟨a',cap',e,hl,hc',h0,h1⟩:=h
 cases e
 obtain ⟨b',off',e1,h2,h3⟩:=h1 _ rfl
 cases e1
 refine ⟨_,_,rfl,by rw [List.length_take,List.length_drop];omega,hc,λ e=>(by cases e),λ ad e=>?_⟩
 cases e
 refine ⟨b,off+lo,rfl,h2,λ j u hu=>?_⟩
 rw [Nat.add_assoc]
 refine h3 (lo+j) u ?_
 rw [List.getElem?_take] at hu
 split at hu
 ·rwa [List.getElem?_drop] at hu
 ·cases hu
def zb8 (l:List Nat):List Value:=l.map λ (x:Nat)=>Value.int .u64 (x:Int)
theorem zbf {l:List Nat} {i:Nat} (h:i<l.length):(zb8 l)[i]?=some (.int .u64 (l.getD i 0:Nat)):=by
 unfold zb8 List.getD
 rw [List.getElem?_map,List.getElem?_eq_getElem h];rfl
theorem zhc (l:List Nat):(zb8 l).length=l.length:=by unfold zb8;simp
theorem zia (l:List Nat) (x:Nat):zb8 (l++[x])=zb8 l++[.int .u64 (x:Int)]:=by simp [zb8]
theorem za0 {w w':World} {base:Nat} {e:TypeId} {s:Nat} {v:Value} {n:Nat} {xs:List Value} (h:w.ownsRow base e s v n xs) (hk:∀ k,v.ownBlock=some k->w'.heap[k]?=w.heap[k]?):w'.ownsRow base e s v n xs:=by
 refine ⟨h.1,?_⟩
 rcases h.2 with hn|⟨g,cap,cur,rfl,hb,hgg,rest⟩
 ·exact .inl hn
 ·exact .inr ⟨g,cap,cur,rfl,hb,(hk g rfl).trans hgg,rest⟩
theorem zbJ (x:Int) (h0:0<=x) (h1:x<18446744073709551616):IntKind.u64.wrap x=x:=by
 simp [IntKind.wrap,IntKind.bits,IntKind.signed]
 omega
end Go.Proofs.YtdcjhpafipbpkaaGreatDoor
