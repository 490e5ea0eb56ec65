/- Parts of ChunksFull. No condition. -/
import Derived.Test.YtdcjhpafipbpkaaGreatDoorCf9
set_option maxRecDepth 100000
set_option maxHeartbeats 8000000
set_option linter.unusedSimpArgs false
set_option linter.unusedVariables false
set_option linter.unusedSectionVars false
namespace Go.Proofs.YtdcjhpafipbpkaaGreatDoor
open Go.RowKit
variable {bse:List (Int × ByteArray)}
section
variable (O w w0:World) (K:Nat->Prop) (H I J M n N a X:Nat) (C:List Ck) (L:List Lg)
theorem znl (lm:Int) (h:Hid (Chs bse O w0 w K H I J M n N a C L X (cpg C))) (hN:a+2*C.length<=N/\N<=1000) (hL:L.length<=100000) :
 Calls Tryz.prog 48 #[.pointer (some ⟨H,0,none⟩),.int .i64 lm] w λ e A=>e=.returned (.tuple #[.int .i64 ((zaS L lm 0 C).2:Int),.int .i64 0])/\Hid (Chs bse O w0 A K H I J M n N (a+2*(zaS L lm 0 C).2) (zaS L lm 0 C).1 L X (cpg (zaS L lm 0 C).1)):=by
 obtain ⟨x,hx⟩:=exE (w.heap.size)
 obtain ⟨wb,hwb⟩:=exE (w.alloc (.cells #[.int .i64 0] 34))
 have E0:Hid (ChE bse O w x 0 wb K H I J M n N a C L X (cpg C)):=Hd (by subst hx hwb;exact ChE.start h.out)
 obtain ⟨k,MK⟩:=zmz O wb wb _ H I J M n N a X C L (cpg C) (Hd E0.out.st)
 have AL:=zsk O wb wb _ H I J M n N a X C L (cpg C) (Hd E0.out.st) ⟨by omega,hN.2⟩ (by omega)
 have HN:=Hd hN
 have HL:=Hd hL
 have HH:=Hd h.out
 have hmm:=@run_makeMap Tryz.prog
 clear h hN hL
 go_enter_defers Tryz.func48,Tryz.ntmps48
 go_wp2_with fail
 subst hx
 refine MK.mono ?_
 rintro e wm ⟨rfl,rfl⟩
 go_wp2_with fail
 refine AL.mono ?_
 rintro e w2 ⟨v,rfl,H2⟩
 obtain ⟨va,vc,hv⟩:∃ va vc,v=.slice va C.length vc:=by
  rcases H2.out.1.2 with ⟨rfl,h0⟩|⟨g,cap,cur,rfl,-⟩
  ·exact ⟨_,_,by rw [h0]⟩
  ·exact ⟨_,_,rfl⟩
 subst hv
 have E2:=Hd (ChE.rowA E0.out H2.out)
 have E3:=Hd (E2.out.set 0)
 obtain ⟨cx,fx,lx⟩:=E2.out.cell
 have cx3:=E3.out.cell.1
 have FA:=zfQ O _ _ _ H I J M n N a X C L (cpg C) (Hd E3.out.st) ⟨by have:=HN.out;omega,HN.out.2⟩ (by have:=HL.out;omega)
 clear AL MK
 go_wp2_with fail
 refine FA.mono ?_
 rintro e Z ⟨vwa,vwc,rfl,HS⟩
 have R0:=Hd (zcI.start O w w0 K H I J M n N a X C L HH.out E0.out H2.out HS.out)
 have E4:=Hd (ChE.row O w2 (λ k=>K k\/(Value.slice va C.length vc).ownBlock=some k) H I J M n N a X C L (cpg C) E3.out HS.out)
 clear FA cx fx lx cx3
 obtain ⟨cx,fx,lx⟩:=E4.out.cell
 have cx4:=(E4.out.set 0).cell.1
 clear E4 E3 E2 H2 HS
 have R1:Hid (∃ Q,zhi (L.take 0) Q/\zcI bse O w w.heap.size Z.heap.size (.slice va C.length vc) (.slice vwa L.length vwc) C L Q K H I J M n N a C L X (cpg C) ((Z.setCell ⟨w.heap.size,0,none⟩ (.int .i64 0)).alloc (.map #[] 0))):=Hd ⟨[],zhi.nil,R0.out⟩
 clear R0
 obtain ⟨r,hr⟩:=exE (Z.heap.size)
 rw [hr] at R1
 go_wp2_with fail
 go_loopg [38] L.length (λ g s38 wr=>∃ (i:Nat),g=L.length-i/\i<=L.length/\s38=.int .i64 (i:Int)/\Hid (∃ Q,zhi (L.take i) Q/\zcI bse O w w.heap.size r (.slice va C.length vc) (.slice vwa L.length vwc) C L Q K H I J M n N a C L X (cpg C) wr))
 case atStart=>exact ⟨0,rfl,zNz _,rfl,R1⟩
 case round =>
  obtain ⟨i,rfl,hi,rfl,HR⟩:=hrel
  clear R1 cx fx lx cx4 hr
  by_cases hlt:i<L.length
  ·obtain ⟨Q,hQ,HI⟩:=HR.out
   obtain ⟨g,rfl⟩:∃ g,vwa=some ⟨g,0,none⟩:=by
    rcases HI.rowW.2 with ⟨e,h0⟩|⟨g,cap,cur,e,-⟩
    ·omega
    ·cases e;exact ⟨g,rfl⟩
   obtain ⟨e0,e1,e2⟩:=zg6 L i hlt
   have c0:=(HI.rowW.cellAt (i*3) (by omega)).trans e0
   have c1:=(HI.rowW.cellAt (i*3+1) (by omega)).trans e1
   have c2:=(HI.rowW.cellAt (i*3+2) (by omega)).trans e2
   obtain ⟨w3,hup,hm3,hu3⟩:=zcN (P:=Tryz.prog) (HI.map.alloc (.cells #[.string (zbY L[i].n),.string L[i].id,.int .i64 L[i].by] 146)) Tryz.underlying66 Tryz.underlying9 L[i].id true
   have HNX:Hid (∃ Q,zhi (L.take (i+1)) Q/\zcI bse O w w.heap.size r (.slice va C.length vc) (.slice (some ⟨g,0,none⟩) L.length vwc) C L Q K H I J M n N a C L X (cpg C) w3):=Hd ⟨_,by rw [zTs hlt];exact hQ.put L[i],(HI.below ((zBr _ _).alloc (zNr _) _)).upd hu3 hm3⟩
   have HLT:=Hd hlt
   have hsm:L.length<=100000:=HL.out
   rw [show zq9.enc L[i].id=.string L[i].id from rfl,show Value.bool true=.bool true from rfl] at hup
   clear HI hQ e0 e1 e2 hm3 hu3 HR
   generalize L[i].by=by_ at *
   generalize zbY L[i].n=ky at *
   generalize L[i].id=id at *
   go_wp2_with fail
   go_roundg (L.length-(i+1))
   case measure=>have:=HLT.out;omega
   case rel=>exact ⟨i+1,rfl,HLT.out,by congr 1,HNX⟩
  ·obtain rfl:i=L.length:=by omega
   obtain ⟨Q,hQ,HI⟩:=HR.out
   rw [List.take_length] at hQ
   have HQ:=Hd hQ
   have z0:=zoP L lm C
   have R2:Hid (zcI bse O w w.heap.size r (.slice va C.length vc) (.slice vwa L.length vwc) C L Q K H I J M n N (a+2*zd7 L lm C 0) (zfj L lm C 0) L X (cpg (zfj L lm C 0)) wr):=Hd (by rw [z0.1,z0.2];exact HI)
   have hz0:((zd7 L lm C 0:Nat):Int)=0:=by rw [z0.2];rfl
   have HZ:=Hd hz0
   clear hQ HI z0 hz0 HR hlt hi
   go_wp2_with fail
   go_loopg [4,48] C.length (λ g s4 s48 wr=>∃ (i:Nat),g=C.length-i/\i<=C.length/\s4=.int .i64 (zd7 L lm C i:Int)/\s48=.int .i64 (i:Int)/\Hid (zcI bse O w w.heap.size r (.slice va C.length vc) (.slice vwa L.length vwc) C L Q K H I J M n N (a+2*zd7 L lm C i) (zfj L lm C i) L X (cpg (zfj L lm C i)) wr))
   case atStart=>exact ⟨0,rfl,zNz _,congrArg (Value.int .i64) HZ.out.symm,rfl,R2⟩
   case round =>
    obtain ⟨i,rfl,hi,rfl,rfl,HR⟩:=hrel
    clear R2
    by_cases hlt:i<C.length
    ·obtain ⟨g,rfl⟩:∃ g,va=some ⟨g,0,none⟩:=by
      rcases HR.out.rowA.2 with ⟨e,h0⟩|⟨g,cap,cur,e,-⟩
      ·omega
      ·cases e;exact ⟨g,rfl⟩
     obtain ⟨c,hc⟩:=exE (C[i])
     have HCI:=Hd hc
     have hat:(zgb C)[i*3]?=some (.string c.id)/\(zgb C)[i*3+1]?=some (.int .i64 (c.text.size:Int))/\(zgb C)[i*3+2]?=some (.int .i64 c.cnt):=by rw [<-hc];exact znk hlt
     have HST:Hid ((¬((zd7 L lm C i:Int)<lm/\c.cnt<=0/\zcq L c.id=false)->zfj L lm C (i+1)=zfj L lm C i/\zd7 L lm C (i+1)=zd7 L lm C i)/\(((zd7 L lm C i:Int)<lm/\c.cnt<=0/\zcq L c.id=false)->zd7 L lm C (i+1)=zd7 L lm C i+1/\∃ K R,zfj L lm C i=K++c::R/\zfj L lm C (i+1)=K++R)):=Hd (by rw [<-hc];exact zoO hlt)
     have c0:=(HR.out.rowA.cellAt (i*3) (by omega)).trans hat.1
     have c1:=(HR.out.rowA.cellAt (i*3+1) (by omega)).trans hat.2.1
     have c2:=(HR.out.rowA.cellAt (i*3+2) (by omega)).trans hat.2.2
     have HSP:=Hd (zoQ (L:=L) (lim:=lm) (C:=C) (i:=i))
     have hln:=znj L lm C i
     have HLT:=Hd hlt
     have hC5:C.length<=500:=by have:=HN.out;omega
     clear hc hat
     obtain ⟨nn,hnn⟩:=exE (zd7 L lm C i)
     have HNN:=Hd hnn
     rw [hnn] at hln HST HSP HR
     rw [hnn]
     clear hnn
     by_cases hstop:lm<=(nn:Int)
     ·have d0:decide ((nn:Int) >= lm)=true:=decide_eq_true hstop
      obtain ⟨hz1,hz2⟩:=HSP.out hstop
      rw [hz2,hz1] at HR
      have hnn2:nn=(zaS L lm 0 C).2:=hz2
      obtain ⟨cx,fx,lx⟩:=HR.out.cell
      have HFI:Hid (∀ o,Chs bse O w0 ((wr.setCell ⟨w.heap.size,0,none⟩ (.int .i64 0)).alloc o) K H I J M n N (a+2*(zaS L lm 0 C).2) (zaS L lm 0 C).1 L X (cpg (zaS L lm 0 C).1)):=Hd λ o=>(HR.out.fin HH.out.kept).1.below ((zBr _ _).alloc (zNr _) o)
      have hfin:∀ o,((wr.setCell ⟨w.heap.size,0,none⟩ (.int .i64 0)).alloc o).cell? ⟨w.heap.size,0,none⟩=some (.int .i64 0):=λ o=>((zBr (wr.setCell ⟨w.heap.size,0,none⟩ (.int .i64 0)).heap.size _).alloc (zNr _) o).cell (p:=⟨w.heap.size,0,none⟩) (by simpa using lx) |>.trans (HR.out.fin HH.out.kept).2
      clear HR hz1 hz2 HST HSP hstop hln
      obtain ⟨qn,hqn⟩:=exE ((zaS L lm 0 C).2)
      obtain ⟨qC,hqC⟩:=exE ((zaS L lm 0 C).1)
      rw [hqn] at hnn2
      rw [hqn,hqC] at HFI
      have HQN:=Hd hqn
      have HQC:=Hd hqC
      subst hnn2
      clear hqn hqC
      generalize c.cnt=z2 at *
      generalize (c.text.size:Int)=z1 at *
      generalize c.id=id at *
      go_wp2_with fail
      refine leaves_cons (f:=60) (args:=#[.pointer (some ⟨H,0,none⟩),.int .i64 (k:Int),.pointer (some ⟨w.heap.size,0,none⟩)]) (by simp) (by simp [go_sem]) ?_
      refine (zev _ _ _ _ _ (hfin _)).mono ?_
      rintro e u' w9 ⟨rfl,rfl,rfl⟩
      have HG:=HFI.out (.cells #[.string id,.int .i64 z1,.int .i64 z2] 106)
      simp [Leaves,settle,results,Tryz.results48,go_sem,hfin]
      rw [HQN.out,HQC.out]
      exact ⟨rfl,Hd HG⟩
     ·have d0:decide ((nn:Int) >= lm)=false:=decide_eq_false hstop
      have hlk:=zb6 (P:=Tryz.prog) (HR.out.map.alloc (.cells #[.string c.id,.int .i64 (c.text.size:Int),.int .i64 c.cnt] 106)) Tryz.underlying66 Tryz.underlying9 (z:=.bool false) (by rfl) c.id
      rw [HQ.out c.id,show zq9.enc c.id=.string c.id from rfl] at hlk
      by_cases hcnt:0<c.cnt
      ·have d1:decide (c.cnt > 0)=true:=decide_eq_true hcnt
       have hz:=HST.out.1 λ h=>by omega
       have HG:Hid (zcI bse O w w.heap.size r (.slice (some ⟨g,0,none⟩) C.length vc) (.slice vwa L.length vwc) C L Q K H I J M n N (a+2*zd7 L lm C (i+1)) (zfj L lm C (i+1)) L X (cpg (zfj L lm C (i+1))) (wr.alloc (.cells #[.string c.id,.int .i64 (c.text.size:Int),.int .i64 c.cnt] 106))):=Hd (by rw [hz.1,hz.2];exact HR.out.below ((zBr _ _).alloc (zNr _) _))
       have HZN:=Hd hz.2
       clear hz HST HSP hstop hln hlk HR hcnt
       generalize c.cnt=z2 at *
       generalize (c.text.size:Int)=z1 at *
       generalize c.id=id at *
       go_wp2_with fail
       go_roundg (C.length-(i+1))
       case measure=>have:=HLT.out;omega
       case rel=>exact ⟨i+1,rfl,HLT.out,by rw [HZN.out],by congr 1,HG⟩
      ·have d1:decide (c.cnt > 0)=false:=decide_eq_false hcnt
       cases hb:zcq L c.id with
       | true =>
         rw [hb,if_pos rfl] at hlk
         have hz:=HST.out.1 λ h=>by rw [hb] at h;exact absurd h.2.2 (by simp)
         have HG:Hid (zcI bse O w w.heap.size r (.slice (some ⟨g,0,none⟩) C.length vc) (.slice vwa L.length vwc) C L Q K H I J M n N (a+2*zd7 L lm C (i+1)) (zfj L lm C (i+1)) L X (cpg (zfj L lm C (i+1))) (wr.alloc (.cells #[.string c.id,.int .i64 (c.text.size:Int),.int .i64 c.cnt] 106))):=Hd (by rw [hz.1,hz.2];exact HR.out.below ((zBr _ _).alloc (zNr _) _))
         have HZN:=Hd hz.2
         clear hz HST HSP hstop hln HR hcnt hb
         have hlk2:(Instr.lookup 66 (.map (some r)) (.string c.id) false).run Tryz.prog (wr.alloc (.cells #[.string c.id,.int .i64 (c.text.size:Int),.int .i64 c.cnt] 106))=.ok (.bool true) (wr.alloc (.cells #[.string c.id,.int .i64 (c.text.size:Int),.int .i64 c.cnt] 106)):=hlk
         clear hlk
         generalize c.cnt=z2 at *
         generalize (c.text.size:Int)=z1 at *
         generalize c.id=id at *
         go_wp2_with fail
         go_roundg (C.length-(i+1))
         case measure=>have:=HLT.out;omega
         case rel=>exact ⟨i+1,rfl,HLT.out,by rw [HZN.out],by congr 1,HG⟩
       | false =>
         rw [hb,if_neg (by simp)] at hlk
         obtain ⟨hz1,K1,R1,hz2,hz3⟩:=HST.out.2 ⟨by omega,by omega,hb⟩
         have hlen1:=znj L lm C (i+1)
         rw [hz1] at hlen1
         rw [hz2] at HR
         have hNN:=HN.out
         have hsrt:zpg (K1++c::R1):=HR.out.st.ok.2.1
         have hcat:cAt (K1++c::R1) c.id=some c:=zph hsrt (by simp)
         have hok:=HR.out.st.ok.1 c (by simp)
         have hid33:=hok.id
         have ht128:=hok.t2
         have N1:=Hd (HR.out.new (.cells #[.string c.id,.int .i64 (c.text.size:Int),.int .i64 c.cnt] 106))
         have FY:=zcW c.id c (Hd N1.out.st) ⟨by omega,hNN.2⟩ (by omega) hcat
         rw [show c.v=.agg #[.int .i64 (c.page:Int),.int .i64 (c.text.size:Int),.int .i64 c.cnt] from rfl] at FY
         have DP:Hid (∀ wA K3 W,zcI bse O wA w.heap.size r (.slice (some ⟨g,0,none⟩) C.length vc) (.slice vwa L.length vwc) C L Q K3 H I J M n N (a+2*nn) (K1++c::R1) L X (cpg (K1++c::R1)) W->Calls Tryz.prog 103 #[.pointer (some ⟨I,0,none⟩),.int .i64 (c.page:Int)] W λ e A=>e=.returned (.int .i64 0)/\zcI bse O wA w.heap.size r (.slice (some ⟨g,0,none⟩) C.length vc) (.slice vwa L.length vwc) C L Q K3 H I J M n N (a+2*nn+1) (K1++c::R1) L X (cpg (K1++R1)) A):=Hd λ wA K3 W hW=>by
          refine (zmU O W W _ H I J M n N (a+2*nn) X _ L (cpg (K1++R1)) c.page c.text ht128 (Hd (hW.st.perm (zmQ K1 R1 c))) (by omega)).mono ?_
          rintro e A ⟨rfl,hE⟩
          exact ⟨rfl,hW.step hE.out⟩
         have DL:Hid (∀ wA K3 W,zcI bse O wA w.heap.size r (.slice (some ⟨g,0,none⟩) C.length vc) (.slice vwa L.length vwc) C L Q K3 H I J M n N (a+2*nn+1) (K1++c::R1) L X (cpg (K1++R1)) W->Calls Tryz.prog 74 #[.pointer (some ⟨J,0,none⟩),.string c.id] W λ e A=>e=.returned (.tuple #[.bool true,.int .i64 0])/\zcI bse O wA w.heap.size r (.slice (some ⟨g,0,none⟩) C.length vc) (.slice vwa L.length vwc) C L Q K3 H I J M n N (a+2*(nn+1)) (K1++R1) L X (cpg (K1++R1)) A):=Hd λ wA K3 W hW=>by
          refine (zqK O W W _ H I J M n N (a+2*nn+1) X _ L (cpg (K1++R1)) c.id c (Hd hW.st) (by omega) hcat).mono ?_
          rintro e A ⟨rfl,hE⟩
          obtain ⟨C',h1,h2⟩:=hE.out
          have h3:=h2.mid hsrt
          subst h3
          exact ⟨rfl,hW.step h1⟩
         have HEND:Hid (∀ W,zcI bse O w w.heap.size r (.slice (some ⟨g,0,none⟩) C.length vc) (.slice vwa L.length vwc) C L Q K H I J M n N (a+2*(nn+1)) (K1++R1) L X (cpg (K1++R1)) W->zcI bse O w w.heap.size r (.slice (some ⟨g,0,none⟩) C.length vc) (.slice vwa L.length vwc) C L Q K H I J M n N (a+2*zd7 L lm C (i+1)) (zfj L lm C (i+1)) L X (cpg (zfj L lm C (i+1))) W):=Hd λ W hW=>by rw [hz1,hz3];exact hW
         have HZN:=Hd hz1
         have hlk2:(Instr.lookup 66 (.map (some r)) (.string c.id) false).run Tryz.prog (wr.alloc (.cells #[.string c.id,.int .i64 (c.text.size:Int),.int .i64 c.cnt] 106))=.ok (.bool false) (wr.alloc (.cells #[.string c.id,.int .i64 (c.text.size:Int),.int .i64 c.cnt] 106)):=hlk
         have HR':=Hd HR.out
         have nn1:Hid (wrap64 ((nn:Int)+1)=((nn+1:Nat):Int)):=Hd (by unfold wrap64;push_cast;omega)
         have hnn5:nn<=500:=by omega
         clear hz1 hz2 hz3 HST HSP hstop hln HR hcnt hb hlk hlen1 hsrt hcat hok hid33 ht128 HCI
         generalize c.page=z0 at *
         generalize c.cnt=z2 at *
         generalize (c.text.size:Int)=z1 at *
         generalize c.id=id at *
         have blk:Hid ((wr.alloc (.cells #[.string id,.int .i64 z1,.int .i64 z2] 106)).heap[wr.heap.size]?=some (.cells #[.string id,.int .i64 z1,.int .i64 z2] 106 (0,0))):=Hd (heap_alloc_new _ _)
         go_wp2_with fail
         refine FY.mono ?_
         rintro e w6 ⟨rfl,G6⟩
         have N6:=Hd (N1.out.step G6.out)
         have N7:=Hd (N6.out.new (.cells #[.int .i64 (z0:Int),.int .i64 z1,.int .i64 z2] 124))
         have CY:Hid (∀ W C2 a2 X2,zcI bse O (w6.alloc (.cells #[.int .i64 (z0:Int),.int .i64 z1,.int .i64 z2] 124)) w.heap.size r (.slice (some ⟨g,0,none⟩) C.length vc) (.slice vwa L.length vwc) C L Q (λ k=>(K k\/k=wr.heap.size)\/k=w6.heap.size) H I J M n N a2 C2 L X X2 W->(W.cell? ⟨H,0,none⟩=some (.pointer (some ⟨I,0,none⟩))/\W.cell? ⟨w6.heap.size,0,none⟩=some (.int .i64 (z0:Int)))/\W.cell? ⟨H,1,none⟩=some (.pointer (some ⟨J,0,none⟩))/\W.cell? ⟨wr.heap.size,0,none⟩=some (.string id)):=Hd λ W C2 a2 X2 hW=>by
          have hs:=hW.st.sbk.cells
          have b1:W.heap[w6.heap.size]?=some (.cells #[.int .i64 (z0:Int),.int .i64 z1,.int .i64 z2] 124 (0,0)):=(hW.kp _ (.inr rfl)).trans (heap_alloc_new _ _)
          have y6:w6.heap[wr.heap.size]?=some (.cells #[.string id,.int .i64 z1,.int .i64 z2] 106 (0,0)):=(N6.out.kp _ (.inr rfl)).trans blk.out
          have b2:W.heap[wr.heap.size]?=some (.cells #[.string id,.int .i64 z1,.int .i64 z2] 106 (0,0)):=(hW.kp _ (.inl (.inr rfl))).trans ((zao _ (zab y6)).trans y6)
          exact ⟨⟨hs.1,zaa b1 rfl⟩,hs.2.1,zaa b2 rfl⟩
         obtain ⟨⟨t0,t1⟩,t2,t3⟩:=CY.out _ _ _ _ N7.out
         have N7d:=Hd (N7.out.below (zBr _ _).drew)
         have D7:Calls Tryz.prog 103 #[.pointer (some ⟨I,0,none⟩),.int .i64 (z0:Int)] (w6.alloc (.cells #[.int .i64 (z0:Int),.int .i64 z1,.int .i64 z2] 124)).drew λ e A=>e=.returned (.int .i64 0)/\(A.cell? ⟨H,0,none⟩=some (.pointer (some ⟨I,0,none⟩))/\A.cell? ⟨w6.heap.size,0,none⟩=some (.int .i64 (z0:Int)))/\Hid (zcI bse O (w6.alloc (.cells #[.int .i64 (z0:Int),.int .i64 z1,.int .i64 z2] 124)) w.heap.size r (.slice (some ⟨g,0,none⟩) C.length vc) (.slice vwa L.length vwc) C L Q (λ k=>(K k\/k=wr.heap.size)\/k=w6.heap.size) H I J M n N (a+2*nn+1) (K1++c::R1) L X (cpg (K1++R1)) A):=by
          refine (DP.out _ _ _ N7d.out).mono ?_
          rintro e A ⟨rfl,h⟩
          exact ⟨rfl,(CY.out _ _ _ _ h).1,Hd h⟩
         have D8:Hid (∀ W,zcI bse O (w6.alloc (.cells #[.int .i64 (z0:Int),.int .i64 z1,.int .i64 z2] 124)) w.heap.size r (.slice (some ⟨g,0,none⟩) C.length vc) (.slice vwa L.length vwc) C L Q (λ k=>(K k\/k=wr.heap.size)\/k=w6.heap.size) H I J M n N (a+2*nn+1) (K1++c::R1) L X (cpg (K1++R1)) W->Calls Tryz.prog 74 #[.pointer (some ⟨J,0,none⟩),.string id] W λ e A=>e=.returned (.tuple #[.bool true,.int .i64 0])/\(A.cell? ⟨H,1,none⟩=some (.pointer (some ⟨J,0,none⟩))/\A.cell? ⟨wr.heap.size,0,none⟩=some (.string id))/\Hid (zcI bse O (w6.alloc (.cells #[.int .i64 (z0:Int),.int .i64 z1,.int .i64 z2] 124)) w.heap.size r (.slice (some ⟨g,0,none⟩) C.length vc) (.slice vwa L.length vwc) C L Q (λ k=>(K k\/k=wr.heap.size)\/k=w6.heap.size) H I J M n N (a+2*(nn+1)) (K1++R1) L X (cpg (K1++R1)) A)):=Hd λ W hW=>by
          refine (DL.out _ _ _ hW).mono ?_
          rintro e A ⟨rfl,h⟩
          exact ⟨rfl,(CY.out _ _ _ _ h).2,Hd h⟩
         clear FY G6 hlk2 DP DL
         go_wp2_with fail
         go_region_held3 (λ A=>A.cell? ⟨H,0,none⟩=some (.pointer (some ⟨I,0,none⟩))/\A.cell? ⟨w6.heap.size,0,none⟩=some (.int .i64 (z0:Int))) (go_keep) ((first
          | (go_at_call 103
             refine Calls.at_args D7 (by with_reducible rfl) ?_
             rintro e w8 ⟨rfl,hk8,N8⟩)))
         all_goals (
          clear t0 t1 t2 t3
          obtain ⟨⟨t0,t1⟩,t2,t3⟩:=CY.out _ _ _ _ N8.out
          have N8d:=Hd (N8.out.below (zBr _ _).drew)
          have E8:=D8.out _ N8d.out
          go_wp2_with fail
          go_region_held3 (λ A=>A.cell? ⟨H,1,none⟩=some (.pointer (some ⟨J,0,none⟩))/\A.cell? ⟨wr.heap.size,0,none⟩=some (.string id)) (go_keep) ((first
           | (go_at_call 74
              refine Calls.at_args E8 (by with_reducible rfl) ?_
              rintro e w9 ⟨rfl,hk9,N9⟩))))
         all_goals (
          have HG:=Hd (HEND.out _ (HR'.out.old (N6.out.old N9.out)))
          go_wp2_with fail
          go_roundg (C.length-(i+1))
          case measure=>have:=HLT.out;omega
          case rel=>exact ⟨i+1,rfl,HLT.out,by rw [HZN.out];congr 1,by congr 1,HG⟩)
    ·obtain rfl:i=C.length:=by omega
     obtain ⟨hz1,hz2⟩:=zqV L lm C
     obtain ⟨cx,fx,lx⟩:=HR.out.cell
     rw [hz1,hz2] at HR
     rw [hz2]
     have HFI:=Hd (HR.out.fin HH.out.kept).1
     have hfin:=(HR.out.fin HH.out.kept).2
     obtain ⟨qn,hqn⟩:=exE ((zaS L lm 0 C).2)
     obtain ⟨qC,hqC⟩:=exE ((zaS L lm 0 C).1)
     rw [hqn,hqC] at HFI
     rw [hqn]
     have HQN:=Hd hqn
     have HQC:=Hd hqC
     clear HR hz1 hz2 hqn hqC hlt hi
     go_wp2_with fail
     refine leaves_cons (f:=60) (args:=#[.pointer (some ⟨H,0,none⟩),.int .i64 (k:Int),.pointer (some ⟨w.heap.size,0,none⟩)]) (by simp) (by simp [go_sem]) ?_
     refine (zev _ _ _ _ _ hfin).mono ?_
     rintro e u' w9 ⟨rfl,rfl,rfl⟩
     have HG:=HFI.out
     simp [Leaves,settle,results,Tryz.results48,go_sem,hfin]
     rw [HQN.out,HQC.out]
     exact ⟨rfl,Hd HG⟩
end
theorem zqW (k:Int) (n:Nat) (hn:0<n) (hb:n<=1000000):∃ (r:Int) (i:Nat),Int.tmod k n=r/\wrap64 (r+n)=r+n/\Int.tmod (r+n) n=(i:Int)/\i<n:=by
 have h1:-(n:Int)<Int.tmod k n:=Int.lt_tmod_of_pos k (by omega)
 have h2:Int.tmod k n<n:=Int.tmod_lt_of_pos k (by omega)
 have h3:0<=Int.tmod (Int.tmod k n+n) n:=Int.tmod_nonneg _ (by omega)
 have h4:Int.tmod (Int.tmod k n+n) n<n:=Int.tmod_lt_of_pos _ (by omega)
 exact ⟨_,(Int.tmod (Int.tmod k n+n) n).toNat,rfl,by unfold wrap64;omega,by omega,by omega⟩
theorem zjh (v:Value) (C:List RCk) (L:List REn) (p:AcT) (w:World) (h:StR w v C L) (hC:C.length<=100000) :
 Calls Tryz.prog 98 #[v,zs0 p] w λ e A=>∃ id,e=.returned (.string id)/\Hid (Below w.heap.size w A):=by
 obtain ⟨wt,n,by_,t,r0⟩:=p
 obtain ⟨va,vl,rfl,h1,h2⟩:=h
 obtain ⟨aA,cA,rfl,-⟩:=h1.form
 have hb0:Below w.heap.size w (w.alloc (.cells #[.slice aA C.length cA,vl] 52)):=(zBr _ _).alloc (zNr _) _
 obtain ⟨wb,hwb⟩:=exE ((w.alloc (.cells #[.slice aA C.length cA,vl] 52)).alloc (.cells #[.int .i64 wt,.int .i64 n,.int .i64 by_,.string t,.bool r0] 96))
 have HB:Hid (Below w.heap.size w wb):=Hd (by rw [<-hwb];exact hb0.alloc hb0.size _)
 have k0:wb.heap[w.heap.size]?=some (.cells #[.slice aA C.length cA,vl] 52 (0,0)):=by rw [<-hwb,zao _ (by simp)];exact heap_alloc_new _ _
 have k1:wb.heap[w.heap.size+1]?=some (.cells #[.int .i64 wt,.int .i64 n,.int .i64 by_,.string t,.bool r0] 96 (0,0)):=by
  rw [<-hwb]
  have:=heap_alloc_new (w.alloc (.cells #[.slice aA C.length cA,vl] 52)) (.cells #[.int .i64 wt,.int .i64 n,.int .i64 by_,.string t,.bool r0] 96)
  simpa using this
 have s:=zaa k0 (i:=0) rfl
 have y1:=zaa k1 (i:=1) rfl
 have y3:=zaa k1 (i:=3) rfl
 have y4:=zaa k1 (i:=4) rfl
 have HV:=Hd h1
 unfold zs0
 simp only
 clear h1 h2 hb0 k0 k1
 cases r0 with
 | true =>
   go_enter Tryz.func98,Tryz.ntmps98
   go_wp2_with fail
   go_ret
   exact ⟨_,rfl,HB⟩
 | false =>
   by_cases hl:C.length=0
   ·have hz:((C.length:Int) == 0)=true:=by rw [hl];rfl
    clear hl
    go_enter Tryz.func98,Tryz.ntmps98
    go_wp2_with fail
    go_ret
    exact ⟨_,rfl,HB⟩
   ·obtain ⟨r,i,hr,e1,hr2,hi⟩:=zqW n C.length (by omega) (by omega)
    obtain ⟨c0,-,-⟩:=zcm hi
    obtain ⟨b,off,rfl,hb,hcell⟩:=HV.out.get c0
    have q0:=(HB.out.cell (p:=⟨b,off+i*3,none⟩) hb).trans (hcell _ _ c0)
    have hz:((C.length:Int) == 0)=false:=beq_eq_false_iff_ne.2 (by omega)
    have hC5:C.length<=100000:=hC
    clear c0 hcell hb HV
    generalize C[i].1=id at *
    go_enter Tryz.func98,Tryz.ntmps98
    go_wp2_with fail
    clear hwb
    go_region
    go_wp2_with fail
    go_ret
    exact ⟨_,rfl,Hd HB.out.drew⟩
theorem RnL.laid {Y F:Nat} {O wr Z w6:World} {B H I J M k a a' X nx' nb:Nat} {U V s u:Value} {K:Nat->Prop} {C C':List Ck} {L L':List Lg} (h:RnL Y F O B H I J M k U V K C L X a wr) (q:Chs [] O wr Z K H I J M Y F a' C' L' nx' (cpg C')) (b6:Below Z.heap.size Z w6) (r6:StR w6 (.agg #[s,u]) (rC C') (rL L')) (l6:∀ D,zau D (.agg #[U,V])->zau (λ b=>D b\/Z.heap.size<=b) (.agg #[s,u]))
 (hb:znr (k+1) a' C' L') (hnb:w6.heap[nb]?=some (.cells #[s,u] 52 (0,0))) :
 (w6.cell? ⟨nb,0,none⟩=some s/\w6.cell? ⟨nb,1,none⟩=some u) /\
 (w6.cell? ⟨B,0,none⟩=some U/\w6.frozen? ⟨B,0,none⟩=false/\(w6.setCell ⟨B,0,none⟩ s).cell? ⟨B,1,none⟩=some V/\(w6.setCell ⟨B,0,none⟩ s).frozen? ⟨B,1,none⟩=false) /\
 Hid (∃ v0' v1' K' C2 L2 nx2 a2,RnL Y F O B H I J M (k+1) v0' v1' K' C2 L2 nx2 a2 ((w6.setCell ⟨B,0,none⟩ s).setCell ⟨B,1,none⟩ u)):=by
 have hB4:B<Z.heap.size:=q.klt h.kb
 have hbx:w6.heap[B]?=some (.cells #[U,V] 52 (0,0)):=(b6.block B hB4).trans ((q.kept B h.kb).trans h.box)
 have hs1:=zac (i:=0) hbx s
 obtain ⟨K',hR⟩:=h.next q b6 r6 l6 hb
 exact ⟨⟨zaa hnb rfl,zaa hnb rfl⟩,⟨zaa hbx rfl,zad hbx 0,zaa hs1 rfl,zad hs1 1⟩,Hd ⟨_,_,K',_,_,_,_,hR⟩⟩
def Nxt (Y F:Nat) (O:World) (B H I J M k nb:Nat) (U V s u:Value) (w6:World):Prop :=
 (w6.cell? ⟨nb,0,none⟩=some s/\w6.cell? ⟨nb,1,none⟩=some u) /\
 (w6.cell? ⟨B,0,none⟩=some U/\w6.frozen? ⟨B,0,none⟩=false/\(w6.setCell ⟨B,0,none⟩ s).cell? ⟨B,1,none⟩=some V/\(w6.setCell ⟨B,0,none⟩ s).frozen? ⟨B,1,none⟩=false) /\
 Hid (∃ v0' v1' K' C2 L2 nx2 a2,RnL Y F O B H I J M (k+1) v0' v1' K' C2 L2 nx2 a2 ((w6.setCell ⟨B,0,none⟩ s).setCell ⟨B,1,none⟩ u))
theorem RnL.acts {Y F:Nat} {O wr Z:World} {B H I J M k a a' X nx':Nat} {U V:Value} {K:Nat->Prop} {C C':List Ck} {L L':List Lg} (h:RnL Y F O B H I J M k U V K C L X a wr) (q:Chs [] O wr Z K H I J M Y F a' C' L' nx' (cpg C'))
 (hb:znr (k+1) a' C' L') :
 (∀ w5 s u,StR w5 (.agg #[s,u]) (rC C') (rL L')->Below Z.heap.size Z w5->(∀ D,zau D (.agg #[U,V])->zau (λ b=>D b\/Z.heap.size<=b) (.agg #[s,u]))->∀ o,o=.cells #[s,u] 52->Nxt Y F O B H I J M k w5.heap.size U V s u (w5.alloc o)) /\
 (∀ wz w5 s u,wz=(Z.alloc (.cells #[.slice none 0 0,.slice none 0 0] 52))->StR w5 (.agg #[s,u]) (rC C') (rL L')->Below wz.heap.size wz w5->(∀ D,zau D (.agg #[U,V])->zau (λ b=>D b\/wz.heap.size<=b) (.agg #[s,u])) ->
   ((w5.cell? ⟨Z.heap.size,0,none⟩=some (.slice none 0 0)/\w5.frozen? ⟨Z.heap.size,0,none⟩=false)/\((w5.setCell ⟨Z.heap.size,0,none⟩ s).cell? ⟨Z.heap.size,1,none⟩=some (.slice none 0 0)/\(w5.setCell ⟨Z.heap.size,0,none⟩ s).frozen? ⟨Z.heap.size,1,none⟩=false)) /\
   Nxt Y F O B H I J M k Z.heap.size U V s u ((w5.setCell ⟨Z.heap.size,0,none⟩ s).setCell ⟨Z.heap.size,1,none⟩ u)):=by
 refine ⟨λ w5 s u r5 b5 l5 o ho=>?_,λ wz w5 s u hz r5 b5 l5=>?_⟩
 ·subst ho
  have b6:Below w5.heap.size w5 (w5.alloc (.cells #[s,u] 52)):=(zBr _ _).alloc (zNr _) _
  exact h.laid q (b5.trans (b6.mono b5.size)) (r5.below b6) l5 hb (heap_alloc_new _ _)
 ·have hzs:wz.heap.size=Z.heap.size+1:=by rw [hz];simp
  have bz:Below Z.heap.size Z wz:=by rw [hz];exact (zBr _ _).alloc (zNr _) _
  have hnz:wz.heap[Z.heap.size]?=some (.cells #[.slice none 0 0,.slice none 0 0] 52 (0,0)):=by rw [hz];exact heap_alloc_new _ _
  have hn5:=(b5.block _ (zab hnz)).trans hnz
  have hs1:=zac (i:=0) hn5 s
  have hs2:=zac (i:=1) hs1 u
  have b45:Below Z.heap.size Z w5:=bz.trans (b5.mono (by omega))
  have b46:Below Z.heap.size Z ((w5.setCell ⟨Z.heap.size,0,none⟩ s).setCell ⟨Z.heap.size,1,none⟩ u):=(b45.setCell (p:=⟨Z.heap.size,0,none⟩) (zNr _) _).setCell (p:=⟨Z.heap.size,1,none⟩) (zNr _) _
  have hl:=l5 _ h.loc
  have hn:¬((K Z.heap.size/\Z.heap.size≠B)\/wz.heap.size<=Z.heap.size):=by
   rintro (⟨hk,-⟩|h2)
   ·have:=q.klt hk;omega
   ·omega
  refine ⟨⟨⟨zaa hn5 rfl,zad hn5 0⟩,⟨zaa hs1 rfl,zad hs1 1⟩⟩,h.laid q b46 ((r5.setLoc hl hn s).setLoc hl hn u) (λ D hD=>(l5 D hD).mono λ b hb=>hb.imp id λ h=>by omega) hb hs2⟩
theorem RnL.new {Y F:Nat} {O wr:World} {B H I J M k a X:Nat} {U V:Value} {K:Nat->Prop} {C:List Ck} {L:List Lg} (h:RnL Y F O B H I J M k U V K C L X a wr) (o:Obj):RnL Y F O B H I J M k U V (λ j=>K j\/j=wr.heap.size) C L X a (wr.alloc o):=by
 have hb:Below wr.heap.size wr (wr.alloc o):=(zBr _ _).alloc (zNr _) _
 exact ⟨h.st.new hb wr.heap.size (zNr _) (by simp),(hb.block _ (zab h.box)).trans h.box,.inl h.kb,h.ref.below hb,h.loc.mono λ j hj=>⟨.inl hj.1,hj.2⟩,h.lo,h.bud,h.big⟩
def zf5 (wt n by_:Int) (t:ByteArray) (r0:Bool):Obj:=.cells #[.int .i64 wt,.int .i64 n,.int .i64 by_,.string t,.bool r0] 96
theorem zbl {W1 W:World} {y:Nat} {K:Nat->Prop} {wt n by_:Int} {t:ByteArray} {r0:Bool} (hk:zbX (λ j=>K j\/j=y) W1 W) (h:W1.heap[y]?=some (zf5 wt n by_ t r0)):W.cell? ⟨y,0,none⟩=some (.int .i64 wt)/\W.cell? ⟨y,1,none⟩=some (.int .i64 n)/\W.cell? ⟨y,2,none⟩=some (.int .i64 by_)/\W.cell? ⟨y,3,none⟩=some (.string t)/\W.cell? ⟨y,4,none⟩=some (.bool r0):=by
 have hb:=(hk y (.inr rfl)).trans h
 exact ⟨zaa hb rfl,zaa hb rfl,zaa hb rfl,zaa hb rfl,zaa hb rfl⟩
def zhk (B y:Nat) (U V:Value) (wt n by_:Int) (t:ByteArray) (r0:Bool) (W:World):Prop :=
 (W.cell? ⟨B,0,none⟩=some U/\W.cell? ⟨B,1,none⟩=some V/\W.cell? ⟨y,0,none⟩=some (.int .i64 wt)/\W.cell? ⟨y,1,none⟩=some (.int .i64 n)/\W.cell? ⟨y,2,none⟩=some (.int .i64 by_)/\W.cell? ⟨y,3,none⟩=some (.string t)/\W.cell? ⟨y,4,none⟩=some (.bool r0))
theorem zhk.of {W:World} {B y:Nat} {U V:Value} {wt n by_:Int} {t:ByteArray} {r0:Bool} (h1:W.heap[B]?=some (.cells #[U,V] 52 (0,0))) (h2:W.heap[y]?=some (zf5 wt n by_ t r0)):zhk B y U V wt n by_ t r0 W :=
 ⟨zaa h1 rfl,zaa h1 rfl,zaa h2 rfl,zaa h2 rfl,zaa h2 rfl,zaa h2 rfl,zaa h2 rfl⟩
theorem RnL.calls {Y F:Nat} {O wr Z:World} {B H I J M k a a' X nx' y:Nat} {U V:Value} {K:Nat->Prop} {C C':List Ck} {L L':List Lg} {wt n by_:Int} {t:ByteArray} {r0:Bool} {fn:Nat} {args:Array Value} {rt:Value->Value}
 (h:RnL Y F O B H I J M k U V (λ j=>K j\/j=y) C L X a wr) (q0:Chs [] O wr Z (λ j=>K j\/j=y) H I J M Y F a' C' L' nx' (cpg C')) (hy:wr.heap[y]?=some (zf5 wt n by_ t r0))
 (hb:znr (k+1) a' C' L')
 (RP:∀ W,StR W (.agg #[U,V]) (rC C) (rL L)->Calls Tryz.prog fn args W λ e A=>∃ v',e=.returned (rt v')/\Hid ((StR A v' (rC C') (rL L')/\Below W.heap.size W A)/\∀ D,zau D (.agg #[U,V])->zau (λ b=>D b\/W.heap.size<=b) v')) :
 zhk B y U V wt n by_ t r0 Z.drew/\(∀ o,zhk B y U V wt n by_ t r0 (Z.drew.alloc o)) /\
 (Calls Tryz.prog fn args Z.drew λ e A=>∃ g0 n0 c0 g1 n1 c1,e=.returned (rt (.agg #[.slice g0 n0 c0,.slice g1 n1 c1]))/\zhk B y U V wt n by_ t r0 A/\(∀ o,zhk B y U V wt n by_ t r0 (A.alloc o))/\Hid (∀ o,o=.cells #[.slice g0 n0 c0,.slice g1 n1 c1] 52->Nxt Y F O B H I J M k A.heap.size U V (.slice g0 n0 c0) (.slice g1 n1 c1) (A.alloc o))) /\
 (Calls Tryz.prog fn args (Z.drew.alloc (.cells #[.slice none 0 0,.slice none 0 0] 52)) λ e A=>∃ g0 n0 c0 g1 n1 c1,e=.returned (rt (.agg #[.slice g0 n0 c0,.slice g1 n1 c1]))/\zhk B y U V wt n by_ t r0 A/\zhk B y U V wt n by_ t r0 ((A.setCell ⟨Z.heap.size,0,none⟩ (.slice g0 n0 c0)).setCell ⟨Z.heap.size,1,none⟩ (.slice g1 n1 c1)) /\
   ((A.cell? ⟨Z.heap.size,0,none⟩=some (.slice none 0 0)/\A.frozen? ⟨Z.heap.size,0,none⟩=false)/\((A.setCell ⟨Z.heap.size,0,none⟩ (.slice g0 n0 c0)).cell? ⟨Z.heap.size,1,none⟩=some (.slice none 0 0)/\(A.setCell ⟨Z.heap.size,0,none⟩ (.slice g0 n0 c0)).frozen? ⟨Z.heap.size,1,none⟩=false)) /\
   Hid (Nxt Y F O B H I J M k Z.heap.size U V (.slice g0 n0 c0) (.slice g1 n1 c1) ((A.setCell ⟨Z.heap.size,0,none⟩ (.slice g0 n0 c0)).setCell ⟨Z.heap.size,1,none⟩ (.slice g1 n1 c1)))):=by
 have q:=q0.below (zBr Z.heap.size Z).drew
 have hwd:Z.drew.heap.size=Z.heap.size:=rfl
 obtain ⟨A1,A2⟩:=h.acts q hb
 have hbx4:Z.drew.heap[B]?=some (.cells #[U,V] 52 (0,0)):=(q.kept B h.kb).trans h.box
 have hy4:Z.drew.heap[y]?=some (zf5 wt n by_ t r0):=(q.kept y (.inr rfl)).trans hy
 have hst4:StR Z.drew (.agg #[U,V]) (rC C) (rL L):=h.ref.keepW (h.loc.mono λ j hj=>hj.1) q.kept λ j e=>q.klt e
 have hS:∀ W,Below Z.drew.heap.size Z.drew W->zhk B y U V wt n by_ t r0 W:=λ W hW=>zhk.of ((hW.block B (zab hbx4)).trans hbx4) ((hW.block y (zab hy4)).trans hy4)
 refine ⟨hS _ (zBr _ _),λ o=>hS _ ((zBr _ _).alloc (zNr _) o),(RP _ hst4).mono ?_,(RP _ (hst4.below ((zBr _ _).alloc (zNr _) _))).mono ?_⟩
 ·rintro e A ⟨v',rfl,hE⟩
  obtain ⟨⟨g1,g2⟩,g3⟩:=hE.out
  obtain ⟨xa,xl,rfl,r1,r2⟩:=g1
  obtain ⟨f0,a0,rfl,-⟩:=r1.form
  obtain ⟨f1,m1,rfl,-⟩:=r2.form
  exact ⟨_,_,_,_,_,_,rfl,hS A g2,λ o=>hS _ (g2.alloc g2.size o),Hd (A1 A _ _ ⟨_,_,rfl,r1,r2⟩ g2 g3)⟩
 ·rintro e A ⟨v',rfl,hE⟩
  obtain ⟨⟨g1,g2⟩,g3⟩:=hE.out
  obtain ⟨xa,xl,rfl,r1,r2⟩:=g1
  obtain ⟨f0,a0,rfl,-⟩:=r1.form
  obtain ⟨f1,m1,rfl,-⟩:=r2.form
  obtain ⟨t1,t2⟩:=A2 _ A _ _ rfl ⟨_,_,rfl,r1,r2⟩ g2 g3
  have b4:Below Z.drew.heap.size Z.drew A:=((zBr Z.drew.heap.size Z.drew).alloc (zNr _) (.cells #[.slice none 0 0,.slice none 0 0] 52)).trans (g2.mono (by simp))
  exact ⟨_,_,_,_,_,_,rfl,hS A b4,hS _ ((b4.setCell (p:=⟨Z.heap.size,0,none⟩) (zNr _) _).setCell (p:=⟨Z.heap.size,1,none⟩) (zNr _) _),t1,Hd t2⟩
def zqX (Y F:Nat) (O W:World) (K:Nat->Prop) (B H I J M k:Nat) (U V:Value) (C:List Ck) (L:List Lg) (pf rf:Nat) (pargs rargs:Array Value) (pr:Value) (rt:Value->Value):Prop :=
 ∃ D E,(Calls Tryz.prog pf pargs W λ e A=>e=.returned pr/\Hid (∃ a' C' L' nx',rC C'=D/\rL L'=E/\znr (k+1) a' C' L'/\Chs [] O W A K H I J M Y F a' C' L' nx' (cpg C'))) /\
  (∀ W2,StR W2 (.agg #[U,V]) (rC C) (rL L)->Calls Tryz.prog rf rargs W2 λ e A=>∃ v',e=.returned (rt v')/\Hid ((StR A v' D E/\Below W2.heap.size W2 A)/\∀ P,zau P (.agg #[U,V])->zau (λ b=>P b\/W2.heap.size<=b) v'))
section
variable {O W:World} {Y F:Nat} {B H I J M k a X:Nat} {U V:Value} {K:Nat->Prop} {C:List Ck} {L:List Lg}
theorem zaJ (C:List Ck):(rC C).length=C.length:=by unfold rC;rw [zLm]
theorem zc1 (L:List Lg):(rL L).length=L.length:=by unfold rL;rw [zLm]
theorem znm {C:List Ck} {id:ByteArray} {c:Ck} (h:cAt C id=some c) (hok:∀ c∈C,c.Ok):id.size=33:=by
 obtain ⟨h1,h2⟩:=zaQ h
 rw [<-h2];exact (hok c h1).id
theorem RnL.sm (h:RnL Y F O B H I J M k U V K C L X a W) (hk:k<80):(a<=320/\L.length<=80/\C.length<=160)/\zq6 C 80:=by
 obtain ⟨h1,h2,h3⟩:=h.bud
 exact ⟨by omega,λ c hc=>by have:=h3 c hc;omega⟩
theorem RnL.put (h:RnL Y F O B H I J M k U V K C L X a W) (hk:k<80) (t:ByteArray) (hW9:F≠999:=by first|assumption|decide) :
 ∃ (id:ByteArray) (fr:Bool) (er:Int),(er == 4)=false/\zqX Y F O W K B H I J M k U V C L 18 97 #[.pointer (some ⟨H,0,none⟩),.string t] #[.agg #[U,V],.string t] (.tuple #[.string id,.bool fr,.int .i64 er]) (λ v'=>.tuple #[v',.string id,.bool fr,.int .i64 er]):=by
 obtain ⟨⟨s1,s2,s3⟩,s4⟩:=h.sm hk
 have hbg:=h.big
 by_cases ht:t.size<1\/128<t.size
 ·refine ⟨⟨#[]⟩,false,1,rfl,rC C,rL L,?_,λ W2 h2=>znd _ (rC C) (rL L) t W2 h2 ht⟩
  refine (znh O W W _ H I J M Y F a X C L (cpg C) t (Hd h.st) ⟨by omega,hbg.2⟩ ht).mono ?_
  rintro e A ⟨rfl,hE⟩
  exact ⟨rfl,Hd ⟨a,C,L,X,rfl,rfl,h.bud.same,hE.out⟩⟩
 ·have t1:1<=t.size:=by omega
  have t2:t.size<=128:=by omega
  refine ⟨(zew (rC C) t).2.1,(zew (rC C) t).2.2.1,0,rfl,(zew (rC C) t).1,rL L,?_,?_⟩
  ·refine (zqG O W W _ H I J M Y F a X C L (cpg C) t (Hd h.st) ⟨by omega,hbg.2⟩ t1 t2 (by omega) (λ c hc=>List.mem_map.2 ⟨c,hc,rfl⟩)).mono ?_
   rintro e A ⟨id,fresh,rfl,hE⟩
   rcases hE.out with ⟨rfl,kk,c,hkk,rfl,hc,ht',hno,hE⟩|⟨rfl,kk,page,C',hkk,rfl,hc,hf,hno,hp,hE⟩
   ·have hput:=zj5 t1 t2 hkk hc ht' hno
    rw [hput]
    exact ⟨rfl,Hd ⟨a,C,L,X,rfl,rfl,h.bud.same,hE⟩⟩
   ·have hput:=zj6 t1 t2 hkk hc hf hno hp
    have hq:=hE.perm (zmR (c:=⟨zas (prB t) kk,page,0,t⟩) hc hp)
    have hl:C'.length=C.length+1:=by
     have h1:=zmL hp hc
     have h2:=zfV (rC C) (zas (prB t) kk,t,0)
     simp only at h1
     rw [h1,zaJ,zaJ] at h2
     exact h2
    obtain ⟨b1,b2,b3⟩:=h.bud
    rw [hput]
    refine ⟨rfl,Hd ⟨a+2,C',L,X,rfl,rfl,⟨by omega,by omega,λ d hd=>?_⟩,hq⟩⟩
    rcases hp.mem d hd with rfl|hd
    ·simp only;omega
    ·have:=b3 d hd;omega
  ·intro W2 h2
   have hR:=zpr _ (rC C) (rL L) t W2 h2 (by rw [zaJ];omega) t1 t2
   have h0:(zew (rC C) t).2.2.2=0:=by
    cases hh:(List.range 256).find? (zg8 (rC C) (prB t) t) with
    | some kk=>unfold zew;rw [if_neg ht];simp only [hh]
    | none =>
      cases hg:(List.range 256).find? (zd1 (rC C) (prB t)) with
      | some kk=>unfold zew;rw [if_neg ht];simp only [hh,hg]
      | none =>
        exfalso
        rw [List.find?_range_eq_none] at hg
        have hnn:∀ j,j<256->cAt C (zas (prB t) j)≠none:=λ j hj hc=>by
         have:=hg j hj
         unfold zd1 at this
         rw [zcH,hc] at this
         simp at this
        have:=zfS (zNr 256) hnn
        omega
   rw [h0] at hR
   exact hR
theorem RnL.add (h:RnL Y F O B H I J M k U V K C L X a W) (hk:k<80) (id:ByteArray) (by_:Int) (hW9:F≠999:=by first|assumption|decide) :
 ∃ (er:Int),(er == 4)=false/\zqX Y F O W K B H I J M k U V C L 19 99 #[.pointer (some ⟨H,0,none⟩),.string id,.int .i64 by_] #[.agg #[U,V],.string id,.int .i64 by_] (.int .i64 er) (λ v'=>.tuple #[v',.int .i64 er]):=by
 obtain ⟨⟨s1,s2,s3⟩,s4⟩:=h.sm hk
 have hbg:=h.big
 have ERR:∀ er:Int,(er == 4)=false->(((by_≠1/\by_≠-1)/\er=1)\/((by_=1\/by_=-1)/\cAt C id=none/\er=6))->∃ (er:Int),(er == 4)=false/\zqX Y F O W K B H I J M k U V C L 19 99 #[.pointer (some ⟨H,0,none⟩),.string id,.int .i64 by_] #[.agg #[U,V],.string id,.int .i64 by_] (.int .i64 er) (λ v'=>.tuple #[v',.int .i64 er]):=λ er h4 hc=>by
  refine ⟨er,h4,rC C,rL L,?_,λ W2 h2=>znc _ (rC C) (rL L) id by_ er W2 h2 (by rw [zaJ];omega) (hc.imp (λ g=>g) λ g=>⟨g.1,by rw [zcH,g.2.1];rfl,g.2.2⟩)⟩
  refine (zmS O W W _ H I J M Y F a X C L (cpg C) id by_ er (Hd h.st) ⟨by omega,hbg.2⟩ hc).mono ?_
  rintro e A ⟨rfl,hE⟩
  exact ⟨rfl,Hd ⟨a,C,L,X,rfl,rfl,h.bud.same,hE.out⟩⟩
 by_cases hb:by_=1\/by_=-1
 ·cases hf:cAt C id with
  | none=>exact ERR 6 rfl (.inr ⟨hb,hf,rfl⟩)
  | some c =>
    obtain ⟨up,hup⟩:∃ up,by_=byI up:=by
     rcases hb with rfl|rfl
     ·exact ⟨true,rfl⟩
     ·exact ⟨false,rfl⟩
    have hi:=znm hf h.st.ok.1
    refine ⟨0,rfl,rC C,rL L++[(id,by_)],?_,λ W2 h2=>zm7 _ (rC C) (rL L) id by_ W2 h2 (by rw [zaJ];omega) (by rw [zc1];omega) hb _ (by rw [zcH,hf];rfl)⟩
    rw [hup]
    refine (zmI O W W _ H I J M Y F a X C L (cpg C) id up c (Hd h.st) ⟨by omega,hbg.2⟩ hi hf).mono ?_
    rintro e A ⟨rfl,hE⟩
    obtain ⟨b1,b2,b3⟩:=h.bud
    refine ⟨rfl,Hd ⟨_,C,_,_,rfl,by rw [zi0];rfl,⟨?_,?_,λ c hc=>?_⟩,hE.out⟩⟩
    ·simp only [zLa,List.length_singleton];omega
    ·simp only [zLa,List.length_singleton];omega
    ·have:=b3 c hc
     simp only [zLa,List.length_singleton];push_cast;omega
 ·exact ERR 1 rfl (.inl ⟨⟨λ e=>hb (.inl e),λ e=>hb (.inr e)⟩,rfl⟩)
theorem RnL.apply (h:RnL Y F O B H I J M k U V K C L X a W) (hk:k<80) (id:ByteArray) (by_:Int) :
 ∃ (er:Int),zqX Y F O W K B H I J M k U V C L 96 100 #[.pointer (some ⟨H,0,none⟩),.string id,.int .i64 by_] #[.agg #[U,V],.string id,.int .i64 by_] (.int .i64 er) (λ v'=>.tuple #[v',.int .i64 er]):=by
 obtain ⟨⟨s1,s2,s3⟩,s4⟩:=h.sm hk
 have hbg:=h.big
 have ERR:∀ er:Int,(((by_≠1/\by_≠-1)/\er=1)\/((by_=1\/by_=-1)/\cAt C id=none/\er=6))->∃ (er:Int),zqX Y F O W K B H I J M k U V C L 96 100 #[.pointer (some ⟨H,0,none⟩),.string id,.int .i64 by_] #[.agg #[U,V],.string id,.int .i64 by_] (.int .i64 er) (λ v'=>.tuple #[v',.int .i64 er]):=λ er hc=>by
  refine ⟨er,rC C,rL L,?_,λ W2 h2=>zne _ (rC C) (rL L) id by_ er W2 h2 (by rw [zaJ];omega) (hc.imp (λ g=>g) λ g=>⟨g.1,by rw [zcH,g.2.1];rfl,g.2.2⟩)⟩
  refine (zmT O W W _ H I J M Y F a X C L (cpg C) id by_ er (Hd h.st) ⟨by omega,hbg.2⟩ hc).mono ?_
  rintro e A ⟨rfl,hE⟩
  exact ⟨rfl,Hd ⟨a,C,L,X,rfl,rfl,h.bud.same,hE.out⟩⟩
 by_cases hb:by_=1\/by_=-1
 ·cases hf:cAt C id with
  | none=>exact ERR 6 (.inr ⟨hb,hf,rfl⟩)
  | some c =>
    obtain ⟨up,hup⟩:∃ up,by_=byI up:=by
     rcases hb with rfl|rfl
     ·exact ⟨true,rfl⟩
     ·exact ⟨false,rfl⟩
    have hm:=(zaQ hf).1
    have hcb:=s4 c hm
    refine ⟨0,zd6 (rC C) id by_,rL L,?_,λ W2 h2=>znf _ (rC C) (rL L) id by_ W2 h2 (by rw [zaJ];omega) hb _ (by rw [zcH,hf];rfl) (by simp only;omega)⟩
    rw [hup]
    refine (zng O W W _ H I J M Y F a X C L (cpg C) id up c (Hd h.st) ⟨by omega,hbg.2⟩ hf (by omega)).mono ?_
    rintro e A ⟨rfl,hE⟩
    obtain ⟨C',hp,hE⟩:=hE.out
    obtain ⟨g1,g2⟩:=zmO hf hp
    rw [<-g2] at hE
    have hl:C'.length=C.length:=by
     have:=congrArg List.length g1
     rwa [zj7,zaJ,zaJ] at this
    have hby:-1<=byI up/\byI up<=1:=by unfold byI;split <;> omega
    obtain ⟨b1,b2,b3⟩:=h.bud
    refine ⟨rfl,Hd ⟨_,C',L,_,g1,rfl,⟨by omega,by omega,λ d hd=>?_⟩,hE⟩⟩
    rcases hp.mem d hd with rfl|hd
    ·have:=b3 c hm
     show -((k+1:Nat):Int)<=c.cnt+byI up-L.length/\c.cnt+byI up+L.length<=(k+1:Nat)
     push_cast;omega
    ·have:=b3 d hd;push_cast;omega
 ·exact ERR 1 (.inl ⟨⟨λ e=>hb (.inl e),λ e=>hb (.inr e)⟩,rfl⟩)
theorem zoR (L:List Lg):∀ e∈rL L,-1<=e.2/\e.2<=1:=λ e he=>by
 obtain ⟨x,-,rfl⟩:=List.mem_map.1 he
 show -1<=x.by/\x.by<=1
 unfold Lg.by;split <;> omega
theorem zqY (L:List Lg) (m:Nat):rL (L.take m)=(rL L).take m:=by unfold rL;rw [List.map_take]
theorem zqZ (L:List Lg) (m:Nat):rL (L.drop m)=(rL L).drop m:=by unfold rL;rw [List.map_drop]
theorem zgz:∀ (T:List Lg) {C:List RCk} {lo hi:Int},(∀ c∈C,lo<=c.2.2/\c.2.2<=hi)->∀ c∈zbO C (rL T),lo-T.length<=c.2.2/\c.2.2<=hi+T.length
 | [],C,lo,hi,h=>by simpa [zbO,rL] using h
 | e::T,C,lo,hi,h=>by
   have he:-1<=e.by/\e.by<=1:=by unfold Lg.by;split <;> omega
   have h2:∀ c∈zd6 C e.id e.by,lo-1<=c.2.2/\c.2.2<=hi+1:=λ c hc=>by
    rcases zkj hc with hc|⟨c0,hc0,rfl⟩
    ·have:=h c hc;omega
    ·have:=h c0 hc0;simp only;omega
   have:=zgz T h2
   intro c hc
   have:=this c hc
   simp only [zLc];push_cast
   omega
theorem RnL.merge (h:RnL Y F O B H I J M k U V K C L X a W) (hk:k<80) (n:Int) (hn:I64 n) :
 ∃ (m:Nat),zqX Y F O W K B H I J M k U V C L 20 49 #[.pointer (some ⟨H,0,none⟩),.int .i64 n] #[.agg #[U,V],.int .i64 n] (.tuple #[.int .i64 (m:Int),.int .i64 0]) (λ v'=>.tuple #[v',.int .i64 (m:Int)]):=by
 obtain ⟨⟨s1,s2,s3⟩,s4⟩:=h.sm hk
 have hbg:=h.big
 unfold I64 at hn
 have hlim:max n 0=((n.toNat:Nat):Int):=by omega
 have hm:(L.take n.toNat).length=min n.toNat L.length:=List.length_take
 have e1:(rL L).take (min n.toNat L.length)=(rL L).take n.toNat:=by
  rw [<-zc1 L]
  by_cases hc:n.toNat<=(rL L).length
  ·rw [Nat.min_eq_left hc]
  ·rw [Nat.min_eq_right (by omega),List.take_length,List.take_of_length_le (by omega)]
 have e2:(rL L).drop (min n.toNat L.length)=(rL L).drop n.toNat:=by
  rw [<-zc1 L]
  by_cases hc:n.toNat<=(rL L).length
  ·rw [Nat.min_eq_left hc]
  ·rw [Nat.min_eq_right (by omega),List.drop_length,List.drop_of_length_le (by omega)]
 refine ⟨(L.take n.toNat).length,zbO (rC C) ((rL L).take n.toNat),(rL L).drop n.toNat,?_,λ W2 h2=>?_⟩
 ·refine (zmG O W W _ H I J M Y F a X C L (cpg C) n n.toNat hlim (by omega) (Hd h.st) ⟨by omega,hbg.2⟩ (λ c hc=>by have:=s4 c hc;omega)).mono ?_
  rintro e A ⟨rfl,hE⟩
  obtain ⟨C',hM,hE⟩:=hE.out
  obtain ⟨g1,g2⟩:=hM.ref
  rw [<-g2] at hE
  have hl:C'.length=C.length:=by
   have:=congrArg List.length g1
   rwa [zeU,zaJ,zaJ] at this
  obtain ⟨b1,b2,b3⟩:=h.bud
  have hll:(L.take n.toNat).length+(L.drop n.toNat).length=L.length:=by rw [<-zLa,List.take_append_drop]
  refine ⟨rfl,Hd ⟨_,C',L.drop n.toNat,_,by rw [g1,zqY],zqZ L _,⟨by omega,by omega,λ d hd=>?_⟩,hE⟩⟩
  have hbd:=zgz (L.take n.toNat) (C:=rC C) (lo:=-(k:Int)+L.length) (hi:=k-L.length) (λ c hc=>by
   obtain ⟨x,hx,rfl⟩:=List.mem_map.1 hc
   have:=b3 x hx
   simp only;omega) (d.id,d.text,d.cnt) (by rw [<-g1];exact List.mem_map.2 ⟨d,hd,rfl⟩)
  simp only at hbd
  push_cast;omega
 ·have:=zoN _ (rC C) (rL L) n (min n.toNat L.length) W2 h2 (by rw [zaJ];omega) (by rw [zc1];omega) (by rw [zc1];omega) (λ c hc=>by
   obtain ⟨x,hx,rfl⟩:=List.mem_map.1 hc
   have:=s4 x hx
   simp only;omega) (zoR L)
  rw [e1,e2] at this
  rw [hm]
  exact this
theorem RnL.recl (h:RnL Y F O B H I J M k U V K C L X a W) (hk:k<80) (n:Int) (hn:I64 n) :
 ∃ (m:Nat),zqX Y F O W K B H I J M k U V C L 48 50 #[.pointer (some ⟨H,0,none⟩),.int .i64 n] #[.agg #[U,V],.int .i64 n] (.tuple #[.int .i64 (m:Int),.int .i64 0]) (λ v'=>.tuple #[v',.int .i64 (m:Int)]):=by
 obtain ⟨⟨s1,s2,s3⟩,s4⟩:=h.sm hk
 have hbg:=h.big
 have hrr:=zi1 L n C 0
 have hr1:(zcl (rL L) n 0 (rC C)).1=rC (zaS L n 0 C).1:=by rw [hrr]
 have hr2:(zcl (rL L) n 0 (rC C)).2=(zaS L n 0 C).2:=by rw [hrr]
 refine ⟨(zaS L n 0 C).2,rC (zaS L n 0 C).1,rL L,?_,λ W2 h2=>?_⟩
 ·refine (znl O W W _ H I J M Y F a X C L n (Hd h.st) ⟨by omega,hbg.2⟩ (by omega)).mono ?_
  rintro e A ⟨rfl,hE⟩
  obtain ⟨b1,b2,b3⟩:=h.bud
  have hln:=zex L n C 0
  refine ⟨rfl,Hd ⟨_,_,L,_,rfl,rfl,⟨by omega,by omega,λ d hd=>?_⟩,hE.out⟩⟩
  have:=b3 d (zfZ L n C 0 d hd)
  push_cast;omega
 ·have:=zla _ (rC C) (rL L) n W2 h2 (by rw [zaJ];omega) (by rw [zc1];omega) (zoR L) hn
  rw [hr1,hr2] at this
  exact this
end
section
variable {O wr:World} {Y F:Nat} {B H I J M k a X:Nat} {U V:Value} {K:Nat->Prop} {C:List Ck} {L:List Lg}
theorem zoS (n by_:Int) (t:ByteArray) (r0:Bool) (h:Hid (RnL Y F O B H I J M k U V K C L X a wr)) (hk:k<80) :
 Calls Tryz.prog 47 #[.pointer (some ⟨H,0,none⟩),.pointer (some ⟨B,0,none⟩),.agg #[.int .i64 5,.int .i64 n,.int .i64 by_,.string t,.bool r0]] wr λ e A=>e=.returned (.tuple #[.bool true,.bool false])/\Hid (∃ v0' v1' K' C2 L2 nx2 a2,RnL Y F O B H I J M (k+1) v0' v1' K' C2 L2 nx2 a2 A):=by
 have hN:=h.out.new (zf5 5 n by_ t r0)
 obtain ⟨W1,hW1⟩:=exE (wr.alloc (.cells #[.int .i64 5,.int .i64 n,.int .i64 by_,.string t,.bool r0] 96))
 rw [show wr.alloc (zf5 5 n by_ t r0)=W1 from hW1] at hN
 have hy:W1.heap[wr.heap.size]?=some (zf5 5 n by_ t r0):=by rw [<-hW1];exact heap_alloc_new _ _
 obtain ⟨f0,a0,f1,m1,hf⟩:=h.out.ref.form
 cases hf
 have HN0:=Hd hN
 obtain ⟨y0,y1,y2,y3,y4⟩:=zbl (K:=K) (λ _ _=>rfl) hy
 have s:=zaa hN.box (i:=0) rfl
 have u:=zaa hN.box (i:=1) rfl
 obtain ⟨⟨s1,s2,s3⟩,-⟩:=hN.sm hk
 have NM:Calls Tryz.prog 98 #[.agg #[.slice f0 (rC C).length a0,.slice f1 (rL L).length m1],.agg #[.int .i64 5,.int .i64 n,.int .i64 by_,.string t,.bool r0]] W1.drew λ e A=>∃ id,e=.returned (.string id)/\(A.cell? ⟨B,0,none⟩=some (.slice f0 (rC C).length a0)/\A.cell? ⟨B,1,none⟩=some (.slice f1 (rL L).length m1)/\A.cell? ⟨wr.heap.size,0,none⟩=some (.int .i64 5)/\A.cell? ⟨wr.heap.size,1,none⟩=some (.int .i64 n)/\A.cell? ⟨wr.heap.size,2,none⟩=some (.int .i64 by_)/\A.cell? ⟨wr.heap.size,3,none⟩=some (.string t)/\A.cell? ⟨wr.heap.size,4,none⟩=some (.bool r0))/\Hid (Below W1.heap.size W1 A):=by
  refine (zjh (.agg #[.slice f0 (rC C).length a0,.slice f1 (rL L).length m1]) (rC C) (rL L) (5,n,by_,t,r0) W1.drew (hN.ref.below (zBr _ _).drew) (by rw [zaJ];omega)).mono ?_
  rintro e A ⟨id,rfl,hb⟩
  have hb2:Below W1.heap.size W1 A:=(zBr W1.heap.size W1).drew.trans hb.out
  have q1:=(hb2.block _ (zab hN.box)).trans hN.box
  have q2:=(hb2.block _ (zab hy)).trans hy
  exact ⟨id,rfl,zhk.of q1 q2,Hd hb2⟩
 have HY0:=Hd hy
 clear hN hy h s1 s2 s3
 go_enter Tryz.func47,Tryz.ntmps47
 go_wp2_with fail
 clear hW1
 go_region_held3 (λ A=>A.cell? ⟨B,0,none⟩=some (.slice f0 (rC C).length a0)/\A.cell? ⟨B,1,none⟩=some (.slice f1 (rL L).length m1)/\A.cell? ⟨wr.heap.size,0,none⟩=some (.int .i64 5)/\A.cell? ⟨wr.heap.size,1,none⟩=some (.int .i64 n)/\A.cell? ⟨wr.heap.size,2,none⟩=some (.int .i64 by_)/\A.cell? ⟨wr.heap.size,3,none⟩=some (.string t)/\A.cell? ⟨wr.heap.size,4,none⟩=some (.bool r0)) (go_keep) ((first
  | (go_at_call 98
     refine Calls.at_args NM (by with_reducible rfl) ?_
     rintro e w2 ⟨id,rfl,hk2,HB2⟩)))
 have hN:=HN0.out.below HB2.out
 have hy:=(HB2.out.block _ (zab HY0.out)).trans HY0.out
 have HN:=Hd hN
 have HY:=Hd hy
 clear s u y0 y1 y2 y3 y4
 obtain ⟨s,u,y0,y1,y2,y3,y4⟩:=hk2
 obtain ⟨er,hbo⟩:=HN.out.apply hk id by_
 obtain ⟨D,E,PE,RP⟩:=hbo
 clear hN hy HN0 HY0 HB2 NM
 go_wp2_with fail
 refine PE.mono ?_
 rintro e Z ⟨rfl,q4⟩
 obtain ⟨a',C',L',nx',hD,hE,hbud',q4⟩:=q4.out
 clear s u y0 y1 y2 y3 y4 PE
 obtain ⟨y0,y1,y2,y3,y4⟩:=zbl q4.kept HY.out
 have bx4:=(q4.kept B HN.out.kb).trans HN.out.box
 have s:=zaa bx4 (i:=0) rfl
 have u:=zaa bx4 (i:=1) rfl
 obtain ⟨hS0,hSa,RA,RB⟩:=RnL.calls (rt:=λ v'=>.tuple #[v',.int .i64 er]) (fn:=100) (args:=#[.agg #[.slice f0 (rC C).length a0,.slice f1 (rL L).length m1],.string id,.int .i64 by_]) HN.out q4 HY.out hbud' (λ W hW=>by rw [hD,hE];exact RP W hW)
 unfold zhk at hS0 hSa RA RB
 clear RP bx4 HY HN q4 hbud' hD hE
 go_wp2_with fail
 go_region_held3 (λ A=>A.cell? ⟨B,0,none⟩=some (.slice f0 (rC C).length a0)/\A.cell? ⟨B,1,none⟩=some (.slice f1 (rL L).length m1)/\A.cell? ⟨wr.heap.size,0,none⟩=some (.int .i64 5)/\A.cell? ⟨wr.heap.size,1,none⟩=some (.int .i64 n)/\A.cell? ⟨wr.heap.size,2,none⟩=some (.int .i64 by_)/\A.cell? ⟨wr.heap.size,3,none⟩=some (.string t)/\A.cell? ⟨wr.heap.size,4,none⟩=some (.bool r0)) (first|(go_keep;done)|exact hSa _|exact hka _|exact hkb) ((first
  | (go_at_call 100
     refine Calls.at_args RA (by with_reducible rfl) ?_
     rintro e w5 ⟨g0,n0,c0,g1,n1,c1,rfl,hk5,hka,HA⟩)
  | (go_at_call 100
     refine Calls.at_args RB (by with_reducible rfl) ?_
     rintro e w5 ⟨g0,n0,c0,g1,n1,c1,rfl,hk5,hkb,⟨⟨t0,t1⟩,t2,t3⟩,HA⟩)))
 all_goals (
  clear s u y0 y1 y2 y3 y4
  first
   | obtain ⟨⟨z0,z1⟩,⟨b0,b1,b2,b3⟩,HG⟩:=HA.out _ rfl
   | obtain ⟨⟨z0,z1⟩,⟨b0,b1,b2,b3⟩,HG⟩:=HA.out
  go_wp2_with fail
  go_ret2
  exact ⟨by simp,HG⟩)
theorem zoT (n by_:Int) (t:ByteArray) (r0:Bool) (h:Hid (RnL Y F O B H I J M k U V K C L X a wr)) (hk:k<80) (hn:I64 n) :
 Calls Tryz.prog 47 #[.pointer (some ⟨H,0,none⟩),.pointer (some ⟨B,0,none⟩),.agg #[.int .i64 2,.int .i64 n,.int .i64 by_,.string t,.bool r0]] wr λ e A=>e=.returned (.tuple #[.bool true,.bool false])/\Hid (∃ v0' v1' K' C2 L2 nx2 a2,RnL Y F O B H I J M (k+1) v0' v1' K' C2 L2 nx2 a2 A):=by
 have hN:=h.out.new (zf5 2 n by_ t r0)
 obtain ⟨W1,hW1⟩:=exE (wr.alloc (.cells #[.int .i64 2,.int .i64 n,.int .i64 by_,.string t,.bool r0] 96))
 rw [show wr.alloc (zf5 2 n by_ t r0)=W1 from hW1] at hN
 have hy:W1.heap[wr.heap.size]?=some (zf5 2 n by_ t r0):=by rw [<-hW1];exact heap_alloc_new _ _
 obtain ⟨f0,a0,f1,m1,hf⟩:=h.out.ref.form
 cases hf
 have HN:=Hd hN
 have HY:=Hd hy
 obtain ⟨y0,y1,y2,y3,y4⟩:=zbl (K:=K) (λ _ _=>rfl) hy
 obtain ⟨m,hbo⟩:=HN.out.merge hk n hn
 obtain ⟨D,E,PE,RP⟩:=hbo
 clear hN hy h
 go_enter Tryz.func47,Tryz.ntmps47
 go_wp2_with fail
 clear hW1
 refine PE.mono ?_
 rintro e Z ⟨rfl,q4⟩
 obtain ⟨a',C',L',nx',hD,hE,hbud',q4⟩:=q4.out
 clear y0 y1 y2 y3 y4 PE
 obtain ⟨y0,y1,y2,y3,y4⟩:=zbl q4.kept HY.out
 have bx4:=(q4.kept B HN.out.kb).trans HN.out.box
 have s:=zaa bx4 (i:=0) rfl
 have u:=zaa bx4 (i:=1) rfl
 obtain ⟨hS0,hSa,RA,RB⟩:=RnL.calls (rt:=λ v'=>.tuple #[v',.int .i64 (m:Int)]) (fn:=49) (args:=#[.agg #[.slice f0 (rC C).length a0,.slice f1 (rL L).length m1],.int .i64 n]) HN.out q4 HY.out hbud' (λ W hW=>by rw [hD,hE];exact RP W hW)
 unfold zhk at hS0 hSa RA RB
 clear RP bx4 HY HN q4 hbud' hD hE
 go_wp2_with fail
 go_region_held3 (λ A=>A.cell? ⟨B,0,none⟩=some (.slice f0 (rC C).length a0)/\A.cell? ⟨B,1,none⟩=some (.slice f1 (rL L).length m1)/\A.cell? ⟨wr.heap.size,0,none⟩=some (.int .i64 2)/\A.cell? ⟨wr.heap.size,1,none⟩=some (.int .i64 n)/\A.cell? ⟨wr.heap.size,2,none⟩=some (.int .i64 by_)/\A.cell? ⟨wr.heap.size,3,none⟩=some (.string t)/\A.cell? ⟨wr.heap.size,4,none⟩=some (.bool r0)) (first|(go_keep;done)|exact hSa _|exact hka _|exact hkb) ((first
  | (go_at_call 49
     refine Calls.at_args RA (by with_reducible rfl) ?_
     rintro e w5 ⟨g0,n0,c0,g1,n1,c1,rfl,hk5,hka,HA⟩)
  | (go_at_call 49
     refine Calls.at_args RB (by with_reducible rfl) ?_
     rintro e w5 ⟨g0,n0,c0,g1,n1,c1,rfl,hk5,hkb,⟨⟨t0,t1⟩,t2,t3⟩,HA⟩)))
 all_goals (
  clear s u y0 y1 y2 y3 y4
  first
   | obtain ⟨⟨z0,z1⟩,⟨b0,b1,b2,b3⟩,HG⟩:=HA.out _ rfl
   | obtain ⟨⟨z0,z1⟩,⟨b0,b1,b2,b3⟩,HG⟩:=HA.out
  go_wp2_with fail
  go_ret2
  exact ⟨by simp,HG⟩)
theorem zq0 (n by_:Int) (t:ByteArray) (r0:Bool) (h:Hid (RnL Y F O B H I J M k U V K C L X a wr)) (hk:k<80) (hn:I64 n) :
 Calls Tryz.prog 47 #[.pointer (some ⟨H,0,none⟩),.pointer (some ⟨B,0,none⟩),.agg #[.int .i64 3,.int .i64 n,.int .i64 by_,.string t,.bool r0]] wr λ e A=>e=.returned (.tuple #[.bool true,.bool false])/\Hid (∃ v0' v1' K' C2 L2 nx2 a2,RnL Y F O B H I J M (k+1) v0' v1' K' C2 L2 nx2 a2 A):=by
 have hN:=h.out.new (zf5 3 n by_ t r0)
 obtain ⟨W1,hW1⟩:=exE (wr.alloc (.cells #[.int .i64 3,.int .i64 n,.int .i64 by_,.string t,.bool r0] 96))
 rw [show wr.alloc (zf5 3 n by_ t r0)=W1 from hW1] at hN
 have hy:W1.heap[wr.heap.size]?=some (zf5 3 n by_ t r0):=by rw [<-hW1];exact heap_alloc_new _ _
 obtain ⟨f0,a0,f1,m1,hf⟩:=h.out.ref.form
 cases hf
 have HN:=Hd hN
 have HY:=Hd hy
 obtain ⟨y0,y1,y2,y3,y4⟩:=zbl (K:=K) (λ _ _=>rfl) hy
 obtain ⟨m,hbo⟩:=HN.out.recl hk n hn
 obtain ⟨D,E,PE,RP⟩:=hbo
 clear hN hy h
 go_enter Tryz.func47,Tryz.ntmps47
 go_wp2_with fail
 clear hW1
 refine PE.mono ?_
 rintro e Z ⟨rfl,q4⟩
 obtain ⟨a',C',L',nx',hD,hE,hbud',q4⟩:=q4.out
 clear y0 y1 y2 y3 y4 PE
 obtain ⟨y0,y1,y2,y3,y4⟩:=zbl q4.kept HY.out
 have bx4:=(q4.kept B HN.out.kb).trans HN.out.box
 have s:=zaa bx4 (i:=0) rfl
 have u:=zaa bx4 (i:=1) rfl
 obtain ⟨hS0,hSa,RA,RB⟩:=RnL.calls (rt:=λ v'=>.tuple #[v',.int .i64 (m:Int)]) (fn:=50) (args:=#[.agg #[.slice f0 (rC C).length a0,.slice f1 (rL L).length m1],.int .i64 n]) HN.out q4 HY.out hbud' (λ W hW=>by rw [hD,hE];exact RP W hW)
 unfold zhk at hS0 hSa RA RB
 clear RP bx4 HY HN q4 hbud' hD hE
 go_wp2_with fail
 go_region_held3 (λ A=>A.cell? ⟨B,0,none⟩=some (.slice f0 (rC C).length a0)/\A.cell? ⟨B,1,none⟩=some (.slice f1 (rL L).length m1)/\A.cell? ⟨wr.heap.size,0,none⟩=some (.int .i64 3)/\A.cell? ⟨wr.heap.size,1,none⟩=some (.int .i64 n)/\A.cell? ⟨wr.heap.size,2,none⟩=some (.int .i64 by_)/\A.cell? ⟨wr.heap.size,3,none⟩=some (.string t)/\A.cell? ⟨wr.heap.size,4,none⟩=some (.bool r0)) (first|(go_keep;done)|exact hSa _|exact hka _|exact hkb) ((first
  | (go_at_call 50
     refine Calls.at_args RA (by with_reducible rfl) ?_
     rintro e w5 ⟨g0,n0,c0,g1,n1,c1,rfl,hk5,hka,HA⟩)
  | (go_at_call 50
     refine Calls.at_args RB (by with_reducible rfl) ?_
     rintro e w5 ⟨g0,n0,c0,g1,n1,c1,rfl,hk5,hkb,⟨⟨t0,t1⟩,t2,t3⟩,HA⟩)))
 all_goals (
  clear s u y0 y1 y2 y3 y4
  first
   | obtain ⟨⟨z0,z1⟩,⟨b0,b1,b2,b3⟩,HG⟩:=HA.out _ rfl
   | obtain ⟨⟨z0,z1⟩,⟨b0,b1,b2,b3⟩,HG⟩:=HA.out
  go_wp2_with fail
  go_ret2
  exact ⟨by simp,HG⟩)
end
section
variable {O wr A:World} {Y F:Nat} {B H I J M k a X:Nat} {U V:Value} {K:Nat->Prop} {C:List Ck} {L:List Lg}
theorem RnL.stay (h:RnL Y F O B H I J M k U V K C L X a wr) (q:Chs [] O wr A K H I J M Y F a C L X (cpg C)):RnL Y F O B H I J M k U V K C L X a A:=by
 have hk:=q.kept
 exact ⟨q.reset,(hk B h.kb).trans h.box,h.kb,h.ref.keepW (h.loc.mono λ j hj=>hj.1) hk λ j e=>q.klt e,h.loc,h.lo,h.bud,h.big⟩
theorem RnL.up (h:RnL Y F O B H I J M k U V K C L X a wr):RnL Y F O B H I J M (k+1) U V K C L X a wr:=⟨h.st,h.box,h.kb,h.ref,h.loc,h.lo,h.bud.same,h.big⟩
theorem RnL.xs (h:RnL Y F O B H I J M k U V K C L X a wr):wr.cell? ⟨B,0,none⟩=some U/\wr.cell? ⟨B,1,none⟩=some V:=⟨zaa h.box rfl,zaa h.box rfl⟩
theorem zq1 (wt n by_:Int) (t:ByteArray) (r0:Bool) (h:Hid (RnL Y F O B H I J M k U V K C L X a wr)) (hw:wt≠0/\wt≠1/\wt≠2/\wt≠3/\wt≠4/\wt≠5) :
 Calls Tryz.prog 47 #[.pointer (some ⟨H,0,none⟩),.pointer (some ⟨B,0,none⟩),.agg #[.int .i64 wt,.int .i64 n,.int .i64 by_,.string t,.bool r0]] wr λ e A=>e=.returned (.tuple #[.bool true,.bool false])/\Hid (∃ v0' v1' K' C2 L2 nx2 a2,RnL Y F O B H I J M (k+1) v0' v1' K' C2 L2 nx2 a2 A):=by
 obtain ⟨h0,h1,h2,h3,h4,h5⟩:=hw
 have d0:(wt == 0)=false:=by simpa using h0
 have d1:(wt == 1)=false:=by simpa using h1
 have d2:(wt == 2)=false:=by simpa using h2
 have d3:(wt == 3)=false:=by simpa using h3
 have d4:(wt == 4)=false:=by simpa using h4
 have d5:(wt == 5)=false:=by simpa using h5
 have HG:=Hd (h.out.below ((zBr _ _).alloc (zNr _) (.cells #[.int .i64 wt,.int .i64 n,.int .i64 by_,.string t,.bool r0] 96))).up
 clear h h0 h1 h2 h3 h4 h5
 go_enter Tryz.func47,Tryz.ntmps47
 go_wp2_with fail
 go_ret2
 exact ⟨rfl,Hd ⟨_,_,_,_,_,_,_,HG.out⟩⟩
theorem zsu (n by_:Int) (t:ByteArray) (r0:Bool) (h:Hid (RnL Y F O B H I J M k U V K C L X a wr)) (hk:k<80) :
 Calls Tryz.prog 47 #[.pointer (some ⟨H,0,none⟩),.pointer (some ⟨B,0,none⟩),.agg #[.int .i64 4,.int .i64 n,.int .i64 by_,.string t,.bool r0]] wr λ e A=>e=.returned (.tuple #[.bool true,.bool false])/\Hid (∃ v0' v1' K' C2 L2 nx2 a2,RnL Y F O B H I J M (k+1) v0' v1' K' C2 L2 nx2 a2 A):=by
 have hN:=h.out.new (zf5 4 n by_ t r0)
 obtain ⟨W1,hW1⟩:=exE (wr.alloc (.cells #[.int .i64 4,.int .i64 n,.int .i64 by_,.string t,.bool r0] 96))
 rw [show wr.alloc (zf5 4 n by_ t r0)=W1 from hW1] at hN
 have hy:W1.heap[wr.heap.size]?=some (zf5 4 n by_ t r0):=by rw [<-hW1];exact heap_alloc_new _ _
 obtain ⟨f0,a0,f1,m1,hf⟩:=h.out.ref.form
 cases hf
 have HN0:=Hd hN
 obtain ⟨y0,y1,y2,y3,y4⟩:=zbl (K:=K) (λ _ _=>rfl) hy
 have s:=zaa hN.box (i:=0) rfl
 have u:=zaa hN.box (i:=1) rfl
 obtain ⟨⟨s1,s2,s3⟩,-⟩:=hN.sm hk
 have NM:Calls Tryz.prog 98 #[.agg #[.slice f0 (rC C).length a0,.slice f1 (rL L).length m1],.agg #[.int .i64 4,.int .i64 n,.int .i64 by_,.string t,.bool r0]] W1.drew λ e A=>∃ id,e=.returned (.string id)/\(A.cell? ⟨B,0,none⟩=some (.slice f0 (rC C).length a0)/\A.cell? ⟨B,1,none⟩=some (.slice f1 (rL L).length m1)/\A.cell? ⟨wr.heap.size,0,none⟩=some (.int .i64 4)/\A.cell? ⟨wr.heap.size,1,none⟩=some (.int .i64 n)/\A.cell? ⟨wr.heap.size,2,none⟩=some (.int .i64 by_)/\A.cell? ⟨wr.heap.size,3,none⟩=some (.string t)/\A.cell? ⟨wr.heap.size,4,none⟩=some (.bool r0))/\Hid (Below W1.heap.size W1 A):=by
  refine (zjh (.agg #[.slice f0 (rC C).length a0,.slice f1 (rL L).length m1]) (rC C) (rL L) (4,n,by_,t,r0) W1.drew (hN.ref.below (zBr _ _).drew) (by rw [zaJ];omega)).mono ?_
  rintro e A ⟨id,rfl,hb⟩
  have hb2:Below W1.heap.size W1 A:=(zBr W1.heap.size W1).drew.trans hb.out
  have q1:=(hb2.block _ (zab hN.box)).trans hN.box
  have q2:=(hb2.block _ (zab hy)).trans hy
  exact ⟨id,rfl,zhk.of q1 q2,Hd hb2⟩
 have HY0:=Hd hy
 clear hN hy h s1 s2 s3
 go_enter Tryz.func47,Tryz.ntmps47
 go_wp2_with fail
 clear hW1
 go_region_held3 (λ A=>A.cell? ⟨B,0,none⟩=some (.slice f0 (rC C).length a0)/\A.cell? ⟨B,1,none⟩=some (.slice f1 (rL L).length m1)/\A.cell? ⟨wr.heap.size,0,none⟩=some (.int .i64 4)/\A.cell? ⟨wr.heap.size,1,none⟩=some (.int .i64 n)/\A.cell? ⟨wr.heap.size,2,none⟩=some (.int .i64 by_)/\A.cell? ⟨wr.heap.size,3,none⟩=some (.string t)/\A.cell? ⟨wr.heap.size,4,none⟩=some (.bool r0)) (go_keep) ((first
  | (go_at_call 98
     refine Calls.at_args NM (by with_reducible rfl) ?_
     rintro e w2 ⟨id,rfl,hk2,HB2⟩)))
 have hN:=HN0.out.below HB2.out
 have hy:=(HB2.out.block _ (zab HY0.out)).trans HY0.out
 have HN:=Hd hN
 have HY:=Hd hy
 clear s u y0 y1 y2 y3 y4
 obtain ⟨s,u,y0,y1,y2,y3,y4⟩:=hk2
 clear hN hy HN0 HY0 HB2 NM
 have hsm:=(HN.out.sm hk).1
 have HST:=Hd hsm
 cases hf:cAt C id with
 | none =>
   have GP:=zni O w2 w2 _ H I J M Y F a X C L (cpg C) id (Hd HN.out.st) ⟨by have:=HN.out.big;omega,HN.out.big.2⟩ hf
   have hg0:znq (rC C) id=(⟨#[]⟩,6):=by unfold znq;rw [zcH,hf];rfl
   go_wp2_with fail
   refine GP.mono ?_
   rintro e w3 ⟨rfl,q3⟩
   have HN3:=Hd (HN.out.stay q3.out)
   clear s u y0 y1 y2 y3 y4 GP
   obtain ⟨s,u⟩:=HN3.out.xs
   have R3:=zpn _ (rC C) (rL L) id w3 HN3.out.ref (by rw [zaJ];omega)
   rw [hg0] at R3
   go_wp2_with fail
   refine R3.mono ?_
   rintro e Z ⟨rfl,hb4⟩
   have HN4:=Hd (HN3.out.below hb4.out)
   clear s u R3
   obtain ⟨s,u⟩:=HN4.out.xs
   have C4:=zjg O Z Z _ H I J M Y F a X C L (cpg C) id (Hd HN4.out.st) ⟨by have:=HN.out.big;omega,HN.out.big.2⟩ hf
   go_wp2_with fail
   refine C4.mono ?_
   rintro e w5 ⟨rfl,q5⟩
   have HN5:=Hd (HN4.out.stay q5.out)
   clear s u C4
   obtain ⟨s,u⟩:=HN5.out.xs
   have P5:=zeY _ (rC C) (rL L) id w5 HN5.out.ref (by rw [zc1];omega) (zoR L)
   go_wp2_with fail
   refine P5.mono ?_
   rintro e w6 ⟨rfl,hb6⟩
   have HN6:=Hd (HN5.out.below hb6.out)
   clear s u P5
   obtain ⟨s,u⟩:=HN6.out.xs
   have HG:=Hd (HN6.out.below (zBr w6.heap.size w6).drew).up
   clear hf hg0 HN HY HN3 HN4 HN5 HN6 q3 q5 hb4 hb6 hsm
   generalize (zaU (rL L) id).1=ps at *
   generalize ((zaU (rL L) id).2:Int)=pn at *
   go_wp2_with fail
   refine wp_region_noPanic ?_
   refine wp_region_held_drew (S:=(λ (A:World)=>A.cell? ⟨B,0,none⟩=some (.slice f0 (rC C).length a0)/\A.cell? ⟨B,1,none⟩=some (.slice f1 (rL L).length m1))) (by kernel_rfl) ?_ (λ hHeld=>?_)
   ·exact ⟨s,u⟩
   refine' tkH 0 rfl ?_
   try simp only [Act.put,List.setIfInBounds_toArray,List.set_cons_zero,List.set_cons_succ,List.getElem_toArray,List.getElem_cons_zero]
   refine' tkH 1 rfl ?_;try simp only [Act.put,awL]
   refine' tkH 2 rfl ?_;try simp only [Act.put,awL]
   refine' tkH 3 rfl ?_;try simp only [Act.put,awL]
   refine' tkH 4 rfl ?_;try simp only [Act.put,awL]
   refine' tkH 5 rfl ?_;try simp only [Act.put,awL]
   refine' tkH 6 rfl ?_;try simp only [Act.put,awL]
   refine' tkH 7 rfl ?_;try simp only [Act.put,awL]
   refine' tkH 8 rfl ?_;try simp only [Act.put,awL]
   refine' tkH 9 rfl ?_;try simp only [Act.put,awL]
   refine' tkH 10 rfl ?_;try simp only [Act.put,awL]
   refine' tkH 11 rfl ?_ (Or.inr ⟨by rfl,rfl⟩)
   try simp only [Act.put,awL]
   refine' tkH 12 rfl ?_ (Or.inr ⟨by rfl,rfl⟩)
   try simp only [Act.put,awL]
   refine' tkH 13 rfl ?_ (Or.inr ⟨by rfl,rfl⟩)
   try simp only [Act.put,awL]
   refine' tkH 14 rfl ?_ (Or.inr ⟨by rfl,rfl⟩)
   try simp only [Act.put,awL]
   refine' tkH 15 rfl ?_ (Or.inr ⟨by rfl,rfl⟩)
   try simp only [Act.put,awL]
   refine' tkH 16 rfl ?_ (Or.inr ⟨by rfl,rfl⟩)
   try simp only [Act.put,awL]
   refine' tkH 17 rfl ?_ (Or.inr ⟨by rfl,rfl⟩)
   try simp only [Act.put,awL]
   refine' tkH 18 rfl ?_ (Or.inr ⟨by rfl,rfl⟩)
   try simp only [Act.put,awL]
   refine' tkH 19 rfl ?_ (Or.inr ⟨by rfl,rfl⟩)
   try simp only [Act.put,awL]
   refine' tkH 20 rfl ?_ (Or.inr ⟨by rfl,rfl⟩)
   try simp only [Act.put,awL]
   refine' tkH 21 rfl ?_ (Or.inr ⟨by rfl,rfl⟩)
   try simp only [Act.put,awL]
   refine' tkH 22 rfl ?_ (Or.inr ⟨by rfl,rfl⟩)
   try simp only [Act.put,awL]
   refine' tkH 23 rfl ?_ (Or.inr ⟨by rfl,rfl⟩)
   try simp only [Act.put,awL]
   refine' tkH 24 rfl ?_ (Or.inr ⟨by rfl,rfl⟩)
   try simp only [Act.put,awL]
   refine' tkH 25 rfl ?_ (Or.inr ⟨by rfl,rfl⟩)
   try simp only [Act.put,awL]
   refine' tkH 26 rfl ?_ (Or.inr ⟨by rfl,rfl⟩)
   try simp only [Act.put,awL]
   refine' tkH 27 rfl ?_ (Or.inr ⟨by rfl,rfl⟩)
   try simp only [Act.put,awL]
   refine' tkH 28 rfl ?_ (Or.inr ⟨by rfl,rfl⟩)
   try simp only [Act.put,awL]
   refine' tkH 29 rfl ?_ (Or.inr ⟨by rfl,rfl⟩)
   try simp only [Act.put,awL]
   refine' tkH 30 rfl ?_ (Or.inr ⟨by rfl,rfl⟩)
   try simp only [Act.put,awL]
   refine' tkH 31 rfl ?_ (Or.inr ⟨by rfl,rfl⟩)
   try simp only [Act.put,awL]
   refine' tkH 32 rfl ?_ (Or.inr ⟨by rfl,rfl⟩)
   try simp only [Act.put,awL]
   refine' tkH 33 rfl ?_ (Or.inr ⟨by rfl,rfl⟩)
   try simp only [Act.put,awL]
   refine' tkH 34 rfl ?_;try simp only [Act.put,awL]
   refine' tkH 35 rfl ?_;try simp only [Act.put,awL]
   refine' tkH 36 rfl ?_;try simp only [Act.put,awL]
   refine wpAnyH_done (by kernel_rfl) ?_ _
   refine NoPanic.normal ?_
   go_wp2_with fail
   go_ret2
   exact ⟨by simp,Hd ⟨_,_,_,_,_,_,_,HG.out⟩⟩
 | some c =>
   have his:=znm hf HN.out.st.ok.1
   have hmem:=(zaQ hf).1
   have GP:=ziX O w2 w2 _ H I J M Y F a X C L (cpg C) id c (Hd HN.out.st) ⟨by have:=HN.out.big;omega,HN.out.big.2⟩ (by omega) hf (List.mem_map.2 ⟨c,hmem,rfl⟩)
   have hg0:znq (rC C) id=(c.text,0):=by unfold znq;rw [zcH,hf];rfl
   have hfr:zhj (rC C) id=some (c.id,c.text,c.cnt):=by rw [zcH,hf];rfl
   obtain ⟨i,hi,hci,hxi,-⟩:=zcY hfr
   have hpn:=(zka L id).1
   go_wp2_with fail
   refine GP.mono ?_
   rintro e w3 ⟨rfl,q3⟩
   have HN3:=Hd (HN.out.stay q3.out)
   clear s u y0 y1 y2 y3 y4 GP
   obtain ⟨s,u⟩:=HN3.out.xs
   have R3:=zpn _ (rC C) (rL L) id w3 HN3.out.ref (by rw [zaJ];omega)
   rw [hg0] at R3
   go_wp2_with fail
   refine R3.mono ?_
   rintro e Z ⟨rfl,hb4⟩
   have HN4:=Hd (HN3.out.below hb4.out)
   clear s u R3
   obtain ⟨s,u⟩:=HN4.out.xs
   have C4:=zh6 O Z Z _ H I J M Y F a X C L (cpg C) id c (Hd HN4.out.st) ⟨by have:=HN.out.big;omega,HN.out.big.2⟩ (by omega) hf (by omega)
   go_wp2_with fail
   refine C4.mono ?_
   rintro e w5 ⟨rfl,q5⟩
   have HN5:=Hd (HN4.out.stay q5.out)
   clear s u C4
   obtain ⟨s,u⟩:=HN5.out.xs
   have P5:=zeY _ (rC C) (rL L) id w5 HN5.out.ref (by rw [zc1];omega) (zoR L)
   rw [hpn] at P5
   go_wp2_with fail
   refine P5.mono ?_
   rintro e w6 ⟨rfl,hb6⟩
   have HN6:=Hd (HN5.out.below hb6.out)
   clear s u P5
   obtain ⟨s,u⟩:=HN6.out.xs
   obtain ⟨xa,xl,hx,rA,-⟩:=HN6.out.ref
   cases hx
   obtain ⟨-,-,c2⟩:=zcm hi
   obtain ⟨b,off,rfl,hb,hcell⟩:=rA.get c2
   have cq:w6.cell? ⟨b,off+i*3+2,none⟩=some (.int .i64 c.cnt):=by
    have:=hcell _ _ c2
    rw [hci] at this
    exact this
   have ATC:Calls Tryz.prog 102 #[.agg #[.slice (some ⟨b,off,none⟩) (rC C).length a0,.slice f1 (rL L).length m1],.string id] w6.drew λ e A=>e=.returned (.int .i64 (i:Int))/\(A.cell? ⟨B,0,none⟩=some (.slice (some ⟨b,off,none⟩) (rC C).length a0)/\A.cell? ⟨B,1,none⟩=some (.slice f1 (rL L).length m1)/\A.cell? ⟨b,off+i*3+2,none⟩=some (.int .i64 c.cnt))/\Hid (Below w6.heap.size w6 A):=by
    have:=zib (.agg #[.slice (some ⟨b,off,none⟩) (rC C).length a0,.slice f1 (rL L).length m1]) (rC C) (rL L) id w6.drew (HN6.out.ref.below (zBr _ _).drew) (by rw [zaJ];omega)
    rw [hxi] at this
    refine this.mono ?_
    rintro e A ⟨rfl,h7⟩
    have hb7:Below w6.heap.size w6 A:=(zBr w6.heap.size w6).drew.trans h7.out
    obtain ⟨z0,z1⟩:=(HN6.out.below hb7).xs
    exact ⟨rfl,⟨z0,z1,(hb7.cell (p:=⟨b,off+i*3+2,none⟩) hb).trans cq⟩,Hd hb7⟩
   have HG:Hid (∀ W,Below w6.heap.size w6 W->RnL Y F O B H I J M (k+1) (.slice (some ⟨b,off,none⟩) (rC C).length a0) (.slice f1 (rL L).length m1) (λ j=>K j\/j=wr.heap.size) C L X a W):=Hd λ W hW=>(HN6.out.below hW).up
   have hil:i<(rC C).length:=hi
   have hlen:(rC C).length<=1000:=by rw [zaJ];omega
   clear hf hg0 HN HY HN3 HN4 HN5 HN6 q3 q5 hb4 hb6 hsm his hmem hfr hci hxi hpn rA c2 hcell hb hi
   generalize zfc L id=ps at *
   generalize ((zaU (rL L) id).2:Int)=pn at *
   generalize c.text=ct at *
   go_wp2_with fail
   refine wp_region_noPanic ?_
   refine wp_region_held_drew (S:=(λ (A:World)=>A.cell? ⟨B,0,none⟩=some (.slice (some ⟨b,off,none⟩) (rC C).length a0)/\A.cell? ⟨B,1,none⟩=some (.slice f1 (rL L).length m1)/\A.cell? ⟨b,off+i*3+2,none⟩=some (.int .i64 c.cnt))) (by kernel_rfl) ?_ (λ hHeld=>?_)
   ·exact ⟨s,u,cq⟩
   refine' tkH 0 rfl ?_
   try simp only [Act.put,List.setIfInBounds_toArray,List.set_cons_zero,List.set_cons_succ,List.getElem_toArray,List.getElem_cons_zero]
   refine' tkH 1 rfl ?_;try simp only [Act.put,awL]
   refine' tkH 2 rfl ?_;try simp only [Act.put,awL]
   refine' tkH 3 rfl ?_ (Or.inr ⟨by rfl,rfl⟩)
   try simp only [Act.put,awL]
   refine' tkH 4 rfl ?_ (Or.inr ⟨by rfl,rfl⟩)
   try simp only [Act.put,awL]
   refine' tkH 5 rfl ?_;try simp only [Act.put,awL]
   refine' tkH 6 rfl ?_;try simp only [Act.put,awL]
   refine' tkH 7 rfl ?_ (Or.inr ⟨by rfl,rfl⟩)
   try simp only [Act.put,awL]
   refine' tkH 8 rfl ?_ (Or.inr ⟨by rfl,rfl⟩)
   try simp only [Act.put,awL]
   refine' tkH 9 rfl ?_;try simp only [Act.put,awL]
   refine' tkH 10 rfl ?_;try simp only [Act.put,awL]
   refine' tkH 11 rfl ?_;try simp only [Act.put,awL]
   refine' tkH 12 rfl ?_;try simp only [Act.put,awL]
   refine' tkH 13 rfl ?_;try simp only [Act.put,awL]
   refine' tkH 14 rfl ?_;try simp only [Act.put,awL]
   refine' tkH 15 rfl ?_;try simp only [Act.put,awL]
   refine' tkH 16 rfl ?_;try simp only [Act.put,awL]
   refine' tkH 17 rfl ?_;try simp only [Act.put,awL]
   refine' tkH 18 rfl ?_;try simp only [Act.put,awL]
   refine' tkH 19 rfl ?_;try simp only [Act.put,awL]
   refine' tkH 20 rfl ?_;try simp only [Act.put,awL]
   refine' tkH 21 rfl ?_;try simp only [Act.put,awL]
   refine' tkH 22 rfl ?_;try simp only [Act.put,awL]
   refine wpAnyH_ready (rs:=[23]) (by kernel_rfl) (by simp) ?_
   refine AllReadyH.cons rfl (λ K hK=>?_) AllReadyH.nil
   go_simp
   go_at_call 102
   refine Calls.at_args ATC (by with_reducible rfl) ?_
   rintro e w7 ⟨rfl,hk7,HB7⟩
   refine hK.out _ _ ?_ (λ hHeld=>?_)
   ·exact hk7
   clear hK K
   try simp only [Act.put,awL]
   refine' tkH 24 rfl ?_;try simp only [Act.put,awL]
   refine' tkH 25 rfl ?_;try simp only [Act.put,awL]
   refine' tkH 26 rfl ?_;try simp only [Act.put,awL]
   refine' tkH 27 rfl ?_;try simp only [Act.put,awL]
   refine' tkH 28 rfl ?_;try simp only [Act.put,awL]
   refine' tkH 29 rfl ?_;try simp only [Act.put,awL]
   refine' tkH 30 rfl ?_;try simp only [Act.put,awL]
   refine' tkH 31 rfl ?_;try simp only [Act.put,awL]
   refine' tkH 32 rfl ?_;try simp only [Act.put,awL]
   refine' tkH 33 rfl ?_;try simp only [Act.put,awL]
   refine' tkH 34 rfl ?_;try simp only [Act.put,awL]
   refine' tkH 35 rfl ?_;try simp only [Act.put,awL]
   refine' tkH 36 rfl ?_;try simp only [Act.put,awL]
   refine wpAnyH_done (by kernel_rfl) ?_ _
   refine NoPanic.normal ?_
   go_wp2_with fail
   go_ret2
   exact ⟨by simp,Hd ⟨_,_,_,_,_,_,_,HG.out _ HB7.out⟩⟩
end
def zq2 (Y:Nat) (O W:World) (K:Nat->Prop) (B H I J M k:Nat) (U V:Value) (C:List Ck) (L:List Lg) (X a:Nat) (pf rf:Nat) (pargs rargs:Array Value) (pr prF:Value) (rt:Value->Value):Prop :=
 ∃ D E,(Calls Tryz.prog pf pargs W λ e A=>∃ r,e=.returned r/\Hid ((r=prF/\Chs [] O W A K H I J M Y 999 a C L X (cpg C))\/(r=pr/\∃ a' C' L' nx',rC C'=D/\rL L'=E/\znr (k+1) a' C' L'/\Chs [] O W A K H I J M Y 999 a' C' L' nx' (cpg C')))) /\
  (∀ W2,StR W2 (.agg #[U,V]) (rC C) (rL L)->Calls Tryz.prog rf rargs W2 λ e A=>∃ v',e=.returned (rt v')/\Hid ((StR A v' D E/\Below W2.heap.size W2 A)/\∀ P,zau P (.agg #[U,V])->zau (λ b=>P b\/W2.heap.size<=b) v'))
section
variable {O W:World} {Y:Nat} {B H I J M k a X:Nat} {U V:Value} {K:Nat->Prop} {C:List Ck} {L:List Lg}
theorem RnL.putF (h:RnL Y 999 O B H I J M k U V K C L X a W) (hk:k<80) (t:ByteArray) :
 ∃ (id:ByteArray) (fr:Bool) (er:Int),(er == 4)=false/\zq2 Y O W K B H I J M k U V C L X a 18 97 #[.pointer (some ⟨H,0,none⟩),.string t] #[.agg #[U,V],.string t] (.tuple #[.string id,.bool fr,.int .i64 er]) (.tuple #[.string ⟨#[]⟩,.bool false,.int .i64 4]) (λ v'=>.tuple #[v',.string id,.bool fr,.int .i64 er]):=by
 obtain ⟨⟨s1,s2,s3⟩,s4⟩:=h.sm hk
 have hbg:900<=999/\999<=1000:=by decide
 by_cases ht:t.size<1\/128<t.size
 ·refine ⟨⟨#[]⟩,false,1,rfl,rC C,rL L,?_,λ W2 h2=>znd _ (rC C) (rL L) t W2 h2 ht⟩
  refine (znh O W W _ H I J M Y 999 a X C L (cpg C) t (Hd h.st) ⟨by omega,hbg.2⟩ ht).mono ?_
  rintro e A ⟨rfl,hE⟩
  exact ⟨_,rfl,Hd (.inr ⟨rfl,a,C,L,X,rfl,rfl,h.bud.same,hE.out⟩)⟩
 ·have t1:1<=t.size:=by omega
  have t2:t.size<=128:=by omega
  refine ⟨(zew (rC C) t).2.1,(zew (rC C) t).2.2.1,0,rfl,(zew (rC C) t).1,rL L,?_,?_⟩
  ·refine (zsi O W W _ H I J M Y 999 a X C L (cpg C) t (Hd h.st) ⟨by omega,hbg.2⟩ t1 t2 (by omega) (λ c hc=>List.mem_map.2 ⟨c,hc,rfl⟩)).mono ?_
   rintro e A ⟨id,fresh,er,rfl,hE⟩
   rcases hE.out with ⟨rfl,hF⟩|⟨rfl,-,rfl,rfl,hF⟩
   rotate_left
   ·exact ⟨_,rfl,Hd (.inl ⟨rfl,hF⟩)⟩
   clear hE
   rcases hF with ⟨rfl,kk,c,hkk,rfl,hc,ht',hno,hE⟩|⟨rfl,kk,page,C',hkk,rfl,hc,hf,hno,hp,hE⟩
   ·have hput:=zj5 t1 t2 hkk hc ht' hno
    rw [hput]
    exact ⟨_,rfl,Hd (.inr ⟨rfl,a,C,L,X,rfl,rfl,h.bud.same,hE⟩)⟩
   ·have hput:=zj6 t1 t2 hkk hc hf hno hp
    have hq:=hE.perm (zmR (c:=⟨zas (prB t) kk,page,0,t⟩) hc hp)
    have hl:C'.length=C.length+1:=by
     have h1:=zmL hp hc
     have h2:=zfV (rC C) (zas (prB t) kk,t,0)
     simp only at h1
     rw [h1,zaJ,zaJ] at h2
     exact h2
    obtain ⟨b1,b2,b3⟩:=h.bud
    rw [hput]
    refine ⟨_,rfl,Hd (.inr ⟨rfl,a+2,C',L,X,rfl,rfl,⟨by omega,by omega,λ d hd=>?_⟩,hq⟩)⟩
    rcases hp.mem d hd with rfl|hd
    ·simp only;omega
    ·have:=b3 d hd;omega
  ·intro W2 h2
   have hR:=zpr _ (rC C) (rL L) t W2 h2 (by rw [zaJ];omega) t1 t2
   have h0:(zew (rC C) t).2.2.2=0:=by
    cases hh:(List.range 256).find? (zg8 (rC C) (prB t) t) with
    | some kk=>unfold zew;rw [if_neg ht];simp only [hh]
    | none =>
      cases hg:(List.range 256).find? (zd1 (rC C) (prB t)) with
      | some kk=>unfold zew;rw [if_neg ht];simp only [hh,hg]
      | none =>
        exfalso
        rw [List.find?_range_eq_none] at hg
        have hnn:∀ j,j<256->cAt C (zas (prB t) j)≠none:=λ j hj hc=>by
         have:=hg j hj
         unfold zd1 at this
         rw [zcH,hc] at this
         simp at this
        have:=zfS (zNr 256) hnn
        omega
   rw [h0] at hR
   exact hR
theorem RnL.addF (h:RnL Y 999 O B H I J M k U V K C L X a W) (hk:k<80) (id:ByteArray) (by_:Int) :
 ∃ (er:Int),(er == 4)=false/\zq2 Y O W K B H I J M k U V C L X a 19 99 #[.pointer (some ⟨H,0,none⟩),.string id,.int .i64 by_] #[.agg #[U,V],.string id,.int .i64 by_] (.int .i64 er) (.int .i64 4) (λ v'=>.tuple #[v',.int .i64 er]):=by
 obtain ⟨⟨s1,s2,s3⟩,s4⟩:=h.sm hk
 have hbg:900<=999/\999<=1000:=by decide
 have ERR:∀ er:Int,(er == 4)=false->(((by_≠1/\by_≠-1)/\er=1)\/((by_=1\/by_=-1)/\cAt C id=none/\er=6))->∃ (er:Int),(er == 4)=false/\zq2 Y O W K B H I J M k U V C L X a 19 99 #[.pointer (some ⟨H,0,none⟩),.string id,.int .i64 by_] #[.agg #[U,V],.string id,.int .i64 by_] (.int .i64 er) (.int .i64 4) (λ v'=>.tuple #[v',.int .i64 er]):=λ er h4 hc=>by
  refine ⟨er,h4,rC C,rL L,?_,λ W2 h2=>znc _ (rC C) (rL L) id by_ er W2 h2 (by rw [zaJ];omega) (hc.imp (λ g=>g) λ g=>⟨g.1,by rw [zcH,g.2.1];rfl,g.2.2⟩)⟩
  refine (zmS O W W _ H I J M Y 999 a X C L (cpg C) id by_ er (Hd h.st) ⟨by omega,hbg.2⟩ hc).mono ?_
  rintro e A ⟨rfl,hE⟩
  exact ⟨_,rfl,Hd (.inr ⟨rfl,a,C,L,X,rfl,rfl,h.bud.same,hE.out⟩)⟩
 by_cases hb:by_=1\/by_=-1
 ·cases hf:cAt C id with
  | none=>exact ERR 6 rfl (.inr ⟨hb,hf,rfl⟩)
  | some c =>
    obtain ⟨up,hup⟩:∃ up,by_=byI up:=by
     rcases hb with rfl|rfl
     ·exact ⟨true,rfl⟩
     ·exact ⟨false,rfl⟩
    have hi:=znm hf h.st.ok.1
    refine ⟨0,rfl,rC C,rL L++[(id,by_)],?_,λ W2 h2=>zm7 _ (rC C) (rL L) id by_ W2 h2 (by rw [zaJ];omega) (by rw [zc1];omega) hb _ (by rw [zcH,hf];rfl)⟩
    rw [hup]
    refine (zsj O W W _ H I J M Y 999 a X C L (cpg C) id up c (Hd h.st) ⟨by omega,hbg.2⟩ hi hf).mono ?_
    rintro e A ⟨er,rfl,hE⟩
    obtain ⟨b1,b2,b3⟩:=h.bud
    rcases hE.out with ⟨rfl,hF⟩|⟨rfl,-,hF⟩
    rotate_left
    ·exact ⟨_,rfl,Hd (.inl ⟨rfl,hF⟩)⟩
    refine ⟨_,rfl,Hd (.inr ⟨rfl,_,C,_,_,rfl,by rw [zi0];rfl,⟨?_,?_,λ c hc=>?_⟩,hF⟩)⟩
    ·simp only [zLa,List.length_singleton];omega
    ·simp only [zLa,List.length_singleton];omega
    ·have:=b3 c hc
     simp only [zLa,List.length_singleton];push_cast;omega
 ·exact ERR 1 rfl (.inl ⟨⟨λ e=>hb (.inl e),λ e=>hb (.inr e)⟩,rfl⟩)
end
def zlc (Y:Nat) (O:World) (B H I J M k:Nat) (U V:Value) (K:Nat->Prop) (C:List Ck) (L:List Lg) (X a:Nat) (wr A:World) (full:Bool):Prop :=
 (full=true/\RnL Y 999 O B H I J M (k+1) U V K C L X a A/\zbX K wr A)\/(full=false/\∃ v0' v1' K' C2 L2 nx2 a2,RnL Y 999 O B H I J M (k+1) v0' v1' K' C2 L2 nx2 a2 A)
section
variable {O wr A:World} {Y F:Nat} {B H I J M k a X:Nat} {U V:Value} {K K2:Nat->Prop} {C:List Ck} {L:List Lg}
theorem RnL.monoK (h:RnL Y F O B H I J M k U V K C L X a wr) (hK:∀ k,K2 k->K k) (hB:K2 B) (hl:zau (λ j=>K2 j/\j≠B) (.agg #[U,V])):RnL Y F O B H I J M k U V K2 C L X a wr :=
 ⟨(h.st.mono hK).reset,h.box,hB,h.ref,hl,h.lo,h.bud,h.big⟩
theorem zq3 (n by_:Int) (t:ByteArray) (r0:Bool) (h:Hid (RnL Y 999 O B H I J M k U V K C L X a wr)) (hk:k<80) :
 Calls Tryz.prog 47 #[.pointer (some ⟨H,0,none⟩),.pointer (some ⟨B,0,none⟩),.agg #[.int .i64 0,.int .i64 n,.int .i64 by_,.string t,.bool r0]] wr λ e A=>∃ full:Bool,e=.returned (.tuple #[.bool true,.bool full])/\Hid (zlc Y O B H I J M k U V K C L X a wr A full):=by
 have hN:=h.out.new (zf5 0 n by_ t r0)
 obtain ⟨W1,hW1⟩:=exE (wr.alloc (.cells #[.int .i64 0,.int .i64 n,.int .i64 by_,.string t,.bool r0] 96))
 rw [show wr.alloc (zf5 0 n by_ t r0)=W1 from hW1] at hN
 have hy:W1.heap[wr.heap.size]?=some (zf5 0 n by_ t r0):=by rw [<-hW1];exact heap_alloc_new _ _
 obtain ⟨f0,a0,f1,m1,hf⟩:=h.out.ref.form
 cases hf
 have HKB:=Hd h.out.kb
 have HLOC:=Hd h.out.loc
 have HN:=Hd hN
 have HY:=Hd hy
 obtain ⟨y0,y1,y2,y3,y4⟩:=zbl (K:=K) (λ _ _=>rfl) hy
 obtain ⟨id,fr,er,her,hbo⟩:=HN.out.putF hk t
 obtain ⟨D,E,PE,RP⟩:=hbo
 have HKW:Hid (zbX K wr W1):=Hd (by rw [<-hW1];exact h.out.st.keep ((zBr _ _).alloc (zNr _) _))
 clear hN hy h
 go_enter Tryz.func47,Tryz.ntmps47
 go_wp2_with fail
 clear hW1
 refine PE.mono ?_
 rintro e Z ⟨r,rfl,q4⟩
 rcases q4.out with ⟨rfl,q5⟩|⟨rfl,a',C',L',nx',hD,hE,hbud',q5⟩
 ·have HG:Hid (zlc Y O B H I J M k (.slice f0 (rC C).length a0) (.slice f1 (rL L).length m1) K C L X a wr Z true):=Hd (.inl ⟨rfl,(HN.out.same q5).monoK (λ k hk=>.inl hk) HKB.out HLOC.out,HKW.out.trans (q5.kept.mono λ k hk=>.inl hk)⟩)
  clear q4 q5 PE RP HN HY HKW
  go_wp2_with fail
  go_ret2
  exact ⟨true,by simp,HG⟩
 ·clear y0 y1 y2 y3 y4 PE
  obtain ⟨y0,y1,y2,y3,y4⟩:=zbl q5.kept HY.out
  have bx4:=(q5.kept B HN.out.kb).trans HN.out.box
  have s:=zaa bx4 (i:=0) rfl
  have u:=zaa bx4 (i:=1) rfl
  obtain ⟨hS0,hSa,RA,RB⟩:=RnL.calls (rt:=λ v'=>.tuple #[v',.string id,.bool fr,.int .i64 er]) (fn:=97) (args:=#[.agg #[.slice f0 (rC C).length a0,.slice f1 (rL L).length m1],.string t]) HN.out q5 HY.out hbud' (λ W hW=>by rw [hD,hE];exact RP W hW)
  unfold zhk at hS0 hSa RA RB
  clear RP bx4 HY HN q5 hbud' hD hE
  go_wp2_with fail
  go_region_held3 (λ A=>A.cell? ⟨B,0,none⟩=some (.slice f0 (rC C).length a0)/\A.cell? ⟨B,1,none⟩=some (.slice f1 (rL L).length m1)/\A.cell? ⟨wr.heap.size,0,none⟩=some (.int .i64 0)/\A.cell? ⟨wr.heap.size,1,none⟩=some (.int .i64 n)/\A.cell? ⟨wr.heap.size,2,none⟩=some (.int .i64 by_)/\A.cell? ⟨wr.heap.size,3,none⟩=some (.string t)/\A.cell? ⟨wr.heap.size,4,none⟩=some (.bool r0)) (first|(go_keep;done)|exact hSa _|exact hka _|exact hkb) ((first
   | (go_at_call 97
      refine Calls.at_args RA (by with_reducible rfl) ?_
      rintro e w5 ⟨g0,n0,c0,g1,n1,c1,rfl,hk5,hka,HA⟩)
   | (go_at_call 97
      refine Calls.at_args RB (by with_reducible rfl) ?_
      rintro e w5 ⟨g0,n0,c0,g1,n1,c1,rfl,hk5,hkb,⟨⟨t0,t1⟩,t2,t3⟩,HA⟩)))
  all_goals (
   clear s u y0 y1 y2 y3 y4
   first
    | obtain ⟨⟨z0,z1⟩,⟨b0,b1,b2,b3⟩,HG⟩:=HA.out _ rfl
    | obtain ⟨⟨z0,z1⟩,⟨b0,b1,b2,b3⟩,HG⟩:=HA.out
   go_wp2_with fail
   go_ret2
   exact ⟨false,by simp,Hd (.inr ⟨rfl,HG.out⟩)⟩)
theorem zq4 (n by_:Int) (t:ByteArray) (r0:Bool) (h:Hid (RnL Y 999 O B H I J M k U V K C L X a wr)) (hk:k<80) :
 Calls Tryz.prog 47 #[.pointer (some ⟨H,0,none⟩),.pointer (some ⟨B,0,none⟩),.agg #[.int .i64 1,.int .i64 n,.int .i64 by_,.string t,.bool r0]] wr λ e A=>∃ full:Bool,e=.returned (.tuple #[.bool true,.bool full])/\Hid (zlc Y O B H I J M k U V K C L X a wr A full):=by
 have hN:=h.out.new (zf5 1 n by_ t r0)
 obtain ⟨W1,hW1⟩:=exE (wr.alloc (.cells #[.int .i64 1,.int .i64 n,.int .i64 by_,.string t,.bool r0] 96))
 rw [show wr.alloc (zf5 1 n by_ t r0)=W1 from hW1] at hN
 have hy:W1.heap[wr.heap.size]?=some (zf5 1 n by_ t r0):=by rw [<-hW1];exact heap_alloc_new _ _
 obtain ⟨f0,a0,f1,m1,hf⟩:=h.out.ref.form
 cases hf
 have HKB:=Hd h.out.kb
 have HLOC:=Hd h.out.loc
 have HN0:=Hd hN
 obtain ⟨y0,y1,y2,y3,y4⟩:=zbl (K:=K) (λ _ _=>rfl) hy
 have s:=zaa hN.box (i:=0) rfl
 have u:=zaa hN.box (i:=1) rfl
 obtain ⟨⟨s1,s2,s3⟩,-⟩:=hN.sm hk
 have NM:Calls Tryz.prog 98 #[.agg #[.slice f0 (rC C).length a0,.slice f1 (rL L).length m1],.agg #[.int .i64 1,.int .i64 n,.int .i64 by_,.string t,.bool r0]] W1.drew λ e A=>∃ id,e=.returned (.string id)/\(A.cell? ⟨B,0,none⟩=some (.slice f0 (rC C).length a0)/\A.cell? ⟨B,1,none⟩=some (.slice f1 (rL L).length m1)/\A.cell? ⟨wr.heap.size,0,none⟩=some (.int .i64 1)/\A.cell? ⟨wr.heap.size,1,none⟩=some (.int .i64 n)/\A.cell? ⟨wr.heap.size,2,none⟩=some (.int .i64 by_)/\A.cell? ⟨wr.heap.size,3,none⟩=some (.string t)/\A.cell? ⟨wr.heap.size,4,none⟩=some (.bool r0))/\Hid (Below W1.heap.size W1 A):=by
  refine (zjh (.agg #[.slice f0 (rC C).length a0,.slice f1 (rL L).length m1]) (rC C) (rL L) (1,n,by_,t,r0) W1.drew (hN.ref.below (zBr _ _).drew) (by rw [zaJ];omega)).mono ?_
  rintro e A ⟨id,rfl,hb⟩
  have hb2:Below W1.heap.size W1 A:=(zBr W1.heap.size W1).drew.trans hb.out
  have q1:=(hb2.block _ (zab hN.box)).trans hN.box
  have q2:=(hb2.block _ (zab hy)).trans hy
  exact ⟨id,rfl,zhk.of q1 q2,Hd hb2⟩
 have HY0:=Hd hy
 have HKW0:Hid (zbX K wr W1):=Hd (by rw [<-hW1];exact h.out.st.keep ((zBr _ _).alloc (zNr _) _))
 clear hN hy h s1 s2 s3
 go_enter Tryz.func47,Tryz.ntmps47
 go_wp2_with fail
 clear hW1
 go_region_held3 (λ A=>A.cell? ⟨B,0,none⟩=some (.slice f0 (rC C).length a0)/\A.cell? ⟨B,1,none⟩=some (.slice f1 (rL L).length m1)/\A.cell? ⟨wr.heap.size,0,none⟩=some (.int .i64 1)/\A.cell? ⟨wr.heap.size,1,none⟩=some (.int .i64 n)/\A.cell? ⟨wr.heap.size,2,none⟩=some (.int .i64 by_)/\A.cell? ⟨wr.heap.size,3,none⟩=some (.string t)/\A.cell? ⟨wr.heap.size,4,none⟩=some (.bool r0)) (go_keep) ((first
  | (go_at_call 98
     refine Calls.at_args NM (by with_reducible rfl) ?_
     rintro e w2 ⟨id,rfl,hk2,HB2⟩)))
 have HKW:Hid (zbX K wr w2):=Hd (HKW0.out.trans ((HN0.out.st.keep HB2.out).mono λ k hk=>.inl hk))
 have hN:=HN0.out.below HB2.out
 have hy:=(HB2.out.block _ (zab HY0.out)).trans HY0.out
 have HN:=Hd hN
 have HY:=Hd hy
 clear s u y0 y1 y2 y3 y4
 obtain ⟨s,u,y0,y1,y2,y3,y4⟩:=hk2
 obtain ⟨er,her,hbo⟩:=HN.out.addF hk id by_
 obtain ⟨D,E,PE,RP⟩:=hbo
 clear hN hy HN0 HY0 HB2 NM HKW0
 go_wp2_with fail
 refine PE.mono ?_
 rintro e Z ⟨r,rfl,q4⟩
 rcases q4.out with ⟨rfl,q5⟩|⟨rfl,a',C',L',nx',hD,hE,hbud',q5⟩
 ·have HG:Hid (zlc Y O B H I J M k (.slice f0 (rC C).length a0) (.slice f1 (rL L).length m1) K C L X a wr Z true):=Hd (.inl ⟨rfl,(HN.out.same q5).monoK (λ k hk=>.inl hk) HKB.out HLOC.out,HKW.out.trans (q5.kept.mono λ k hk=>.inl hk)⟩)
  clear q4 q5 PE RP HN HY HKW
  go_wp2_with fail
  go_ret2
  exact ⟨true,by simp,HG⟩
 ·clear s u y0 y1 y2 y3 y4 PE
  obtain ⟨y0,y1,y2,y3,y4⟩:=zbl q5.kept HY.out
  have bx4:=(q5.kept B HN.out.kb).trans HN.out.box
  have s:=zaa bx4 (i:=0) rfl
  have u:=zaa bx4 (i:=1) rfl
  obtain ⟨hS0,hSa,RA,RB⟩:=RnL.calls (rt:=λ v'=>.tuple #[v',.int .i64 er]) (fn:=99) (args:=#[.agg #[.slice f0 (rC C).length a0,.slice f1 (rL L).length m1],.string id,.int .i64 by_]) HN.out q5 HY.out hbud' (λ W hW=>by rw [hD,hE];exact RP W hW)
  unfold zhk at hS0 hSa RA RB
  clear RP bx4 HY HN q5 hbud' hD hE
  go_wp2_with fail
  go_region_held3 (λ A=>A.cell? ⟨B,0,none⟩=some (.slice f0 (rC C).length a0)/\A.cell? ⟨B,1,none⟩=some (.slice f1 (rL L).length m1)/\A.cell? ⟨wr.heap.size,0,none⟩=some (.int .i64 1)/\A.cell? ⟨wr.heap.size,1,none⟩=some (.int .i64 n)/\A.cell? ⟨wr.heap.size,2,none⟩=some (.int .i64 by_)/\A.cell? ⟨wr.heap.size,3,none⟩=some (.string t)/\A.cell? ⟨wr.heap.size,4,none⟩=some (.bool r0)) (first|(go_keep;done)|exact hSa _|exact hka _|exact hkb) ((first
   | (go_at_call 99
      refine Calls.at_args RA (by with_reducible rfl) ?_
      rintro e w5 ⟨g0,n0,c0,g1,n1,c1,rfl,hk5,hka,HA⟩)
   | (go_at_call 99
      refine Calls.at_args RB (by with_reducible rfl) ?_
      rintro e w5 ⟨g0,n0,c0,g1,n1,c1,rfl,hk5,hkb,⟨⟨t0,t1⟩,t2,t3⟩,HA⟩)))
  all_goals (
   clear s u y0 y1 y2 y3 y4
   first
    | obtain ⟨⟨z0,z1⟩,⟨b0,b1,b2,b3⟩,HG⟩:=HA.out _ rfl
    | obtain ⟨⟨z0,z1⟩,⟨b0,b1,b2,b3⟩,HG⟩:=HA.out
   go_wp2_with fail
   go_ret2
   exact ⟨false,by simp,Hd (.inr ⟨rfl,HG.out⟩)⟩)
end
section
variable {O wr:World} {B H I J M k a X:Nat} {U V:Value} {K:Nat->Prop} {C:List Ck} {L:List Lg}
end
section
variable {O wr A:World} {Y F:Nat} {B H I J M k a X:Nat} {U V:Value} {K K2:Nat->Prop} {C:List Ck} {L:List Lg}
theorem zsT (p:AcT) (hp:zst p) (h:Hid (RnL Y 999 O B H I J M k U V K C L X a wr)) (hk:k<80) :
 Calls Tryz.prog 47 #[.pointer (some ⟨H,0,none⟩),.pointer (some ⟨B,0,none⟩),.agg #[.int .i64 p.1,.int .i64 p.2.1,.int .i64 p.2.2.1,.string p.2.2.2.1,.bool p.2.2.2.2]] wr λ e A=>∃ full:Bool,e=.returned (.tuple #[.bool true,.bool full])/\Hid (zlc Y O B H I J M k U V K C L X a wr A full):=by
 obtain ⟨wt,n,by_,t,r0⟩:=p
 have LIFT:∀ {e:Ending} {A:World},(e=.returned (.tuple #[.bool true,.bool false])/\Hid (∃ v0' v1' K' C2 L2 nx2 a2,RnL Y 999 O B H I J M (k+1) v0' v1' K' C2 L2 nx2 a2 A))->∃ full:Bool,e=.returned (.tuple #[.bool true,.bool full])/\Hid (zlc Y O B H I J M k U V K C L X a wr A full):=λ ⟨e1,e2⟩=>⟨false,e1,Hd (.inr ⟨rfl,e2.out⟩)⟩
 simp only
 by_cases h0:wt=0
 ·subst h0;exact zq3 n by_ t r0 h hk
 by_cases h1:wt=1
 ·subst h1;exact zq4 n by_ t r0 h hk
 by_cases h2:wt=2
 ·subst h2;exact (zoT n by_ t r0 h hk hp.2.1).mono λ e A h=>LIFT h
 by_cases h3:wt=3
 ·subst h3;exact (zq0 n by_ t r0 h hk hp.2.1).mono λ e A h=>LIFT h
 by_cases h4:wt=4
 ·subst h4;exact (zsu n by_ t r0 h hk).mono λ e A h=>LIFT h
 by_cases h5:wt=5
 ·subst h5;exact (zoS n by_ t r0 h hk).mono λ e A h=>LIFT h
 exact (zq1 wt n by_ t r0 h ⟨h0,h1,h2,h3,h4,h5⟩).mono λ e A h=>LIFT h
theorem RnL.reset (h:RnL Y F O B H I J M k U V K C L X a wr) :
 (wr.cell? ⟨B,0,none⟩=some U/\wr.frozen? ⟨B,0,none⟩=false/\(wr.setCell ⟨B,0,none⟩ U).cell? ⟨B,1,none⟩=some V/\(wr.setCell ⟨B,0,none⟩ U).frozen? ⟨B,1,none⟩=false) /\
 RnL Y F O B H I J M k U V K C L X a ((wr.setCell ⟨B,0,none⟩ U).setCell ⟨B,1,none⟩ V):=by
 have hU:Upd (λ k=>k=B) wr ((wr.setCell ⟨B,0,none⟩ U).setCell ⟨B,1,none⟩ V):=Upd.setCell (S:=λ k=>k=B) (Upd.setCell (S:=λ k=>k=B) (Upd.refl _ wr) (p:=⟨B,0,none⟩) (.inl rfl) U) (p:=⟨B,1,none⟩) (.inl rfl) V
 have hs1:=zac (i:=0) h.box U
 have hs2:=zac (i:=1) hs1 V
 have hset:=h.st.updN hU λ j e=>by
  subst e
  exact ⟨h.kb,h.lo⟩
 exact ⟨⟨zaa h.box rfl,zad h.box 0,zaa hs1 rfl,zad hs1 1⟩,hset.mono λ j hj=>.inl hj,hs2,h.kb,(h.ref.setLoc h.loc (λ hj=>hj.2 rfl) U).setLoc h.loc (λ hj=>hj.2 rfl) V,h.loc,h.lo,h.bud,h.big⟩
theorem RnL.holds (h:RnL Y F O B H I J M k U V K C L X a wr) (hk:k<=80) :
 Calls Tryz.prog 37 #[.pointer (some ⟨H,0,none⟩),.agg #[U,V]] wr λ e A=>e=.returned (.bool true)/\Hid (RnL Y F O B H I J M k U V K C L X a A):=by
 obtain ⟨b1,b2,b3⟩:=h.bud
 have hbg:=h.big
 refine (zqT O wr wr K H I J M Y F a X C L (cpg C) (.agg #[U,V]) (Hd h.st) ⟨by omega,hbg.2⟩ (by omega) (by omega) (λ c hc=>List.mem_map.2 ⟨c,hc,rfl⟩) h.ref (h.loc.mono λ k hk=>hk.1)).mono ?_
 rintro e A ⟨rfl,hE⟩
 exact ⟨rfl,Hd (h.stay hE.out)⟩
theorem RnL.startN {O we:World} {H I J M:Nat} (hbig:900<=F/\F<=1000) (h:Chs [] O we we (λ _=>False) H I J M Y F 0 [] [] 0 []):RnL Y F O we.heap.size H I J M 0 (.slice none 0 0) (.slice none 0 0) (λ j=>False\/j=we.heap.size) [] [] 0 0 (we.alloc (.cells #[.slice none 0 0,.slice none 0 0] 52)):=by
 have hb:Below we.heap.size we (we.alloc (.cells #[.slice none 0 0,.slice none 0 0] 52)):=(zBr _ _).alloc (zNr _) _
 have hs:=h.sbk
 have l1:=zab hs.1
 have l2:=zab hs.2.1
 have l3:=zab hs.2.2
 exact ⟨h.new hb we.heap.size (zNr _) (by simp),heap_alloc_new _ _,.inr rfl,StR.nil _,⟨_,_,rfl,λ g e=>(by cases e),λ g e=>(by cases e)⟩,⟨h.bel.size,by omega,by omega,by omega⟩,⟨by simp,by simp,λ c hc=>(by cases hc)⟩,hbig⟩
end
theorem zik (n0:Int) (v:Value) (l:List AcT) (w:World) (h:zgy w v l) :
 Calls Tryz.prog 11 #[.int .i64 n0,v] w λ e A=>e=.returned (.bool true)/\Hid (Below w.heap.size w A):=by
 have AW:=zmJ
 have BE:=zln
 have SM:Hid (∀ O,Below w.heap.size w O->Calls Tryz.prog 46 #[v] O λ e A=>e=.returned (.bool (zdQ l))/\Hid (Below O.heap.size O A)):=Hd λ O hb=>zqU v l O (h.below hb)
 have HV:=Hd h
 obtain ⟨a,cap,rfl,hc⟩:=h
 have HC:=Hd hc
 clear hc
 by_cases hlo:n0<4
 ·go_enter Tryz.func11,Tryz.ntmps11
  go_wp2_with fail
  refine (AW _).mono ?_
  rintro e wa ⟨rfl,hb⟩
  clear AW SM
  go_wp2_with fail
  go_ret
  exact ⟨rfl,hb⟩
 by_cases hhi:40<n0
 ·go_enter Tryz.func11,Tryz.ntmps11
  go_wp2_with fail
  refine (AW _).mono ?_
  rintro e wa ⟨rfl,hb⟩
  clear AW SM
  go_wp2_with fail
  go_ret
  exact ⟨rfl,hb⟩
 obtain ⟨Y,rfl⟩:∃ Y:Nat,n0=(Y:Int):=⟨n0.toNat,by omega⟩
 have h4:4<=Y:=by omega
 have h40:Y<=40:=by omega
 have WD:=λ w=>zo2 Y w h4 (by omega)
 have H4:=Hd (And.intro h4 h40)
 go_enter Tryz.func11,Tryz.ntmps11
 go_wp2_with fail
 refine (AW _).mono ?_
 rintro e wa ⟨rfl,hb⟩
 have S1:=SM.out wa hb.out
 have HBA:=Hd hb.out
 clear AW SM hb
 go_wp2_with fail
 refine S1.mono ?_
 rintro e ws ⟨rfl,hb⟩
 have HBS:=Hd (HBA.out.trans (hb.out.mono HBA.out.size))
 clear S1 hb HBA
 cases hsm:zdQ l with
 | false =>
   go_wp2_with fail
   go_ret
   exact ⟨rfl,HBS⟩
 | true =>
   have h80:l.length<=80:=by
    unfold zdQ at hsm
    rw [Bool.and_eq_true] at hsm
    exact of_decide_eq_true hsm.1
   have H80:=Hd h80
   clear hsm h80
   go_wp2_with fail
   refine (WD _).mono ?_
   rintro e wb ⟨db,lb,FL,rfl,H1⟩
   go_wp2_with fail
   refine (BE lb wb).mono ?_
   rintro e wc ⟨rfl,H2⟩
   have OF:=zsW _ lb Y FL _ [] wc (zmg H1.out H2.out) h4
   go_wp2_with fail
   refine OF.mono ?_
   rintro e wd ⟨I,G,rfl,H3⟩
   have NR:=Hd (zeG.of HBS.out H1.out H2.out H3.out)
   clear OF H1 H2 H3 WD BE
   have AT:=zsY I wd
   go_wp2_with fail
   refine AT.mono ?_
   rintro e we ⟨H,J,M,rfl,HA⟩
   have M0:=Hd (RnL.startN (F:=999) ⟨by decide,by decide⟩ (Chs.start (N:=999) NR.out h4 (by rw [zmx];exact zNz _) HA.out.1 HA.out.2.1 HA.out.2.2))
   clear NR HA AT h4 h40 hlo hhi
   have M1:Hid (∃ U V K C L X a,RnL Y 999 w we.heap.size H I J M 0 U V K C L X a (we.alloc (.cells #[.slice none 0 0,.slice none 0 0] 52))):=Hd ⟨_,_,_,_,_,_,_,M0.out⟩
   clear M0
   obtain ⟨B,hB⟩:=exE (we.heap.size)
   rw [hB] at M1
   go_wp2_with fail
   go_loopg [39] l.length (λ g s39 wr=>∃ (i:Nat),g=l.length-i/\i<=l.length/\s39=.int .i64 (i:Int)/\Hid (∃ U V K C L X a,RnL Y 999 w B H I J M i U V K C L X a wr))
   case atStart=>exact ⟨0,rfl,zNz _,rfl,M1⟩
   case round =>
    obtain ⟨i,rfl,hi,rfl,HR⟩:=hrel
    clear M1 hB
    obtain ⟨U,V,K,C,L,X,aa,HI⟩:=HR.out
    by_cases hlt:i<l.length
    ·obtain ⟨b,off,rfl,hbl,⟨c0,c1,c2,c3,c4⟩,hok⟩:=HC.out i hlt
     have kk:∀ j,wr.cell? ⟨b,j,none⟩=w.cell? ⟨b,j,none⟩:=λ j=>HI.st.bel.cell (p:=⟨b,j,none⟩) hbl
     replace c0:=(kk _).trans c0
     replace c1:=(kk _).trans c1
     replace c2:=(kk _).trans c2
     replace c3:=(kk _).trans c3
     replace c4:=(kk _).trans c4
     have hi80:i<80:=by have:=H80.out;omega
     obtain ⟨f0,a0,f1,m1,hf⟩:=HI.ref.form
     cases hf
     obtain ⟨wy,hwy⟩:=exE (wr.alloc (.cells #[.int .i64 l[i].1,.int .i64 l[i].2.1,.int .i64 l[i].2.2.1,.string l[i].2.2.2.1,.bool l[i].2.2.2.2] 96))
     obtain ⟨wx,hwx⟩:=exE (wy.alloc (.cells #[.slice f0 (rC C).length a0,.slice f1 (rL L).length m1] 52))
     have R1:=HI.new (.cells #[.int .i64 l[i].1,.int .i64 l[i].2.1,.int .i64 l[i].2.2.1,.string l[i].2.2.2.1,.bool l[i].2.2.2.2] 96)
     rw [hwy] at R1
     have R2:=R1.new (.cells #[.slice f0 (rC C).length a0,.slice f1 (rL L).length m1] 52)
     rw [hwx] at R2
     have hys:wy.heap.size=wr.heap.size+1:=by rw [<-hwy];simp
     have ywy:wy.heap[wr.heap.size]?=some (.cells #[.int .i64 l[i].1,.int .i64 l[i].2.1,.int .i64 l[i].2.2.1,.string l[i].2.2.2.1,.bool l[i].2.2.2.2] 96 (0,0)):=by rw [<-hwy];exact heap_alloc_new _ _
     have yw:wx.heap[wr.heap.size]?=some (.cells #[.int .i64 l[i].1,.int .i64 l[i].2.1,.int .i64 l[i].2.2.1,.string l[i].2.2.2.1,.bool l[i].2.2.2.2] 96 (0,0)):=by rw [<-ywy,<-hwx];exact ((zBr wy.heap.size wy).alloc (zNr _) _).block _ (by omega)
     have xw:wx.heap[wy.heap.size]?=some (.cells #[.slice f0 (rC C).length a0,.slice f1 (rL L).length m1] 52 (0,0)):=by rw [<-hwx];exact heap_alloc_new _ _
     rw [hys] at xw R2
     have DO:=zsT l[i] hok (Hd R2) hi80
     have q0:=zaa HI.box (i:=0) rfl
     have q1:=zaa HI.box (i:=1) rfl
     have q0y:=(zCb (((zBr wr.heap.size wr).alloc (zNr _) (.cells #[.int .i64 l[i].1,.int .i64 l[i].2.1,.int .i64 l[i].2.2.1,.string l[i].2.2.2.1,.bool l[i].2.2.2.2] 96)).block B (zab HI.box))).trans q0
     have q1y:=(zCb (((zBr wr.heap.size wr).alloc (zNr _) (.cells #[.int .i64 l[i].1,.int .i64 l[i].2.1,.int .i64 l[i].2.2.1,.string l[i].2.2.2.1,.bool l[i].2.2.2.2] 96)).block B (zab HI.box))).trans q1
     rw [hwy] at q0y q1y
     have y0:=zaa yw (i:=0) rfl
     have y1:=zaa yw (i:=1) rfl
     have y2:=zaa yw (i:=2) rfl
     have y3:=zaa yw (i:=3) rfl
     have y4:=zaa yw (i:=4) rfl
     have HXW:=Hd xw
     have HLT:=Hd hlt
     have hl5:l.length<=80:=H80.out
     have HNE:Hid (B≠wr.heap.size+1):=Hd (by have:=zab HI.box;omega)
     clear kk HI hok hbl R1 R2 HR ywy yw xw q0 q1
     generalize l[i].1=p0 at *
     generalize l[i].2.1=p1 at *
     generalize l[i].2.2.1=p2 at *
     generalize l[i].2.2.2.1=p3 at *
     generalize l[i].2.2.2.2=p4 at *
     generalize (rC C).length=nC at *
     generalize (rL L).length=nL at *
     go_wp2_with fail
     refine DO.mono ?_
     rintro e w2 ⟨full,rfl,HD⟩
     clear DO q0y q1y y0 y1 y2 y3 y4 hwy hwx
     cases full with
     | false =>
       have H3:Hid (∃ U V K C L X a,RnL Y 999 w B H I J M (i+1) U V K C L X a w2):=Hd (by
        rcases HD.out with ⟨h,-⟩|⟨-,h⟩
        ·cases h
        ·exact h)
       obtain ⟨U,V,K',C',L',nx',a',R3⟩:=H3.out
       obtain ⟨s,u⟩:=R3.xs
       have HO:=R3.holds (by omega)
       clear HD H3 R3
       go_wp2_with fail
       refine HO.mono ?_
       rintro e w3 ⟨rfl,H4⟩
       have H5:Hid (∃ U V K C L X a,RnL Y 999 w B H I J M (i+1) U V K C L X a w3):=Hd ⟨_,_,_,_,_,_,_,H4.out⟩
       clear HO H4 s u
       go_wp2_with fail
       go_roundg (l.length-(i+1))
       case measure=>have:=HLT.out;omega
       case rel=>exact ⟨i+1,rfl,HLT.out,by congr 1,H5⟩
     | true =>
       have H3:Hid (RnL Y 999 w B H I J M (i+1) (.slice f0 nC a0) (.slice f1 nL m1) (λ j=>(K j\/j=wr.heap.size)\/j=wr.heap.size+1) C L X aa w2/\zbX (λ j=>(K j\/j=wr.heap.size)\/j=wr.heap.size+1) wx w2):=Hd (by
        rcases HD.out with ⟨-,h1,h2⟩|⟨h,-⟩
        ·exact ⟨h1,h2⟩
        ·cases h)
       have bw:=(H3.out.2 _ (.inr rfl)).trans HXW.out
       have z0:=zaa bw (i:=0) rfl
       have z1:=zaa bw (i:=1) rfl
       obtain ⟨⟨c0,q0,c1,q1⟩,R4⟩:=H3.out.1.reset
       obtain ⟨e0,e1⟩:=R4.xs
       have HO:=R4.holds (by omega)
       obtain ⟨w3,hw3⟩:=exE ((w2.setCell ⟨B,0,none⟩ (.slice f0 nC a0)).setCell ⟨B,1,none⟩ (.slice f1 nL m1))
       rw [hw3] at e0 e1 HO
       clear HD H3 R4 bw
       go_wp2_with fail
       refine HO.mono ?_
       rintro e Z ⟨rfl,H4⟩
       have H5:Hid (∃ U V K C L X a,RnL Y 999 w B H I J M (i+1) U V K C L X a Z):=Hd ⟨_,_,_,_,_,_,_,H4.out⟩
       clear HO H4 z0 z1 c0 q0 c1 q1 e0 e1 hw3
       go_wp2_with fail
       go_roundg (l.length-(i+1))
       case measure=>have:=HLT.out;omega
       case rel=>exact ⟨i+1,rfl,HLT.out,by congr 1,H5⟩
    ·obtain rfl:i=l.length:=by omega
     have HF:Hid (Below w.heap.size w wr):=Hd HI.st.bel
     clear HI HR hlt hi
     go_wp2_with fail
     go_ret
     exact ⟨rfl,HF⟩
theorem ChunksFull_w (U V:Value) (w:World) (g0:Reads w 3 U) (g1:Reads w 93 V):Calls Tryz.prog 11 #[U,V] w λ e A=>e=.returned (.bool true)/\Below w.heap.size w A:=by
 obtain ⟨n,rfl,hn⟩:=zlf Tryz.underlying3 g0
 obtain ⟨l,hl⟩:=zk9 g1
 exact (zik n V l w hl).mono λ e A h=>⟨h.1,h.2.out⟩
end Go.Proofs.YtdcjhpafipbpkaaGreatDoor
