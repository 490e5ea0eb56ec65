/- Parts of the proof of ChunksFull,joined: DelG,MapC,MapD,CutA,SumA,SumB,SumC,SumD,SumE,SumF,CutB,CutC,ManyP. No condition. -/
import Derived.Test.YtdcjhpafipbpkaaGreatDoorCf3
import Derived.StillTailTactics
import Derived.Laws.BitsAllLaws
import Derived.BigQuiet
import Derived.Deep.QuietTactic
import Derived.Deep.RegionHeld3
import Derived.Lib.Strings
import Derived.ScopeJumps
import Derived.WalkMore
set_option maxRecDepth 100000
set_option maxHeartbeats 20000000
set_option linter.unusedSimpArgs false
set_option linter.unusedVariables false
set_option linter.unusedSectionVars false
namespace Go.Proofs.YtdcjhpafipbpkaaGreatDoor
open Go.RowKit
theorem ziI (G:Nat->Prop) (tb rb place n m:Nat) (S:RS) (key:ByteArray) (w:World) (h:RmS w G rb n m S) (ht:TB w tb rb place) (hg:¬G tb) (hp:place<16) (hm:m<=3900000) (hr:S.root place=0) :
 Calls Tryz.prog 74 #[.pointer (some ⟨tb,0,none⟩),.string key] w λ e w'=>∃ was:Bool,e=.returned (.tuple #[.bool was,.int .i64 0])/\Hid (zcD w w' G rb n m place S none key was):=by
 have hmf:∀ (fn:Fn) (first cap:Array Value) (w:World),(Instr.makeFunc fn first cap).run Tryz.prog w=.ok (.func fn first cap) w:=λ _ _ _ _=>rfl
 have hnot:∀ (x:Bool) (w:World),(Op.unary .not (.bool x)).run Tryz.prog w=.ok (.bool (!x)) w:=λ _ _=>rfl
 have htl:=zab ht
 obtain ⟨c0,c1⟩:=ht.cells
 have hb3:=λ k=>zdx w tb k
 have d0:((((w.alloc (.cells #[.pointer (some ⟨tb,0,none⟩)] 103)).alloc (.cells #[.bool false] 4)).alloc (.cells #[.int .i64 0] 34)).alloc (.cells #[.int .i64 0] 3)).cell? ⟨tb,0,none⟩=some (.pointer (some ⟨rb,0,none⟩)):=(zCb ((hb3 0).block tb htl)).trans c0
 have M3:Hid (Calls Tryz.prog 114 #[.pointer (some ⟨rb,0,none⟩)] ((((w.alloc (.cells #[.pointer (some ⟨tb,0,none⟩)] 103)).alloc (.cells #[.bool false] 4)).alloc (.cells #[.int .i64 0] 34)).alloc (.cells #[.int .i64 0] 3)) λ e w'=>∃ k:Nat,e=.returned (.int .i64 (k:Int))/\w'=((((w.alloc (.cells #[.pointer (some ⟨tb,0,none⟩)] 103)).alloc (.cells #[.bool false] 4)).alloc (.cells #[.int .i64 0] 34)).alloc (.cells #[.int .i64 0] 3))):=Hd (zhD G rb n m S _ (h.below (hb3 0)))
 have HG:=Hd h.lt
 have B0:Hid (∀ k:Int,zak (ziH w tb k) (ziH w tb k) G G tb rb place n m S):=Hd λ k=>zak.start (h.below (hb3 k)) (ht.below (hb3 k)) hg
 have HP:=Hd hp
 have HM:=Hd hm
 have HR:=Hd hr
 clear h ht hg hp hm hr hb3 c1
 go_enter_defers Tryz.func74,Tryz.ntmps74
 go_wp2_with fail
 refine M3.out.mono ?_
 rintro e w1 ⟨k,rfl,rfl⟩
 clear M3 d0
 go_wp2_with fail
 have BW:=Hd (B0.out (k:Int))
 have LW:=Hd (zjF w tb (k:Int))
 have SW:=Hd (zhI w tb (k:Int))
 have BB:=Hd (zdx w tb (k:Int))
 change Calls Tryz.prog 125 #[.pointer (some ⟨tb,0,none⟩)] (ziH w tb (k:Int)) _
 generalize ziH w tb (k:Int)=W0 at *
 have RT:=zc3 G tb rb place n m S W0 BW.out.room BW.out.blk HP.out (by have:=HM.out;omega) (by rw [HR.out];omega)
 rw [HR.out] at RT
 refine RT.mono ?_
 rintro e w2 ⟨rfl,hb⟩
 have B2:=Hd (BW.out.below hb.out)
 have L2:=Hd (LW.out.below hb.out)
 obtain ⟨x0,x1,x2,x3,x4,x5⟩:=L2.out.cells
 have hloc:∀ x,w.heap.size<=x->¬G x:=λ x hx e=>by have:=HG.out x e;omega
 have L3:=(L2.out.setW false).setE
 have hfe:((w2.setCell ⟨w.heap.size+1,0,none⟩ (.bool false)).setCell ⟨w.heap.size+1+1,0,none⟩ (.int .i64 0)).cell? ⟨w.heap.size+1+1,0,none⟩=some (.int .i64 0):=L3.cells.2.2.1
 have hfw:((w2.setCell ⟨w.heap.size+1,0,none⟩ (.bool false)).setCell ⟨w.heap.size+1+1,0,none⟩ (.int .i64 0)).cell? ⟨w.heap.size+1,0,none⟩=some (.bool false):=L3.cells.2.1
 have HGO:Hid (zcD w ((w2.setCell ⟨w.heap.size+1,0,none⟩ (.bool false)).setCell ⟨w.heap.size+1+1,0,none⟩ (.int .i64 0)) G rb n m place S none key false):=Hd (by
  unfold zcD
  rw [if_neg (by simp)]
  exact ⟨((((StG.of B2.out BB.out).loc (by omega) (hloc _ (by omega)) 0 _).loc (by omega) (hloc _ (by omega)) 0 _).more (by omega)).go,by simp [zbh]⟩)
 clear RT hb L3
 go_wp2_with fail
 refine leaves_cons (f:=124) (args:=#[.pointer (some ⟨w.heap.size+1+1,0,none⟩)]) (by simp) (by simp [go_sem]) ?_
 refine (zax _ _).mono ?_
 rintro e u' wa ⟨rfl,rfl,rfl⟩
 refine leaves_cons (f:=129) (args:=#[.pointer (some ⟨w.heap.size+1+1,0,none⟩),.pointer (some ⟨w.heap.size,0,none⟩),.pointer (some ⟨w.heap.size+1,0,none⟩),.pointer (some ⟨w.heap.size+1+1+1,0,none⟩)]) (by simp [settle]) (by simp [go_sem]) ?_
 refine (zdi _ _ _ _ _ _ hfe).mono ?_
 rintro e u' wb ⟨rfl,rfl,rfl⟩
 simp [Leaves,settle,results,Tryz.results74,go_sem,hfe,hfw]
 exact HGO
theorem ziJ (G:Nat->Prop) (tb rb place n m:Nat) (S:RS) (hh p:Nat) (t:PT hh) (key:ByteArray) (w:World) (h:RmS w G rb n m S) (ht:TB w tb rb place) (hg:¬G tb) (hp:place<16) (hm:m<=3900000) (hr:S.root place=p+1) (hT:Tr S hh p t) (hh20:hh<=20) :
 Calls Tryz.prog 74 #[.pointer (some ⟨tb,0,none⟩),.string key] w λ e w'=>∃ was:Bool,e=.returned (.tuple #[.bool was,.int .i64 0])/\Hid (zcD w w' G rb n m place S (some ⟨hh,p,t⟩) key was):=by
 have hp65:p<65536:=by
  have:=h.lim p hT.on.top.1
  have:=h.bounds
  unfold zaf at *;omega
 have hmf:∀ (fn:Fn) (first cap:Array Value) (w:World),(Instr.makeFunc fn first cap).run Tryz.prog w=.ok (.func fn first cap) w:=λ _ _ _ _=>rfl
 have hnot:∀ (x:Bool) (w:World),(Op.unary .not (.bool x)).run Tryz.prog w=.ok (.bool (!x)) w:=λ _ _=>rfl
 have htl:=zab ht
 obtain ⟨c0,c1⟩:=ht.cells
 have hb3:=λ k=>zdx w tb k
 have d0:((((w.alloc (.cells #[.pointer (some ⟨tb,0,none⟩)] 103)).alloc (.cells #[.bool false] 4)).alloc (.cells #[.int .i64 0] 34)).alloc (.cells #[.int .i64 0] 3)).cell? ⟨tb,0,none⟩=some (.pointer (some ⟨rb,0,none⟩)):=(zCb ((hb3 0).block tb htl)).trans c0
 have M3:Hid (Calls Tryz.prog 114 #[.pointer (some ⟨rb,0,none⟩)] ((((w.alloc (.cells #[.pointer (some ⟨tb,0,none⟩)] 103)).alloc (.cells #[.bool false] 4)).alloc (.cells #[.int .i64 0] 34)).alloc (.cells #[.int .i64 0] 3)) λ e w'=>∃ k:Nat,e=.returned (.int .i64 (k:Int))/\w'=((((w.alloc (.cells #[.pointer (some ⟨tb,0,none⟩)] 103)).alloc (.cells #[.bool false] 4)).alloc (.cells #[.int .i64 0] 34)).alloc (.cells #[.int .i64 0] 3))):=Hd (zhD G rb n m S _ (h.below (hb3 0)))
 have HG:=Hd h.lt
 have B0:Hid (∀ k:Int,zak (ziH w tb k) (ziH w tb k) G G tb rb place n m S):=Hd λ k=>zak.start (h.below (hb3 k)) (ht.below (hb3 k)) hg
 have HP:=Hd hp
 have HM:=Hd hm
 have HR:=Hd hr
 have HT:=Hd hT
 have HH:=Hd hh20
 have HP65:=Hd hp65
 clear h ht hg hp hm hr hb3 c1 hT hh20 hp65
 go_enter_defers Tryz.func74,Tryz.ntmps74
 go_wp2_with fail
 refine M3.out.mono ?_
 rintro e w1 ⟨k,rfl,rfl⟩
 clear M3 d0
 go_wp2_with fail
 have BW:=Hd (B0.out (k:Int))
 have LW:=Hd (zjF w tb (k:Int))
 have SW:=Hd (zhI w tb (k:Int))
 have BB:=Hd (zdx w tb (k:Int))
 change Calls Tryz.prog 125 #[.pointer (some ⟨tb,0,none⟩)] (ziH w tb (k:Int)) _
 generalize ziH w tb (k:Int)=W0 at *
 have RT:=zc3 G tb rb place n m S W0 BW.out.room BW.out.blk HP.out (by have:=HM.out;omega) (by have:=HP65.out;rw [HR.out];omega)
 rw [HR.out,show (((p+1:Nat):Int)-1)=(p:Int) by omega] at RT
 refine RT.mono ?_
 rintro e w2 ⟨rfl,hb⟩
 have B2:=Hd (BW.out.below hb.out)
 have L2:=Hd (LW.out.below hb.out)
 obtain ⟨x0,x1,x2,x3,x4,x5⟩:=L2.out.cells
 have hp0:¬(p:Int)<0:=by omega
 have RM0:=zjE hh G tb rb place n m S p t key 0 w2 B2.out.room B2.out.blk B2.out.gt HT.out (by have:=HH.out;omega) (by have:=HM.out;have:=HH.out;omega)
 rw [show ((0:Nat):Int)=0 from rfl] at RM0
 have RM:=Hd RM0
 clear RT hb RM0
 go_wp2_with fail
 refine RM.out.mono ?_
 rintro e w3 ⟨was,q,rfl,HE⟩
 clear RM
 have he:=HE.out
 unfold zhH at he
 cases was with
 | false =>
   rw [if_neg (by simp)] at he
   have B3:=B2.out.trans he.1
   have hloc:∀ x,w.heap.size<=x->¬G x:=λ x hx e=>by have:=HG.out x e;omega
   have L3:=LW.out.upd B3.up λ k h1 _=>hloc k h1
   obtain ⟨y0,y1,y2,y3,y4,y5⟩:=L3.cells
   have L5:=((L3.setW false).setW false).setE
   have hfe:(((w3.setCell ⟨w.heap.size+1,0,none⟩ (.bool false)).setCell ⟨w.heap.size+1,0,none⟩ (.bool false)).setCell ⟨w.heap.size+1+1,0,none⟩ (.int .i64 0)).cell? ⟨w.heap.size+1+1,0,none⟩=some (.int .i64 0):=L5.cells.2.2.1
   have hfw:(((w3.setCell ⟨w.heap.size+1,0,none⟩ (.bool false)).setCell ⟨w.heap.size+1,0,none⟩ (.bool false)).setCell ⟨w.heap.size+1+1,0,none⟩ (.int .i64 0)).cell? ⟨w.heap.size+1,0,none⟩=some (.bool false):=L5.cells.2.1
   have HGO:Hid (zcD w (((w3.setCell ⟨w.heap.size+1,0,none⟩ (.bool false)).setCell ⟨w.heap.size+1,0,none⟩ (.bool false)).setCell ⟨w.heap.size+1+1,0,none⟩ (.int .i64 0)) G rb n m place S (some ⟨hh,p,t⟩) key false):=Hd (by
    unfold zcD
    rw [if_neg (by simp)]
    exact ⟨(((((StG.of B3 BB.out).loc (by omega) (hloc _ (by omega)) 0 _).loc (by omega) (hloc _ (by omega)) 0 _).loc (by omega) (hloc _ (by omega)) 0 _).more (by omega)).go,he.2⟩)
   have z1:=(L3.setW false).cells
   have z2:=z1.2.1
   have z3:=z1.2.2.2.1
   clear he HE L3 L5 B3 z1 x0 x1 x2 x3 x4 x5
   go_wp2_with fail
   refine leaves_cons (f:=124) (args:=#[.pointer (some ⟨w.heap.size+1+1,0,none⟩)]) (by simp) (by simp [go_sem]) ?_
   refine (zax _ _).mono ?_
   rintro e u' wa ⟨rfl,rfl,rfl⟩
   refine leaves_cons (f:=129) (args:=#[.pointer (some ⟨w.heap.size+1+1,0,none⟩),.pointer (some ⟨w.heap.size,0,none⟩),.pointer (some ⟨w.heap.size+1,0,none⟩),.pointer (some ⟨w.heap.size+1+1+1,0,none⟩)]) (by simp [settle]) (by simp [go_sem]) ?_
   refine (zdi _ _ _ _ _ _ hfe).mono ?_
   rintro e u' wb ⟨rfl,rfl,rfl⟩
   simp [Leaves,settle,results,Tryz.results74,go_sem,hfe,hfw]
   exact HGO
 | true =>
   rw [if_pos rfl] at he
   obtain ⟨S3,G3,u,b3,n3,r3⟩:=he
   have B3:=B2.out.trans b3
   have hloc:∀ x,w.heap.size<=x->x<w.heap.size+4->¬G3 x:=λ x hx hx2 e=>by
    rcases B3.sub x e with e|e
    ·have:=HG.out x e;omega
    ·have:=SW.out;omega
   have L3:=LW.out.upd B3.up λ k h1 _ e=>by have:=HG.out k e;omega
   have N3:RdN W0 w3 G3 q (nd hh u):=(n3.base B2.out.up.size).rd
   have SG:=Hd ((StG.of B3 BB.out).loc (x:=w.heap.size+1) (by omega) (hloc _ (by omega) (by omega)) 0 (.bool true))
   have hlu:Upd (λ k=>k=w.heap.size+1) w3 (w3.setCell ⟨w.heap.size+1,0,none⟩ (.bool true)):=Upd.setCell (S:=λ k=>k=w.heap.size+1) (Upd.refl _ _) (p:=⟨w.heap.size+1,0,none⟩) (.inl rfl) (.bool true)
   have BL:zak (w3.setCell ⟨w.heap.size+1,0,none⟩ (.bool true)) (w3.setCell ⟨w.heap.size+1,0,none⟩ (.bool true)) G3 G3 tb rb place n (m+8*(hh+1)) S3:=zak.start (B3.room.frame hlu λ k hk e=>hloc k (by omega) (by omega) hk) (B3.blk.upd hlu λ e=>by have:=htl;omega) B3.gt
   have L4:=L3.setW true
   have N4:=N3.loc (x:=w.heap.size+1) (by have:=SW.out;omega) 0 (.bool true)
   have RS:=zdl.start (n:=n) r3 HR.out HT.out.pos
   have HDEL:=Hd r3.op.del
   obtain ⟨y0,y1,y2,y3,y4,y5⟩:=L3.cells
   obtain ⟨v0,v1,v2,v3,v4,v5⟩:=L4.cells
   have HBL:=Hd BL
   have HL4:=Hd L4
   have HN4:=Hd N4
   have HRS:=Hd RS
   have HLOC:=Hd hloc
   have HW01:Hid (W0.heap.size<=(w3.setCell ⟨w.heap.size+1,0,none⟩ (.bool true)).heap.size):=Hd (by rw [World.size_setCell];exact B3.up.size)
   clear BL L4 N4 RS hloc hlu L3 N3 B3 b3 n3 r3 HE x0 x1 x2 x3 x4 x5
   go_wp2_with fail
   generalize w3.setCell ⟨w.heap.size+1,0,none⟩ (.bool true)=W1 at *
   go_loopg [8,9] hh (λ gg s8 s9 wr=>∃ (h' p' q':Nat) (u':PT h') (S':RS) (G':Nat->Prop),gg=h'/\h'<=hh/\s8=.pointer (some ⟨q',0,none⟩)/\s9=.int .i64 (p':Int)/\Hid (zak W1 wr G3 G' tb rb place n (m+8*(hh+1)+2*(hh-h')) S'/\RdN W0 wr G' q' (nd h' u')/\zdl place n (crO (some ⟨hh,p,t⟩)) (wtO (some ⟨hh,p,t⟩)) S S' (zd4 (some ⟨hh,p,t⟩)) (ents hh u) h' p' u'))
   case atStart=>exact ⟨hh,p,q,u,S3,G3,rfl,zNr _,rfl,rfl,Hd ⟨HBL.out.more (by omega),HN4.out,HRS.out⟩⟩
   case round =>
    obtain ⟨h',p',q',u',S',G',hgk,hle,rfl,rfl,HI⟩:=hrel
    have HGK:=Hd hgk
    clear hgk
    have L5:=Hd (HL4.out.upd HI.out.1.up λ k h1 h2=>HLOC.out k h1 (by omega))
    obtain ⟨e0,e1,e2,e3,e4,e5⟩:=L5.out.cells
    obtain ⟨ka,kc,k1⟩:=HI.out.2.1.keys
    clear v0 v1 v2 v3 v4 v5 y0 y1 y2 y3 y4 y5
    have HMM:Hid (m+8*(hh+1)+2*(hh-h')<=3998000):=Hd (by have:=HM.out;have:=HH.out;omega)
    obtain ⟨t0,t1⟩:=HI.out.1.blk.cells
    have HLOC2:Hid (∀ (wx:World) (Gx:Nat->Prop) (mx:Nat) (Sx:RS),zak W1 wx G3 Gx tb rb place n mx Sx->∀ x,w.heap.size<=x->x<w.heap.size+4->¬Gx x):=Hd λ wx Gx mx Sx hb x hx hx2 e=>by
     rcases hb.sub x e with e|e
     ·exact HLOC.out x hx hx2 e
     ·have:=HW01.out;have:=SW.out;omega
    by_cases hz:(nd h' u').len=0
    ·rw [hz] at k1
     have FR:=Hd (zeq HI.out.1 (by have:=HMM.out;omega) HI.out.2.2.use)
     obtain ⟨mg,me⟩:=HI.out.2.2.none (o:=some ⟨hh,p,t⟩) hz
     have HMG:=Hd mg
     have HME:=Hd me
     have MU:=zej
     clear hz mg me
     go_wp2_with fail
     refine FR.out.mono ?_
     rintro e w5 ⟨rfl,HF⟩
     obtain ⟨G5,b5,tn5⟩:=HF.out
     have L6:=HL4.out.upd b5.up λ k h1 h2=>HLOC.out k h1 (by omega)
     obtain ⟨f0,f1,f2,f3,f4,f5⟩:=L6.cells
     have SR:=zhC G5 tb rb place n _ _ 0 w5 b5.room b5.blk b5.gt HP.out (by have:=HMM.out;omega) (by omega)
     rw [show (((0:Nat):Int)-1)=-1 from rfl] at SR
     have SR2:=Hd SR
     have B5:=Hd b5
     clear SR b5 tn5 HF FR e0 e1 e2 e3 e4 e5 t0 t1 k1 L6
     go_wp2_with (first
      | (go_at_call 131;refine (MU _).mono ?_;rintro e w6 ⟨rfl,rfl⟩)
      | (go_at_call 126;refine SR2.out.mono ?_;rintro e w7 ⟨rfl,HS⟩
         obtain ⟨G7,b7,tn7⟩:=B5.out.step HS.out
         have L7:=HL4.out.upd b7.up λ k h1 h2=>HLOC.out k h1 (by omega)
         obtain ⟨g0,g1,g2,g3,g4,g5⟩:=L7.cells
         have L9:=(L7.setW true).setE
         have hfe:((w7.setCell ⟨w.heap.size+1,0,none⟩ (.bool true)).setCell ⟨w.heap.size+1+1,0,none⟩ (.int .i64 0)).cell? ⟨w.heap.size+1+1,0,none⟩=some (.int .i64 0):=L9.cells.2.2.1
         have hfw:((w7.setCell ⟨w.heap.size+1,0,none⟩ (.bool true)).setCell ⟨w.heap.size+1+1,0,none⟩ (.int .i64 0)).cell? ⟨w.heap.size+1,0,none⟩=some (.bool true):=L9.cells.2.1
         have HGO:Hid (zcD w ((w7.setCell ⟨w.heap.size+1,0,none⟩ (.bool true)).setCell ⟨w.heap.size+1+1,0,none⟩ (.int .i64 0)) G rb n m place S (some ⟨hh,p,t⟩) key true):=Hd (by
          unfold zcD
          rw [if_pos rfl]
          refine ⟨_,none,(((((SG.out.then b7).loc (x:=w.heap.size+1) (by omega) (HLOC2.out _ _ _ _ b7 _ (by omega) (by omega)) 0 (.bool true)).loc (x:=w.heap.size+1+1) (by omega) (HLOC2.out _ _ _ _ b7 _ (by omega) (by omega)) 0 (.int .i64 0)).more (by have:=HH.out;omega)).go),HMG.out,?_,zNz _,λ c hc=>(HI.out.2.2.spr c hc).freeS HI.out.2.2.use,Nat.succ_le_succ HI.out.2.2.crp,zNz _⟩
          have:=HDEL.out
          rw [HME.out] at this;exact this)
         clear b7 tn7 L7 L9 HS))
     refine leaves_cons (f:=124) (args:=#[.pointer (some ⟨w.heap.size+1+1,0,none⟩)]) (by simp) (by simp [go_sem]) ?_
     refine (zax _ _).mono ?_
     rintro e u' wa ⟨rfl,rfl,rfl⟩
     refine leaves_cons (f:=129) (args:=#[.pointer (some ⟨w.heap.size+1+1,0,none⟩),.pointer (some ⟨w.heap.size,0,none⟩),.pointer (some ⟨w.heap.size+1,0,none⟩),.pointer (some ⟨w.heap.size+1+1+1,0,none⟩)]) (by simp [settle]) (by simp [go_sem]) ?_
     refine (zdi _ _ _ _ _ _ hfe).mono ?_
     rintro e u' wb ⟨rfl,rfl,rfl⟩
     simp [Leaves,settle,results,Tryz.results74,go_sem,hfe,hfw]
     exact HGO
    ·have hzp:0<(nd h' u').len:=by omega
     have HZ:=Hd hzp
     have k1n:¬(((nd h' u').len:Nat):Int)=0:=by omega
     have k1m:¬(nd h' u').len=0:=hz
     by_cases hone:∃ (h2:Nat) (x:Kid h2) (e:h'=h2+1),e ▸ u'=(show PT (h2+1) from [x])
     ·obtain ⟨h2,x,e,hu⟩:=hone
      subst e
      have hu':u'=(show PT (h2+1) from [x]):=hu
      subst hu'
      clear hu k1n k1m hz hzp HZ
      obtain ⟨d1,d2,d3⟩:=HI.out.2.2.down
      have HD:=Hd d3
      have hlf:wr.cell? ⟨q',0,none⟩=some (.bool false):=by
       obtain ⟨vk,vv,vi,a⟩:=HI.out.2.1.view
       exact zaa a.blk rfl
      have k1':wr.cell? ⟨q',1,none⟩=some (.slice ka 1 kc):=k1
      have k3':∃ g o c,wr.cell? ⟨q',3,none⟩=some (.slice (some ⟨g,o,none⟩) 1 c):=by
       obtain ⟨g1,o1,c1,g2,o2,c2,-,e3,-⟩:=RdN.at (l:=[(x.1,x.2.1)]) HI.out.2.1 (by simp)
       exact ⟨g2,o2,c2,e3⟩
      obtain ⟨ga,oa,ca,k3'⟩:=k3'
      have FR:=Hd (zeq HI.out.1 (by have:=HMM.out;omega) HI.out.2.2.use)
      have MU:=zej
      clear d1 d3 k1
      go_wp2_with fail
      refine FR.out.mono ?_
      rintro e w5 ⟨rfl,HF⟩
      obtain ⟨G5,b5,tn5⟩:=HF.out
      have L6:=HL4.out.upd b5.up λ k h1 h2=>HLOC.out k h1 (by omega)
      obtain ⟨f0,f1,f2,f3,f4,f5⟩:=L6.cells
      obtain ⟨g1,o1,c1,g2,o2,c2,-,m3,mc⟩:=RdN.at (l:=[(x.1,x.2.1)]) (HI.out.2.1.turn tn5) (by simp)
      have mx:=(mc 0 (by simp)).2
      have m3':w5.cell? ⟨q',3,none⟩=some (.slice (some ⟨g2,o2,none⟩) 1 c2):=m3
      have mx':w5.cell? ⟨g2,o2,none⟩=some (.int .i64 (x.2.1:Int)):=mx
      have SR:=Hd (zep b5 HP.out (by have:=HMM.out;omega) x.2.1 d2)
      clear b5 tn5 HF FR e0 e1 e2 e3 e4 e5 t0 t1 L6 m3 mx mc hlf k1' k3'
      go_wp2_with (first
       | (go_at_call 131;refine (MU _).mono ?_;rintro e w6 ⟨rfl,rfl⟩)
       | (go_at_call 126;refine SR.out.mono ?_;rintro e w7 ⟨rfl,HS⟩
          obtain ⟨G7,b7,tn7⟩:=HS.out
          have L7:=HL4.out.upd b7.up λ k h1 h2=>HLOC.out k h1 (by omega)
          obtain ⟨i0,i1,i2,i3,i4,i5⟩:=L7.cells
          have hxs:=(HI.out.2.2.wf.1 x (by simp))
          have ONX:On (zay (frS S' p') place (x.2.1+1)) h2 x.2.1 x.2.2:=ze9.2 ⟨⟨HD.out.use,HD.out.cont hxs.2.2.1⟩,HD.out.kid⟩
          have RDX:=Hd (zcf b7 (by have:=HMM.out;omega) ONX hxs.2.2.2.1 (hxs.2.2.2.2.ok hxs.2.2.1 (Nat.le_trans hxs.2.2.2.1 (by decide))))
          have B7:=Hd b7
          clear b7 tn7 L7 HS hxs ONX)
       | (go_at_call 133;refine RDX.out.mono ?_;rintro e w8 ⟨q1,rfl,HO⟩))
      go_roundg h2
      case measure=>have:=HGK.out;omega
      case rel =>
       obtain ⟨F,a,b,c⟩:=HO.out
       refine ⟨h2,x.2.1,q1,x.2.2,_,G7,rfl,by omega,rfl,rfl,Hd ⟨(B7.out.below c).more (by omega),⟨F,a.rdIn,λ k hk=>⟨?_,λ e=>?_⟩⟩,HD.out⟩⟩
       ·have:=b k hk;have:=B7.out.up.size;have:=HW01.out;omega
       ·have:=b k hk;have:=B7.out.room.lt k e;omega
     ·have hdone:(nd h' u').isLeaf=true\/((nd h' u').isLeaf=false/\∃ a c,wr.cell? ⟨q',3,none⟩=some (.slice a (nd h' u').len c)/\1<(nd h' u').len):=by
       cases h' with
       | zero=>exact .inl rfl
       | succ h2 =>
         refine .inr ⟨rfl,?_⟩
         obtain ⟨vk,vv,vi,a⟩:=HI.out.2.1.view
         obtain ⟨ai,ci,rfl⟩:=a.is.form
         have e3':=zaa (i:=3) a.blk rfl
         rw [zLm,Nd.kids_len (d:=nd (h2+1) u') rfl] at e3'
         refine ⟨ai,ci,e3',?_⟩
         rw [zaq] at hzp ⊢
         cases u' with
         | nil=>simp at hzp
         | cons x r =>
           cases r with
           | nil=>exact absurd ⟨h2,x,rfl,rfl⟩ hone
           | cons y r=>simp
      have hlf:wr.cell? ⟨q',0,none⟩=some (.bool (nd h' u').isLeaf):=by
       obtain ⟨vk,vv,vi,a⟩:=HI.out.2.1.view
       exact zaa a.blk rfl
      have b7:=HI.out.1
      have L9:=(L5.out.setW true).setE
      have hfe:((wr.setCell ⟨w.heap.size+1,0,none⟩ (.bool true)).setCell ⟨w.heap.size+1+1,0,none⟩ (.int .i64 0)).cell? ⟨w.heap.size+1+1,0,none⟩=some (.int .i64 0):=L9.cells.2.2.1
      have hfw:((wr.setCell ⟨w.heap.size+1,0,none⟩ (.bool true)).setCell ⟨w.heap.size+1+1,0,none⟩ (.int .i64 0)).cell? ⟨w.heap.size+1,0,none⟩=some (.bool true):=L9.cells.2.1
      have HGO:Hid (zcD w ((wr.setCell ⟨w.heap.size+1,0,none⟩ (.bool true)).setCell ⟨w.heap.size+1+1,0,none⟩ (.int .i64 0)) G rb n m place S (some ⟨hh,p,t⟩) key true):=Hd (by
       unfold zcD
       rw [if_pos rfl]
       refine ⟨_,some ⟨h',p',u'⟩,(((((SG.out.then b7).loc (x:=w.heap.size+1) (by omega) (HLOC2.out _ _ _ _ b7 _ (by omega) (by omega)) 0 (.bool true)).loc (x:=w.heap.size+1+1) (by omega) (HLOC2.out _ _ _ _ b7 _ (by omega) (by omega)) 0 (.int .i64 0)).more (by have:=HH.out;omega)).go),(HI.out.2.2.done (o:=some ⟨hh,p,t⟩) HZ.out).1,?_,hle,HI.out.2.2.spr,(HI.out.2.2.done (o:=some ⟨hh,p,t⟩) HZ.out).2,HI.out.2.2.wtl⟩
       have:=HDEL.out
       rw [<-HI.out.2.2.ents] at this;exact this)
      clear b7 L9 hone hz hzp
      rcases hdone with hl|⟨hl,ai,ci,k3,hl2⟩
      ·rw [hl] at hlf
       clear hl
       generalize (nd h' u').len=kl at *
       go_wp2_with fail
       refine leaves_cons (f:=124) (args:=#[.pointer (some ⟨w.heap.size+1+1,0,none⟩)]) (by simp) (by simp [go_sem]) ?_
       refine (zax _ _).mono ?_
       rintro e u' wa ⟨rfl,rfl,rfl⟩
       refine leaves_cons (f:=129) (args:=#[.pointer (some ⟨w.heap.size+1+1,0,none⟩),.pointer (some ⟨w.heap.size,0,none⟩),.pointer (some ⟨w.heap.size+1,0,none⟩),.pointer (some ⟨w.heap.size+1+1+1,0,none⟩)]) (by simp [settle]) (by simp [go_sem]) ?_
       refine (zdi _ _ _ _ _ _ hfe).mono ?_
       rintro e u' wb ⟨rfl,rfl,rfl⟩
       simp [Leaves,settle,results,Tryz.results74,go_sem,hfe,hfw]
       exact HGO
      ·rw [hl] at hlf
       have hl3:(1:Int)<(((nd h' u').len:Nat):Int):=by omega
       clear hl hl2
       generalize (nd h' u').len=kl at *
       go_wp2_with fail
       refine leaves_cons (f:=124) (args:=#[.pointer (some ⟨w.heap.size+1+1,0,none⟩)]) (by simp) (by simp [go_sem]) ?_
       refine (zax _ _).mono ?_
       rintro e u' wa ⟨rfl,rfl,rfl⟩
       refine leaves_cons (f:=129) (args:=#[.pointer (some ⟨w.heap.size+1+1,0,none⟩),.pointer (some ⟨w.heap.size,0,none⟩),.pointer (some ⟨w.heap.size+1,0,none⟩),.pointer (some ⟨w.heap.size+1+1+1,0,none⟩)]) (by simp [settle]) (by simp [go_sem]) ?_
       refine (zdi _ _ _ _ _ _ hfe).mono ?_
       rintro e u' wb ⟨rfl,rfl,rfl⟩
       simp [Leaves,settle,results,Tryz.results74,go_sem,hfe,hfw]
       exact HGO
def Got (key:ByteArray) (E:List (ByteArray × ByteArray)) (v:ByteArray) (ok:Bool):Prop:=(ok=true/\(key,v)∈E)\/(ok=false/\v=⟨#[]⟩/\∀ e∈E,e.1≠key)
theorem Got.lift {key:ByteArray} {h:Nat} {A B:List (Kid h)} {x:Kid h} {v:ByteArray} {ok:Bool} (H:zf8 h (A++x::B)) (W:Way key A x B) (g:Got key (ents h x.2.2) v ok):Got key (ents (h+1) (A++x::B:List (Kid h))) v ok:=by
 obtain ⟨w1,w2⟩:=H.way W
 rw [zb4]
 rcases g with ⟨rfl,hm⟩|⟨rfl,rfl,hn⟩
 ·exact .inl ⟨rfl,by simp [hm]⟩
 ·refine .inr ⟨rfl,rfl,λ e he=>?_⟩
  rcases List.mem_append.1 he with he|he
  ·obtain ⟨y,hy,he⟩:=(zbq h A e).1 he
   exact zaW (w1 y hy e he)
  ·rcases List.mem_append.1 he with he|he
   ·exact hn e he
   ·obtain ⟨y,hy,he⟩:=(zbq h B e).1 he
    exact λ e'=>zaW (w2 y hy e he) e'.symm
theorem znX (G:Nat->Prop) (tb rb place n m:Nat) (S:RS) (key:ByteArray) (w:World) (h:RmS w G rb n m S) (ht:TB w tb rb place) (hg:¬G tb) (hp:place<16) (hm:m<=3900000) (hr:S.root place=0) :
 Calls Tryz.prog 115 #[.pointer (some ⟨tb,0,none⟩),.string key] w λ e w'=>∃ v ok,e=.returned (.tuple #[.string v,.bool ok,.int .i64 0])/\Got key [] v ok/\Hid (zb1 w w' G rb n m S):=by
 have hb0:Below w.heap.size w (w.alloc (.cells #[.int .i64 0] 34)):=(zBr _ _).alloc (zNr _) _
 have B0:=Hd (zak.start (h.below hb0) (ht.below hb0) hg)
 have HG:=Hd h.lt
 have RT:=zc3 G tb rb place n m S _ B0.out.room B0.out.blk hp (by omega) (by rw [hr];omega)
 rw [hr] at RT
 have HB0:=Hd hb0
 have l0:(w.alloc (.cells #[.int .i64 0] 34)).heap[w.heap.size]?=some (.cells #[.int .i64 0] 34 (0,0)):=heap_alloc_new _ _
 clear h ht hg hp hm hr hb0
 go_enter_defers Tryz.func115,Tryz.ntmps115
 go_wp2_with fail
 refine RT.mono ?_
 rintro e w2 ⟨rfl,hb⟩
 have B2:=B0.out.below hb.out
 have l2:=(hb.out.block _ (zab l0)).trans l0
 have x1:w2.cell? ⟨w.heap.size,0,none⟩=some (.int .i64 0):=zaa l2 rfl
 have x2:w2.frozen? ⟨w.heap.size,0,none⟩=false:=zad l2 0
 have hfe:(w2.setCell ⟨w.heap.size,0,none⟩ (.int .i64 0)).cell? ⟨w.heap.size,0,none⟩=some (.int .i64 0):=zaa (zac l2 _) rfl
 have HGO:=Hd ((StG.of B2 HB0.out).loc (x:=w.heap.size) (zNr _) (λ e=>by have:=HG.out _ e;omega) 0 (.int .i64 0)).go
 clear B2 l2 l0 B0 hb RT
 go_wp2_with fail
 go_loopg [7,13] 1 (λ gg s7 s13 wr=>s7=.int .i64 (-1)/\s13=.int .i64 0/\wr=w2)
 case atStart=>exact ⟨rfl,rfl,rfl⟩
 case round =>
  obtain ⟨rfl,rfl,rfl⟩:=hrel
  go_wp2_with fail
  refine leaves_cons (f:=124) (args:=#[.pointer (some ⟨w.heap.size,0,none⟩)]) (by simp) (by simp [go_sem]) ?_
  refine (zax _ _).mono ?_
  rintro e u' wa ⟨rfl,rfl,rfl⟩
  simp [Leaves,settle,results,Tryz.results115,go_sem,hfe]
  exact ⟨.inr ⟨rfl,rfl,by simp⟩,HGO⟩
theorem zp3 {w0 W:World} {G:Nat->Prop} {q:Nat} {A B:List (ByteArray × ByteArray)} {x:ByteArray × ByteArray} (h:RdN w0 W G q (.leaf (A++x::B))) :
 ∃ g o c,W.cell? ⟨q,2,none⟩=some (.slice (some ⟨g,o,none⟩) (A.length+1+B.length) c)/\W.cell? ⟨g,o+A.length,none⟩=some (.string x.2):=by
 obtain ⟨vk,vv,vi,a⟩:=h.view
 have hl:((Nd.leaf (A++x::B)).vals.map Value.string).length=A.length+1+B.length:=by simp [Nd.vals];omega
 obtain ⟨g,off,cap,rfl,hcap,hc⟩:=a.vs.lit (by simp [Nd.vals];omega)
 refine ⟨g,off,cap,?_,?_⟩
 ·have:=zaa (i:=2) a.blk rfl
  rw [<-hl];exact this
 ·have:=hc A.length (by simp [Nd.vals])
  rw [this];simp [Nd.vals]
theorem zgM.rdN {w0 W W':World} {G:Nat->Prop} {p:Nat} {d:Nd} (h:zgM W W' p d) (hs:w0.heap.size<=W.heap.size) (hG:∀ k,G k->k<W.heap.size):RdN w0 W' G p d:=by
 obtain ⟨F,a,b,c⟩:=h
 exact ⟨F,a.rdIn,λ k hk=>⟨Nat.le_trans hs (b k hk),λ e=>by have:=b k hk;have:=hG k e;omega⟩⟩
theorem zgM.below {W W':World} {p:Nat} {d:Nd} (h:zgM W W' p d):Below W.heap.size W W':=by obtain ⟨F,a,b,c⟩:=h;exact c
theorem znY (G:Nat->Prop) (tb rb place n m:Nat) (S:RS) (hh p:Nat) (t:PT hh) (key:ByteArray) (w:World) (h:RmS w G rb n m S) (ht:TB w tb rb place) (hg:¬G tb) (hp:place<16) (hm:m<=3900000) (hr:S.root place=p+1) (hT:Tr S hh p t) (hh20:hh<=19) :
 Calls Tryz.prog 115 #[.pointer (some ⟨tb,0,none⟩),.string key] w λ e w'=>∃ v ok,e=.returned (.tuple #[.string v,.bool ok,.int .i64 0])/\Got key (ents hh t) v ok/\Hid (zb1 w w' G rb n m S):=by
 have hp65:p<65536:=by
  have:=h.lim p hT.on.top.1
  have:=h.bounds
  unfold zaf at *;omega
 have hb0:Below w.heap.size w (w.alloc (.cells #[.int .i64 0] 34)):=(zBr _ _).alloc (zNr _) _
 have B0:=Hd (zak.start (h.below hb0) (ht.below hb0) hg)
 have HG:=Hd h.lt
 have RT:=zc3 G tb rb place n m S _ B0.out.room B0.out.blk hp (by omega) (by rw [hr];omega)
 rw [hr,show (((p+1:Nat):Int)-1)=(p:Int) by omega] at RT
 have HB0:=Hd hb0
 have l0:Hid ((w.alloc (.cells #[.int .i64 0] 34)).heap[w.heap.size]?=some (.cells #[.int .i64 0] 34 (0,0))):=Hd (heap_alloc_new _ _)
 have HGW:Hid (¬G w.heap.size):=Hd λ e=>by have:=HG.out _ e;omega
 have HT:=Hd hT
 have HM:=Hd hm
 have HH:=Hd hh20
 have hsz0:Hid ((w.alloc (.cells #[.int .i64 0] 34)).heap.size=w.heap.size+1):=Hd (by simp)
 clear h ht hg hp hm hr hb0 hT hh20 hp65
 go_enter_defers Tryz.func115,Tryz.ntmps115
 go_wp2_with fail
 generalize w.alloc (.cells #[.int .i64 0] 34)=W0 at *
 refine RT.mono ?_
 rintro e w2 ⟨rfl,hb⟩
 have B2:=Hd (B0.out.below hb.out)
 clear hb RT
 go_wp2_with fail
 go_loopg [7,13] hh (λ gg s7 s13 wr=>∃ (h' p' c:Nat) (t':PT h'),gg=h'/\c+h'<=19/\s7=.int .i64 (p':Int)/\s13=.int .i64 (c:Int)/\Hid (zak W0 wr G G tb rb place n m S/\Tr S h' p' t'/\∀ v ok,Got key (ents h' t') v ok->Got key (ents hh t) v ok))
 case atStart=>exact ⟨hh,p,0,t,rfl,by have:=HH.out;omega,rfl,rfl,Hd ⟨B2.out,HT.out,λ _ _ g=>g⟩⟩
 case round =>
  obtain ⟨h',p',c,t',hgk,hc19,rfl,rfl,HI⟩:=hrel
  have HGK:=Hd hgk
  clear hgk
  have hc20:(c:Int)<20:=by omega
  have hp0:¬(p':Int)<0:=by omega
  have RD:=Hd (zcf HI.out.1 (by have:=HM.out;omega) HI.out.2.1.on HI.out.2.1.fit HI.out.2.1.ok)
  go_wp2_with fail
  refine RD.out.mono ?_
  rintro e w3 ⟨q,rfl,HO⟩
  have B3:=Hd (HI.out.1.below HO.out.below)
  have N3:Hid (RdN W0 w3 G q (nd h' t')):=Hd (HO.out.rdN HI.out.1.up.size HI.out.1.room.lt)
  have l3:Hid (w3.heap[w.heap.size]?=some (.cells #[.int .i64 0] 34 (0,0))):=Hd (B3.out.up.at l0.out HGW.out)
  obtain ⟨vk,vv,vi,hv⟩:=N3.out.view
  clear RD HO
  cases h' with
  | zero =>
    have c0:w3.cell? ⟨q,0,none⟩=some (.bool true):=zaa hv.blk rfl
    obtain ⟨A,B,e1,hA,hB,hor⟩:=zcP t' key HI.out.2.1.wf.srt
    subst e1
    have hpos:0<(Nd.leaf (A++B)).len:=HI.out.2.1.pos
    have hl6:(Nd.leaf (A++B)).len<=1000000:=Nat.le_of_lt (Nat.lt_trans HI.out.2.1.ok.few (by decide))
    have hAB:∀ a∈A.map Prod.fst,zah a key=true:=λ a ha=>by obtain ⟨e,he,rfl⟩:=List.mem_map.1 ha;exact hA e he
    rcases hor with ⟨v,B',rfl,hB'⟩|hB'
    ·have FD:=zdh true q (.leaf (A++(key,v)::B')) vk vv vi (A.map Prod.fst) (key::B'.map Prod.fst) key w3 hv (by simp [Nd.keys]) hpos hl6 hAB (λ b hb=>by
      rcases List.mem_cons.1 hb with rfl|hb
      ·exact zal _
      ·obtain ⟨e,he,rfl⟩:=List.mem_map.1 hb;exact hB e (by simp [he])) ⟨λ _=>⟨_,rfl⟩,λ _=>rfl⟩
     rw [zLm] at FD
     have FD2:=Hd FD
     have HGOT:=Hd (HI.out.2.2 v true (.inl ⟨rfl,by simp [ents]⟩))
     clear FD hA hB hB' hpos hl6 hAB hv hc19
     go_wp2_with fail
     refine FD2.out.mono ?_
     rintro e w4 ⟨rfl,qn,rfl⟩
     have B4:=Hd (B3.out.below (zar w3 qn))
     have N4:=Hd (N3.out.below (zar w3 qn))
     have l4:(w3.drewN qn).heap[w.heap.size]?=some (.cells #[.int .i64 0] 34 (0,0)):=l3.out
     generalize w3.drewN qn=w4 at *
     obtain ⟨g,o,cp,k1,k2⟩:=zp3 N4.out
     have x1:w4.cell? ⟨w.heap.size,0,none⟩=some (.int .i64 0):=zaa l4 rfl
     have x2:w4.frozen? ⟨w.heap.size,0,none⟩=false:=zad l4 0
     have hfe:(w4.setCell ⟨w.heap.size,0,none⟩ (.int .i64 0)).cell? ⟨w.heap.size,0,none⟩=some (.int .i64 0):=zaa (zac l4 _) rfl
     have HGO:=Hd ((StG.of B4.out HB0.out).loc (x:=w.heap.size) (zNr _) HGW.out 0 (.int .i64 0)).go
     have hlt:(A.length:Int)<((A.length+1+B'.length:Nat):Int):=by omega
     clear l4 N4 B4 N3 B3 FD2 c0
     go_wp2_with fail
     refine leaves_cons (f:=124) (args:=#[.pointer (some ⟨w.heap.size,0,none⟩)]) (by simp) (by simp [go_sem]) ?_
     refine (zax _ _).mono ?_
     rintro e u' wa ⟨rfl,rfl,rfl⟩
     simp [Leaves,settle,results,Tryz.results115,go_sem,hfe]
     exact ⟨HGOT.out,HGO⟩
    ·have FD:=zdh false q (.leaf (A++B)) vk vv vi (A.map Prod.fst) (B.map Prod.fst) key w3 hv (by simp [Nd.keys]) hpos hl6 hAB (λ b hb=>by obtain ⟨e,he,rfl⟩:=List.mem_map.1 hb;exact hB e he) ⟨(λ e=>by cases e),(λ ⟨B',e⟩=>by
      have hm:key∈B.map Prod.fst:=by rw [e];simp
      obtain ⟨e',he,he2⟩:=List.mem_map.1 hm
      have:=hB' e' he
      rw [he2,zal] at this;cases this)⟩
     rw [zLm] at FD
     have FD2:=Hd FD
     have HGOT:=Hd (HI.out.2.2 ⟨#[]⟩ false (.inr ⟨rfl,rfl,λ e he=>by
      rcases List.mem_append.1 (show e∈A++B from he) with he|he
      ·exact zaW (hA e he)
      ·exact λ e'=>zaW (hB' e he) e'.symm⟩))
     clear FD hA hB hB' hpos hl6 hAB hv hc19
     go_wp2_with fail
     refine FD2.out.mono ?_
     rintro e w4 ⟨rfl,qn,rfl⟩
     have B4:=Hd (B3.out.below (zar w3 qn))
     have l4:(w3.drewN qn).heap[w.heap.size]?=some (.cells #[.int .i64 0] 34 (0,0)):=l3.out
     generalize w3.drewN qn=w4 at *
     have x1:w4.cell? ⟨w.heap.size,0,none⟩=some (.int .i64 0):=zaa l4 rfl
     have x2:w4.frozen? ⟨w.heap.size,0,none⟩=false:=zad l4 0
     have hfe:(w4.setCell ⟨w.heap.size,0,none⟩ (.int .i64 0)).cell? ⟨w.heap.size,0,none⟩=some (.int .i64 0):=zaa (zac l4 _) rfl
     have HGO:=Hd ((StG.of B4.out HB0.out).loc (x:=w.heap.size) (zNr _) HGW.out 0 (.int .i64 0)).go
     clear l4 B4 N3 B3 FD2 c0
     go_wp2_with fail
     refine leaves_cons (f:=124) (args:=#[.pointer (some ⟨w.heap.size,0,none⟩)]) (by simp) (by simp [go_sem]) ?_
     refine (zax _ _).mono ?_
     rintro e u' wa ⟨rfl,rfl,rfl⟩
     simp [Leaves,settle,results,Tryz.results115,go_sem,hfe]
     exact ⟨HGOT.out,HGO⟩
  | succ h2 =>
    have c0:w3.cell? ⟨q,0,none⟩=some (.bool false):=zaa hv.blk rfl
    have hpos:=HI.out.2.1.pos
    rw [zaq] at hpos
    have hwf:=HI.out.2.1.wf
    obtain ⟨A,x,B,e1,hW,hA⟩:=zcA t' key (hwf.2.keys λ x hx=>zbG (hwf.1 x hx).2.2.2.2 (hwf.1 x hx).2.2.1) hpos
    subst e1
    have hN3:=N3.out
    rw [show nd (h2+1) (A++x::B:List (Kid h2))=.inner (A.map (λ x:Kid h2=>(x.1,x.2.1))++(x.1,x.2.1)::B.map (λ x:Kid h2=>(x.1,x.2.1))) by simp [nd]] at hN3
    obtain ⟨g3,off,cap3,k1,k2⟩:=zeN hN3
    rw [zLm,zLm] at k1
    rw [zLm] at k2
    have hlt:(A.length:Int)<((A.length+1+B.length:Nat):Int):=by omega
    have hd:=(zBr w3.heap.size w3).drew
    have WN:Hid (Calls Tryz.prog 166 #[.pointer (some ⟨q,0,none⟩),.string key] w3.drew λ e w'=>e=.returned (.int .i64 (A.length:Nat))/\(w'.cell? ⟨q,3,none⟩=some (.slice (some ⟨g3,off,none⟩) (A.length+1+B.length) cap3)/\w'.cell? ⟨g3,off+A.length,none⟩=some (.int .i64 (x.2.1:Int)))/\Hid (Below w3.heap.size w3 w')):=Hd (by
     refine (zgg (N3.out.below hd) (Nat.le_of_lt (Nat.lt_trans HI.out.2.1.ok.few (by decide))) hW hA).mono ?_
     rintro e w' ⟨rfl,hb⟩
     have hb':Below w3.heap.size w3 w':=hd.trans hb.out
     exact ⟨rfl,⟨(zCb (hb'.block _ (World.block_lt_of_cell? _ _ k1))).trans k1,(zCb (hb'.block _ (World.block_lt_of_cell? _ _ k2))).trans k2⟩,hb'⟩)
    have HW:=Hd hW
    generalize A.length+1+B.length=NN at *
    clear hN3 hv hwf hpos hA hW hd
    go_wp2_with fail
    go_region_held3 (λ w'=>w'.cell? ⟨q,3,none⟩=some (.slice (some ⟨g3,off,none⟩) NN cap3)/\w'.cell? ⟨g3,off+A.length,none⟩=some (.int .i64 (x.2.1:Int))) (go_keep) ((go_at_call 166;refine Calls.at_args WN.out (by with_reducible rfl) ?_;rintro e w4 ⟨rfl,hkk,HB4⟩))
    all_goals (
     go_wp2_with fail
     go_roundg h2)
    all_goals (first
     | (case measure=>have:=HGK.out;omega)
     | (case rel=>exact ⟨h2,x.2.1,c+1,x.2.2,rfl,by omega,rfl,by congr 1,Hd ⟨B3.out.below HB4.out,HI.out.2.1.kid (by simp),λ v ok g=>HI.out.2.2 v ok (g.lift HI.out.2.1.wf.2 HW.out)⟩⟩))
def zd5 (tt:ByteArray) (limit:Nat):List (ByteArray × ByteArray)->List (ByteArray × ByteArray)->List (ByteArray × ByteArray) × Bool
 | [],L=>(L,true)
 | e::r,L=>if L.length=limit\/(tt.size≠0/\zah e.1 tt=false) then (L,false) else zd5 tt limit r (L++[e])
theorem zaZ (tt:ByteArray) (limit:Nat) (e:ByteArray × ByteArray) (r L:List (ByteArray × ByteArray)):zd5 tt limit (e::r) L=if L.length=limit\/(tt.size≠0/\zah e.1 tt=false) then (L,false) else zd5 tt limit r (L++[e]):=rfl
theorem zdm {tt:ByteArray} {limit:Nat} {F1 F2 L L1:List (ByteArray × ByteArray)} (h:zd5 tt limit F1 L=(L1,true)):zd5 tt limit (F1++F2) L=zd5 tt limit F2 L1:=by
 induction F1 generalizing L with
 | nil=>cases h;rfl
 | cons e r ih =>
   rw [List.cons_append,zaZ]
   rw [zaZ] at h
   by_cases hc:L.length=limit\/(tt.size≠0/\zah e.1 tt=false)
   ·rw [if_pos hc] at h;cases h
   ·rw [if_neg hc] at h ⊢;exact ih h
theorem zkG {tt:ByteArray} {limit:Nat} {F1 F2 L L1:List (ByteArray × ByteArray)} (h:zd5 tt limit F1 L=(L1,false)):zd5 tt limit (F1++F2) L=(L1,false):=by
 induction F1 generalizing L with
 | nil=>cases h
 | cons e r ih =>
   rw [List.cons_append,zaZ]
   rw [zaZ] at h
   by_cases hc:L.length=limit\/(tt.size≠0/\zah e.1 tt=false)
   ·rw [if_pos hc] at h ⊢;exact h
   ·rw [if_neg hc] at h ⊢;exact ih h
theorem znZ {tt:ByteArray} {limit:Nat} {F L L1:List (ByteArray × ByteArray)} {ok:Bool} (h:zd5 tt limit F L=(L1,ok)):L1.length<=L.length+F.length:=by
 induction F generalizing L with
 | nil=>cases h;simp
 | cons e r ih =>
   rw [zaZ] at h
   by_cases hc:L.length=limit\/(tt.size≠0/\zah e.1 tt=false)
   ·rw [if_pos hc] at h;cases h;simp
   ·rw [if_neg hc] at h;have:=ih h;simp at this ⊢;omega
def zbi (key:ByteArray) (E:List (ByteArray × ByteArray)):List (ByteArray × ByteArray):=E.filter λ e=>!zah e.1 key
theorem zfG {key:ByteArray} {E:List (ByteArray × ByteArray)} (h:∀ e∈E,zah e.1 key=true):zbi key E=[]:=by
 unfold zbi
 rw [List.filter_eq_nil_iff]
 intro e he;simp [h e he]
theorem zgO {key:ByteArray} {E:List (ByteArray × ByteArray)} (h:∀ e∈E,zah e.1 key=false):zbi key E=E:=by
 unfold zbi
 rw [List.filter_eq_self]
 intro e he;simp [h e he]
theorem zer (key:ByteArray) (A B:List (ByteArray × ByteArray)):zbi key (A++B)=zbi key A++zbi key B:=by simp [zbi]
def zes (L:List (ByteArray × ByteArray)):List Value:=L.flatMap λ e=>[.string e.1,.string e.2]
theorem zkH (L:List (ByteArray × ByteArray)) (e:ByteArray × ByteArray):zes (L++[e])=zes L++[.string e.1,.string e.2]:=by simp [zes]
structure Acc (base:Nat) (W:World) (lb:Nat) (L:List (ByteArray × ByteArray)) (v:Value):Prop where
 blk:W.heap[lb]?=some (.cells #[v] 166 (0,0))
 row:W.ownsRow base 170 2 v L.length (zes L)
 ne:v.ownBlock≠some lb
 few:L.length<=40000000
structure zdn (base:Nat) (W W':World) (lb:Nat) (v:Value) (L':List (ByteArray × ByteArray)):Prop where
 acc:∃ v',Acc base W' lb L' v'/\∀ k,v'.ownBlock=some k->v.ownBlock=some k\/W.heap.size<=k
 up:Upd (λ k=>k=lb\/v.ownBlock=some k) W W'
theorem zci {w w':World} {base:Nat} {e:TypeId} {s:Nat} {v:Value} {n:Nat} {xs:List Value} (h:w.ownsRow base e s v n xs) (hk:∀ k,v.ownBlock=some k->w'.heap[k]?=w.heap[k]?):w'.ownsRow base e s v n xs:=by
 refine ⟨h.1,?_⟩
 rcases h.2 with hn|⟨g,cap,cur,rfl,hb,hg,rest⟩
 ·exact .inl hn
 ·exact .inr ⟨g,cap,cur,rfl,hb,(hk g rfl).trans hg,rest⟩
theorem Acc.below {base:Nat} {W W':World} {lb:Nat} {L:List (ByteArray × ByteArray)} {v:Value} (h:Acc base W lb L v) (hb:Below W.heap.size W W'):Acc base W' lb L v :=
 ⟨(hb.block lb (zab h.blk)).trans h.blk,zci h.row λ k e=>hb.block k (h.row.lt k e).2,h.ne,h.few⟩
theorem zdn.trans {base:Nat} {W W1 W2:World} {lb:Nat} {L2:List (ByteArray × ByteArray)} {v v1:Value} (hu:Upd (λ k=>k=lb\/v.ownBlock=some k) W W1) (hn:∀ k,v1.ownBlock=some k->v.ownBlock=some k\/W.heap.size<=k) (h:zdn base W1 W2 lb v1 L2):zdn base W W2 lb v L2:=by
 obtain ⟨⟨v2,a,b⟩,c⟩:=h
 refine ⟨⟨v2,a,λ k hk=>?_⟩,hu.trans' c λ j hj e=>?_⟩
 ·rcases b k hk with e|e
  ·exact hn k e
  ·have:=hu.size;exact .inr (by omega)
 ·rcases e with e|e
  ·exact .inl e
  ·exact .inr ((hn j e).resolve_right (by omega))
theorem zdn.below_left {base:Nat} {W W1 W2:World} {lb:Nat} {L2:List (ByteArray × ByteArray)} {v:Value} (hb:Below W.heap.size W W1) (h:zdn base W1 W2 lb v L2):zdn base W W2 lb v L2 :=
 zdn.trans ((hb.upd' (zNr _)).mono λ _ _ e=>False.elim e) (λ k e=>.inl e) h
theorem zak.acc {w0 W W':World} {G0 G:Nat->Prop} {tb rb place n m:Nat} {S:RS} (h:zak w0 W G0 G tb rb place n m S) {lb base:Nat} {v:Value} {L L':List (ByteArray × ByteArray)} (ha:Acc base W lb L v) (hl:w0.heap.size<=lb) (hb:w0.heap.size<=base) (hG:∀ k,G k->k<w0.heap.size) (hg:zdn base W W' lb v L'):zak w0 W' G0 G tb rb place n m S:=by
 refine h.node hg.up λ k hk=>?_
 rcases hk with e|e
 ·exact ⟨by omega,λ e'=>by have:=hG k e';omega⟩
 ·have:=(ha.row.lt k e).1
  exact ⟨by omega,λ e'=>by have:=hG k e';omega⟩
theorem zjG {base:Nat} {wr Wb W5:World} {lb:Nat} {Lj:List (ByteArray × ByteArray)} {vj v':Value} {e:ByteArray × ByteArray} (ha:Acc base wr lb Lj vj) (hb:Below wr.heap.size wr Wb) (ho:W5.ownsRow base 170 2 v' (Lj.length+1) (zes Lj++[.string e.1,.string e.2])) (hg:Wb.grownBy W5 vj.ownBlock) (hv:v'.ownBlock=vj.ownBlock\/v'.ownBlock=some Wb.heap.size) (hf:Lj.length+1<=40000000) :
 (W5.cell? ⟨lb,0,none⟩=some vj/\W5.frozen? ⟨lb,0,none⟩=false)/\Acc base (W5.setCell ⟨lb,0,none⟩ v') lb (Lj++[e]) v'/\(∀ k,v'.ownBlock=some k->vj.ownBlock=some k\/wr.heap.size<=k)/\Upd (λ k=>k=lb\/vj.ownBlock=some k) wr (W5.setCell ⟨lb,0,none⟩ v'):=by
 have hA:=ha.below hb
 have hu:Upd (λ k=>vj.ownBlock=some k) Wb W5:=(Upd.refl _ _).grown hg λ k e=>.inl e
 have h5:=hu.at hA.blk ha.ne
 have hs:=hb.size
 have hlt:=zab ha.blk
 have hne:v'.ownBlock≠some lb:=λ e=>by
  rcases hv with h|h
  ·exact ha.ne (by rw [<-h];exact e)
  ·rw [h] at e;cases e;omega
 refine ⟨⟨zaa h5 rfl,zad h5 0⟩,⟨zac h5 v',?_,hne,by simp;omega⟩,λ k hk=>?_,?_⟩
 ·rw [zkH,zLa]
  exact zci ho λ k hk=>zae _ λ e=>hne (by rw [<-e];exact hk)
 ·rcases hv with h|h
  ·exact .inl (by rw [<-h];exact hk)
  ·rw [h] at hk;cases hk;exact .inr hs
 ·have u1:Upd (λ k=>k=lb\/vj.ownBlock=some k) wr Wb:=(hb.upd' (zNr _)).mono λ _ _ e=>False.elim e
  exact (u1.trans (hu.mono λ k _ e=>.inr e)).setCell (p:=⟨lb,0,none⟩) (.inl (.inl rfl)) v'
def za6 (x k:Nat):Nat:=(x*2 ^ (32-k))%4294967296+x / 2 ^ k
theorem zdo (x k:Nat) (h1:1<=k) (h2:k<=31) (hx:x<4294967296):((x*2 ^ (32-k))%4294967296) ||| (x / 2 ^ k)=za6 x k:=by
 have e:(4294967296:Nat)=2 ^ k*2 ^ (32-k):=by rw [<-Nat.pow_add,show k+(32-k)=32 by omega]
 have h3:(x*2 ^ (32-k))%4294967296=(x%2 ^ k) <<< (32-k):=by
  rw [e,Nat.mul_mod_mul_right,Nat.shiftLeft_eq]
 have h4:x / 2 ^ k<2 ^ (32-k):=by
  rw [Nat.div_lt_iff_lt_mul (Nat.two_pow_pos k),Nat.mul_comm,<-e];exact hx
 unfold za6
 rw [h3,<-Nat.shiftLeft_add_eq_or_of_lt h4]
theorem zbC (x k:Nat) (h1:1<=k) (h2:k<=31) (hx:x<4294967296):za6 x k<4294967296:=by
 rw [<-zdo x k h1 h2 hx]
 exact Nat.or_lt_two_pow (n:=32) (Nat.mod_lt _ (by decide)) (Nat.lt_of_le_of_lt (Nat.div_le_self _ _) hx)
theorem zrC (x:Nat) (w:World) (hx:x<4294967296):Calls Tryz.prog 252 #[.int .u32 (x:Int),.int .i64 (-2)] w λ e w'=>e=.returned (.int .u32 (za6 x 2:Int))/\w=w':=by
 have a1:bits .and .u64 (IntKind.u64.wrap (-2)) 31=30:=by decide
 have hv:=u32_or_nat ((x*1073741824)%4294967296) (x / 4) (by omega) (by omega)
 have hr:Hid ((x*1073741824)%4294967296 ||| (x / 4)=za6 x 2):=Hd (zdo x 2 (by decide) (by decide) hx)
 rw [show (((x*1073741824)%4294967296:Nat):Int)=(x:Int)*1073741824%4294967296 from rfl,show ((x / 4:Nat):Int)=(x:Int) / 4 from rfl,hr.out] at hv
 clear hr
 generalize za6 x 2=R at *
 go_enter Tryz.func252,Tryz.ntmps252
 go_wp2_with fail
 go_ret
 exact ⟨rfl,rfl⟩
theorem zrD (x:Nat) (w:World) (hx:x<4294967296):Calls Tryz.prog 252 #[.int .u32 (x:Int),.int .i64 (-6)] w λ e w'=>e=.returned (.int .u32 (za6 x 6:Int))/\w=w':=by
 have a1:bits .and .u64 (IntKind.u64.wrap (-6)) 31=26:=by decide
 have hv:=u32_or_nat ((x*67108864)%4294967296) (x / 64) (by omega) (by omega)
 have hr:Hid ((x*67108864)%4294967296 ||| (x / 64)=za6 x 6):=Hd (zdo x 6 (by decide) (by decide) hx)
 rw [show (((x*67108864)%4294967296:Nat):Int)=(x:Int)*67108864%4294967296 from rfl,show ((x / 64:Nat):Int)=(x:Int) / 64 from rfl,hr.out] at hv
 clear hr
 generalize za6 x 6=R at *
 go_enter Tryz.func252,Tryz.ntmps252
 go_wp2_with fail
 go_ret
 exact ⟨rfl,rfl⟩
theorem zrE (x:Nat) (w:World) (hx:x<4294967296):Calls Tryz.prog 252 #[.int .u32 (x:Int),.int .i64 (-7)] w λ e w'=>e=.returned (.int .u32 (za6 x 7:Int))/\w=w':=by
 have a1:bits .and .u64 (IntKind.u64.wrap (-7)) 31=25:=by decide
 have hv:=u32_or_nat ((x*33554432)%4294967296) (x / 128) (by omega) (by omega)
 have hr:Hid ((x*33554432)%4294967296 ||| (x / 128)=za6 x 7):=Hd (zdo x 7 (by decide) (by decide) hx)
 rw [show (((x*33554432)%4294967296:Nat):Int)=(x:Int)*33554432%4294967296 from rfl,show ((x / 128:Nat):Int)=(x:Int) / 128 from rfl,hr.out] at hv
 clear hr
 generalize za6 x 7=R at *
 go_enter Tryz.func252,Tryz.ntmps252
 go_wp2_with fail
 go_ret
 exact ⟨rfl,rfl⟩
theorem zp4 (x:Nat) (w:World) (hx:x<4294967296):Calls Tryz.prog 252 #[.int .u32 (x:Int),.int .i64 (-11)] w λ e w'=>e=.returned (.int .u32 (za6 x 11:Int))/\w=w':=by
 have a1:bits .and .u64 (IntKind.u64.wrap (-11)) 31=21:=by decide
 have hv:=u32_or_nat ((x*2097152)%4294967296) (x / 2048) (by omega) (by omega)
 have hr:Hid ((x*2097152)%4294967296 ||| (x / 2048)=za6 x 11):=Hd (zdo x 11 (by decide) (by decide) hx)
 rw [show (((x*2097152)%4294967296:Nat):Int)=(x:Int)*2097152%4294967296 from rfl,show ((x / 2048:Nat):Int)=(x:Int) / 2048 from rfl,hr.out] at hv
 clear hr
 generalize za6 x 11=R at *
 go_enter Tryz.func252,Tryz.ntmps252
 go_wp2_with fail
 go_ret
 exact ⟨rfl,rfl⟩
theorem zp5 (x:Nat) (w:World) (hx:x<4294967296):Calls Tryz.prog 252 #[.int .u32 (x:Int),.int .i64 (-13)] w λ e w'=>e=.returned (.int .u32 (za6 x 13:Int))/\w=w':=by
 have a1:bits .and .u64 (IntKind.u64.wrap (-13)) 31=19:=by decide
 have hv:=u32_or_nat ((x*524288)%4294967296) (x / 8192) (by omega) (by omega)
 have hr:Hid ((x*524288)%4294967296 ||| (x / 8192)=za6 x 13):=Hd (zdo x 13 (by decide) (by decide) hx)
 rw [show (((x*524288)%4294967296:Nat):Int)=(x:Int)*524288%4294967296 from rfl,show ((x / 8192:Nat):Int)=(x:Int) / 8192 from rfl,hr.out] at hv
 clear hr
 generalize za6 x 13=R at *
 go_enter Tryz.func252,Tryz.ntmps252
 go_wp2_with fail
 go_ret
 exact ⟨rfl,rfl⟩
theorem zp6 (x:Nat) (w:World) (hx:x<4294967296):Calls Tryz.prog 252 #[.int .u32 (x:Int),.int .i64 (-17)] w λ e w'=>e=.returned (.int .u32 (za6 x 17:Int))/\w=w':=by
 have a1:bits .and .u64 (IntKind.u64.wrap (-17)) 31=15:=by decide
 have hv:=u32_or_nat ((x*32768)%4294967296) (x / 131072) (by omega) (by omega)
 have hr:Hid ((x*32768)%4294967296 ||| (x / 131072)=za6 x 17):=Hd (zdo x 17 (by decide) (by decide) hx)
 rw [show (((x*32768)%4294967296:Nat):Int)=(x:Int)*32768%4294967296 from rfl,show ((x / 131072:Nat):Int)=(x:Int) / 131072 from rfl,hr.out] at hv
 clear hr
 generalize za6 x 17=R at *
 go_enter Tryz.func252,Tryz.ntmps252
 go_wp2_with fail
 go_ret
 exact ⟨rfl,rfl⟩
theorem zp7 (x:Nat) (w:World) (hx:x<4294967296):Calls Tryz.prog 252 #[.int .u32 (x:Int),.int .i64 (-18)] w λ e w'=>e=.returned (.int .u32 (za6 x 18:Int))/\w=w':=by
 have a1:bits .and .u64 (IntKind.u64.wrap (-18)) 31=14:=by decide
 have hv:=u32_or_nat ((x*16384)%4294967296) (x / 262144) (by omega) (by omega)
 have hr:Hid ((x*16384)%4294967296 ||| (x / 262144)=za6 x 18):=Hd (zdo x 18 (by decide) (by decide) hx)
 rw [show (((x*16384)%4294967296:Nat):Int)=(x:Int)*16384%4294967296 from rfl,show ((x / 262144:Nat):Int)=(x:Int) / 262144 from rfl,hr.out] at hv
 clear hr
 generalize za6 x 18=R at *
 go_enter Tryz.func252,Tryz.ntmps252
 go_wp2_with fail
 go_ret
 exact ⟨rfl,rfl⟩
theorem zp8 (x:Nat) (w:World) (hx:x<4294967296):Calls Tryz.prog 252 #[.int .u32 (x:Int),.int .i64 (-19)] w λ e w'=>e=.returned (.int .u32 (za6 x 19:Int))/\w=w':=by
 have a1:bits .and .u64 (IntKind.u64.wrap (-19)) 31=13:=by decide
 have hv:=u32_or_nat ((x*8192)%4294967296) (x / 524288) (by omega) (by omega)
 have hr:Hid ((x*8192)%4294967296 ||| (x / 524288)=za6 x 19):=Hd (zdo x 19 (by decide) (by decide) hx)
 rw [show (((x*8192)%4294967296:Nat):Int)=(x:Int)*8192%4294967296 from rfl,show ((x / 524288:Nat):Int)=(x:Int) / 524288 from rfl,hr.out] at hv
 clear hr
 generalize za6 x 19=R at *
 go_enter Tryz.func252,Tryz.ntmps252
 go_wp2_with fail
 go_ret
 exact ⟨rfl,rfl⟩
theorem zp9 (x:Nat) (w:World) (hx:x<4294967296):Calls Tryz.prog 252 #[.int .u32 (x:Int),.int .i64 (-22)] w λ e w'=>e=.returned (.int .u32 (za6 x 22:Int))/\w=w':=by
 have a1:bits .and .u64 (IntKind.u64.wrap (-22)) 31=10:=by decide
 have hv:=u32_or_nat ((x*1024)%4294967296) (x / 4194304) (by omega) (by omega)
 have hr:Hid ((x*1024)%4294967296 ||| (x / 4194304)=za6 x 22):=Hd (zdo x 22 (by decide) (by decide) hx)
 rw [show (((x*1024)%4294967296:Nat):Int)=(x:Int)*1024%4294967296 from rfl,show ((x / 4194304:Nat):Int)=(x:Int) / 4194304 from rfl,hr.out] at hv
 clear hr
 generalize za6 x 22=R at *
 go_enter Tryz.func252,Tryz.ntmps252
 go_wp2_with fail
 go_ret
 exact ⟨rfl,rfl⟩
theorem zqa (x:Nat) (w:World) (hx:x<4294967296):Calls Tryz.prog 252 #[.int .u32 (x:Int),.int .i64 (-25)] w λ e w'=>e=.returned (.int .u32 (za6 x 25:Int))/\w=w':=by
 have a1:bits .and .u64 (IntKind.u64.wrap (-25)) 31=7:=by decide
 have hv:=u32_or_nat ((x*128)%4294967296) (x / 33554432) (by omega) (by omega)
 have hr:Hid ((x*128)%4294967296 ||| (x / 33554432)=za6 x 25):=Hd (zdo x 25 (by decide) (by decide) hx)
 rw [show (((x*128)%4294967296:Nat):Int)=(x:Int)*128%4294967296 from rfl,show ((x / 33554432:Nat):Int)=(x:Int) / 33554432 from rfl,hr.out] at hv
 clear hr
 generalize za6 x 25=R at *
 go_enter Tryz.func252,Tryz.ntmps252
 go_wp2_with fail
 go_ret
 exact ⟨rfl,rfl⟩
def zbL (x a b c:Nat):Nat:=(za6 x a ^^^ za6 x b) ^^^ za6 x c
def zbS (x a b c:Nat):Nat:=(za6 x a ^^^ za6 x b) ^^^ (x / 2 ^ c)
theorem zdp {x y:Nat} (hx:x<4294967296) (hy:y<4294967296):x ^^^ y<4294967296:=Nat.xor_lt_two_pow (n:=32) hx hy
theorem zjH (x a b c:Nat) (ha:1<=a/\a<=31) (hb:1<=b/\b<=31) (hc:1<=c/\c<=31) (hx:x<4294967296):zbL x a b c<4294967296 :=
 zdp (zdp (zbC x a ha.1 ha.2 hx) (zbC x b hb.1 hb.2 hx)) (zbC x c hc.1 hc.2 hx)
theorem zjI (x a b c:Nat) (ha:1<=a/\a<=31) (hb:1<=b/\b<=31) (hx:x<4294967296):zbS x a b c<4294967296 :=
 zdp (zdp (zbC x a ha.1 ha.2 hx) (zbC x b hb.1 hb.2 hx)) (Nat.lt_of_le_of_lt (Nat.div_le_self _ _) hx)
theorem zn0 (x:Nat) (w:World) (hx:x<4294967296):Calls Tryz.prog 208 #[.int .u32 (x:Int),.int .i64 6,.int .i64 11,.int .i64 25] w λ e w'=>e=.returned (.int .u32 (zbL x 6 11 25:Int))/\w=w':=by
 have A1:=λ W=>zrD x W hx
 have A2:=λ W=>zp4 x W hx
 have A3:=λ W=>zqa x W hx
 have l1:=zbC x 6 (by decide) (by decide) hx
 have l2:=zbC x 11 (by decide) (by decide) hx
 have l3:=zbC x 25 (by decide) (by decide) hx
 have v1:=u32_xor_nat _ _ l1 l2
 have v2:=u32_xor_nat _ _ (zdp l1 l2) l3
 have HE:Hid (zbL x 6 11 25=(za6 x 6 ^^^ za6 x 11) ^^^ za6 x 25):=Hd rfl
 generalize zbL x 6 11 25=R at *
 generalize za6 x 6 ^^^ za6 x 11=z at *
 generalize za6 x 6=y1 at *
 generalize za6 x 11=y2 at *
 generalize za6 x 25=y3 at *
 clear l1 l2 l3
 go_enter Tryz.func208,Tryz.ntmps208
 go_wp2_with fail
 refine (A1 _).mono ?_
 rintro e w1 ⟨rfl,rfl⟩
 go_wp2_with fail
 refine (A2 _).mono ?_
 rintro e w1 ⟨rfl,rfl⟩
 go_wp2_with fail
 refine (A3 _).mono ?_
 rintro e w1 ⟨rfl,rfl⟩
 go_wp2_with fail
 go_ret
 exact ⟨by rw [HE.out];rfl,rfl⟩
theorem zn1 (x:Nat) (w:World) (hx:x<4294967296):Calls Tryz.prog 208 #[.int .u32 (x:Int),.int .i64 2,.int .i64 13,.int .i64 22] w λ e w'=>e=.returned (.int .u32 (zbL x 2 13 22:Int))/\w=w':=by
 have A1:=λ W=>zrC x W hx
 have A2:=λ W=>zp5 x W hx
 have A3:=λ W=>zp9 x W hx
 have l1:=zbC x 2 (by decide) (by decide) hx
 have l2:=zbC x 13 (by decide) (by decide) hx
 have l3:=zbC x 22 (by decide) (by decide) hx
 have v1:=u32_xor_nat _ _ l1 l2
 have v2:=u32_xor_nat _ _ (zdp l1 l2) l3
 have HE:Hid (zbL x 2 13 22=(za6 x 2 ^^^ za6 x 13) ^^^ za6 x 22):=Hd rfl
 generalize zbL x 2 13 22=R at *
 generalize za6 x 2 ^^^ za6 x 13=z at *
 generalize za6 x 2=y1 at *
 generalize za6 x 13=y2 at *
 generalize za6 x 22=y3 at *
 clear l1 l2 l3
 go_enter Tryz.func208,Tryz.ntmps208
 go_wp2_with fail
 refine (A1 _).mono ?_
 rintro e w1 ⟨rfl,rfl⟩
 go_wp2_with fail
 refine (A2 _).mono ?_
 rintro e w1 ⟨rfl,rfl⟩
 go_wp2_with fail
 refine (A3 _).mono ?_
 rintro e w1 ⟨rfl,rfl⟩
 go_wp2_with fail
 go_ret
 exact ⟨by rw [HE.out];rfl,rfl⟩
theorem zn2 (x:Nat) (w:World) (hx:x<4294967296):Calls Tryz.prog 251 #[.int .u32 (x:Int),.int .i64 7,.int .i64 18,.int .i64 3] w λ e w'=>e=.returned (.int .u32 (zbS x 7 18 3:Int))/\∃ n,w'=w.drewN n:=by
 have A1:=λ W=>zrE x W hx
 have A2:=λ W=>zp7 x W hx
 have l1:=zbC x 7 (by decide) (by decide) hx
 have l2:=zbC x 18 (by decide) (by decide) hx
 have v1:=u32_xor_nat _ _ l1 l2
 have v2:=u32_xor_nat _ (x / 8) (zdp l1 l2) (by omega)
 rw [show ((x / 8:Nat):Int)=(x:Int) / 8 from rfl] at v2
 have HE:Hid (zbS x 7 18 3=(za6 x 7 ^^^ za6 x 18) ^^^ (x / 8)):=Hd rfl
 have Q1:=λ W=>(A1 W).mono (λ _ _ (h:_/\_)=>(⟨h.1,h.2.symm⟩:_/\_))
 have Q2:=λ W=>(A2 W).mono (λ _ _ (h:_/\_)=>(⟨h.1,h.2.symm⟩:_/\_))
 clear A1 A2
 generalize zbS x 7 18 3=R at *
 generalize za6 x 7 ^^^ za6 x 18=z at *
 generalize za6 x 7=y1 at *
 generalize za6 x 18=y2 at *
 clear l1 l2
 go_enter Tryz.func251,Tryz.ntmps251
 go_wp2_with fail
 go_quiet ((first
  | (go_at_call 252;with_reducible exact Calls.quiet_of_same (Q1 _))
  | (go_at_call 252;with_reducible exact Calls.quiet_of_same (Q2 _))))
 go_wp2_with fail
 go_ret
 exact ⟨by rw [HE.out];rfl,_,rfl⟩
theorem zl7 (x:Nat) (w:World) (hx:x<4294967296):Calls Tryz.prog 251 #[.int .u32 (x:Int),.int .i64 17,.int .i64 19,.int .i64 10] w λ e w'=>e=.returned (.int .u32 (zbS x 17 19 10:Int))/\∃ n,w'=w.drewN n:=by
 have A1:=λ W=>zp6 x W hx
 have A2:=λ W=>zp8 x W hx
 have l1:=zbC x 17 (by decide) (by decide) hx
 have l2:=zbC x 19 (by decide) (by decide) hx
 have v1:=u32_xor_nat _ _ l1 l2
 have v2:=u32_xor_nat _ (x / 1024) (zdp l1 l2) (by omega)
 rw [show ((x / 1024:Nat):Int)=(x:Int) / 1024 from rfl] at v2
 have HE:Hid (zbS x 17 19 10=(za6 x 17 ^^^ za6 x 19) ^^^ (x / 1024)):=Hd rfl
 have Q1:=λ W=>(A1 W).mono (λ _ _ (h:_/\_)=>(⟨h.1,h.2.symm⟩:_/\_))
 have Q2:=λ W=>(A2 W).mono (λ _ _ (h:_/\_)=>(⟨h.1,h.2.symm⟩:_/\_))
 clear A1 A2
 generalize zbS x 17 19 10=R at *
 generalize za6 x 17 ^^^ za6 x 19=z at *
 generalize za6 x 17=y1 at *
 generalize za6 x 19=y2 at *
 clear l1 l2
 go_enter Tryz.func251,Tryz.ntmps251
 go_wp2_with fail
 go_quiet ((first
  | (go_at_call 252;with_reducible exact Calls.quiet_of_same (Q1 _))
  | (go_at_call 252;with_reducible exact Calls.quiet_of_same (Q2 _))))
 go_wp2_with fail
 go_ret
 exact ⟨by rw [HE.out];rfl,_,rfl⟩
def zc6:List Nat:=[4794697085070296209,13096744586791213989,4131703405765792241,10538285296827260629,15566598207151758081,2608012711741390275,8268148720858477054,11230858888332702068,16472876343709550470,1135362055407968716,3308224257782482090,6679025011744409818,10970295157772109421,12683024718762704839,14330467156182405447,489312709404862823,2861767655337697592,5560940570391088403,7280758554198936251,9350256978237205637,11727347735703742027,14000437183109681571,15101387698198873636,17586052440550711408,1847814047869135880,2830643534987574453,4115178123771292234,6601373596217405427,8399075790807196527,9568029438005150216,10430055239000288491,13761210420988836082]
theorem zn3 (i:Nat) (h:i<32) (w:World):(Instr.index 350 (.agg #[.int .u64 4794697085070296209,.int .u64 13096744586791213989,.int .u64 4131703405765792241,.int .u64 10538285296827260629,.int .u64 15566598207151758081,.int .u64 2608012711741390275,.int .u64 8268148720858477054,.int .u64 11230858888332702068,.int .u64 16472876343709550470,.int .u64 1135362055407968716,.int .u64 3308224257782482090,.int .u64 6679025011744409818,.int .u64 10970295157772109421,.int .u64 12683024718762704839,.int .u64 14330467156182405447,.int .u64 489312709404862823,.int .u64 2861767655337697592,.int .u64 5560940570391088403,.int .u64 7280758554198936251,.int .u64 9350256978237205637,.int .u64 11727347735703742027,.int .u64 14000437183109681571,.int .u64 15101387698198873636,.int .u64 17586052440550711408,.int .u64 1847814047869135880,.int .u64 2830643534987574453,.int .u64 4115178123771292234,.int .u64 6601373596217405427,.int .u64 8399075790807196527,.int .u64 9568029438005150216,.int .u64 10430055239000288491,.int .u64 13761210420988836082]) (.int .i64 (i:Int))).run Tryz.prog w=.ok (.int .u64 (zc6.getD i 0:Nat)) w:=by
 have:i=0\/i=1\/i=2\/i=3\/i=4\/i=5\/i=6\/i=7\/i=8\/i=9\/i=10\/i=11\/i=12\/i=13\/i=14\/i=15\/i=16\/i=17\/i=18\/i=19\/i=20\/i=21\/i=22\/i=23\/i=24\/i=25\/i=26\/i=27\/i=28\/i=29\/i=30\/i=31:=by omega
 rcases this with rfl|rfl|rfl|rfl|rfl|rfl|rfl|rfl|rfl|rfl|rfl|rfl|rfl|rfl|rfl|rfl|rfl|rfl|rfl|rfl|rfl|rfl|rfl|rfl|rfl|rfl|rfl|rfl|rfl|rfl|rfl|rfl
 ·(show _=_;kernel_rfl)
 ·(show _=_;kernel_rfl)
 ·(show _=_;kernel_rfl)
 ·(show _=_;kernel_rfl)
 ·(show _=_;kernel_rfl)
 ·(show _=_;kernel_rfl)
 ·(show _=_;kernel_rfl)
 ·(show _=_;kernel_rfl)
 ·(show _=_;kernel_rfl)
 ·(show _=_;kernel_rfl)
 ·(show _=_;kernel_rfl)
 ·(show _=_;kernel_rfl)
 ·(show _=_;kernel_rfl)
 ·(show _=_;kernel_rfl)
 ·(show _=_;kernel_rfl)
 ·(show _=_;kernel_rfl)
 ·(show _=_;kernel_rfl)
 ·(show _=_;kernel_rfl)
 ·(show _=_;kernel_rfl)
 ·(show _=_;kernel_rfl)
 ·(show _=_;kernel_rfl)
 ·(show _=_;kernel_rfl)
 ·(show _=_;kernel_rfl)
 ·(show _=_;kernel_rfl)
 ·(show _=_;kernel_rfl)
 ·(show _=_;kernel_rfl)
 ·(show _=_;kernel_rfl)
 ·(show _=_;kernel_rfl)
 ·(show _=_;kernel_rfl)
 ·(show _=_;kernel_rfl)
 ·(show _=_;kernel_rfl)
 ·(show _=_;kernel_rfl)
theorem zqb (i:Nat) (h:i<32) (w:World):Calls Tryz.prog 253 #[.int .i64 (i:Int)] w λ e w'=>e=.returned (.int .u64 (zc6.getD i 0:Nat))/\w=w':=by
 have IX:=λ W=>zn3 i h W
 generalize zc6.getD i 0=R at *
 go_enter Tryz.func253,Tryz.ntmps253
 go_wp2_with fail
 go_ret
 exact ⟨rfl,rfl⟩
theorem zl8 (i:Nat):zc6.getD i 0<18446744073709551616:=by
 by_cases h:i<32
 ·have:i=0\/i=1\/i=2\/i=3\/i=4\/i=5\/i=6\/i=7\/i=8\/i=9\/i=10\/i=11\/i=12\/i=13\/i=14\/i=15\/i=16\/i=17\/i=18\/i=19\/i=20\/i=21\/i=22\/i=23\/i=24\/i=25\/i=26\/i=27\/i=28\/i=29\/i=30\/i=31:=by omega
  rcases this with rfl|rfl|rfl|rfl|rfl|rfl|rfl|rfl|rfl|rfl|rfl|rfl|rfl|rfl|rfl|rfl|rfl|rfl|rfl|rfl|rfl|rfl|rfl|rfl|rfl|rfl|rfl|rfl|rfl|rfl|rfl|rfl <;> decide
 ·have:zc6.getD i 0=0:=by unfold List.getD;rw [List.getElem?_eq_none (by have:zc6.length=32:=rfl;omega)];rfl
  rw [this];decide
def kN (t:Nat):Nat:=if t%2=0 then zc6.getD (t / 2) 0 / 4294967296%4294967296 else zc6.getD (t / 2) 0%4294967296
theorem zsD (t:Nat):kN t<4294967296:=by unfold kN;split <;> exact Nat.mod_lt _ (by decide)
theorem k_c (t:Nat) (h:t<64) (w:World):Calls Tryz.prog 209 #[.int .i64 (t:Int)] w λ e w'=>e=.returned (.int .u32 (kN t:Nat))/\w=w':=by
 have CB:=λ W=>zqb (t / 2) (by omega) W
 rw [show ((t / 2:Nat):Int)=(t:Int) / 2 from rfl] at CB
 have hc:=zl8 (t / 2)
 by_cases h0:t%2=0
 ·have h1:(t:Int)%2=0:=by omega
  have HE:Hid (kN t=zc6.getD (t / 2) 0 / 4294967296):=Hd ((if_pos h0).trans (Nat.mod_eq_of_lt (by omega)))
  generalize zc6.getD (t / 2) 0=c at *
  generalize kN t=R at *
  clear h0
  go_enter Tryz.func209,Tryz.ntmps209
  go_wp2_with fail
  refine (CB _).mono ?_
  rintro e w1 ⟨rfl,rfl⟩
  go_wp2_with fail
  go_ret
  exact ⟨by rw [HE.out];rfl,rfl⟩
 ·have h1:(t:Int)%2=1:=by omega
  have HE:Hid (kN t=zc6.getD (t / 2) 0%4294967296):=Hd (if_neg h0)
  generalize zc6.getD (t / 2) 0=c at *
  generalize kN t=R at *
  clear h0
  go_enter Tryz.func209,Tryz.ntmps209
  go_wp2_with fail
  refine (CB _).mono ?_
  rintro e w1 ⟨rfl,rfl⟩
  go_wp2_with fail
  go_ret
  exact ⟨by rw [HE.out];rfl,rfl⟩
def zaC (a b:Nat):Nat:=(a+b)%4294967296
theorem zdy (a b:Nat):zaC a b<4294967296:=Nat.mod_lt _ (by decide)
theorem za5 (a b:Nat):((a:Int)+(b:Int))%4294967296=((zaC a b:Nat):Int):=by unfold zaC;omega
def za1 (l:List Nat):Prop:=∀ x∈l,x<4294967296
theorem za1.get {l:List Nat} (h:za1 l) (i:Nat):l.getD i 0<4294967296:=by
 unfold List.getD
 cases e:l[i]? with
 | none=>simp
 | some x=>simpa using h x (List.mem_of_getElem? e)
theorem za1.set {l:List Nat} (h:za1 l) (i:Nat) {x:Nat} (hx:x<4294967296):za1 (l.set i x):=λ y hy=>by
 rcases List.mem_or_eq_of_mem_set hy with hy|rfl
 ·exact h y hy
 ·exact hx
def zl9 (W:List Nat) (t:Nat):Nat:=zaC (zaC (zbS (W.getD ((t+1)%16) 0) 7 18 3) (W.getD ((t+9)%16) 0)) (zbS (W.getD ((t+14)%16) 0) 17 19 10)
def zfH (W:List Nat) (t:Nat):Nat:=zaC (W.getD (t%16) 0) (zl9 W t)
structure V8 where
 a:Nat
 b:Nat
 c:Nat
 d:Nat
 e:Nat
 f:Nat
 g:Nat
 h:Nat
structure V8.Ok (v:V8):Prop where
 a:v.a<4294967296
 b:v.b<4294967296
 c:v.c<4294967296
 d:v.d<4294967296
 e:v.e<4294967296
 f:v.f<4294967296
 g:v.g<4294967296
 h:v.h<4294967296
def V8.up (v:V8) (k w:Nat):Nat:=zaC (zaC (zaC (zaC v.h (zbL v.e 6 11 25)) (v.g ^^^ (v.e &&& (v.f ^^^ v.g)))) k) w
def V8.over (v:V8):Nat:=zaC (zbL v.a 2 13 22) ((v.a &&& v.b) ||| (v.c &&& (v.a ||| v.b)))
def V8.next (v:V8) (k w:Nat):V8:=⟨zaC (v.up k w) v.over,v.a,v.b,v.c,zaC v.d (v.up k w),v.e,v.f,v.g⟩
theorem V8.next_ok {v:V8} (h:v.Ok) (k w:Nat):(v.next k w).Ok:=⟨zdy _ _,h.a,h.b,h.c,zdy _ _,h.e,h.f,h.g⟩
def wAt (W:List Nat) (t:Nat):Nat:=if t<16 then W.getD (t%16) 0 else zfH W t
def zc9 (W:List Nat) (t:Nat):List Nat:=if t<16 then W else W.set (t%16) (zfH W t)
def zgh (v:V8) (W:List Nat):Nat->V8 × List Nat
 | 0=>(v,W)
 | t+1=>((zgh v W t).1.next (kN t) (wAt (zgh v W t).2 t),zc9 (zgh v W t).2 t)
theorem zma (W:List Nat) (t:Nat):(zc9 W t).length=W.length:=by unfold zc9;split <;> simp
theorem zn4 {W:List Nat} (h:za1 W) (t:Nat):za1 (zc9 W t):=by
 unfold zc9;split
 ·exact h
 ·exact h.set _ (zdy _ _)
theorem zrF {W:List Nat} (h:za1 W) (t:Nat):wAt W t<4294967296:=by
 unfold wAt;split
 ·exact h.get _
 ·exact zdy _ _
theorem zgP {v:V8} {W:List Nat} (hv:v.Ok) (hW:za1 W):∀ t,(zgh v W t).1.Ok/\za1 (zgh v W t).2/\(zgh v W t).2.length=W.length
 | 0=>⟨hv,hW,rfl⟩
 | t+1=>by
   obtain ⟨h1,h2,h3⟩:=zgP hv hW t
   exact ⟨V8.next_ok h1 _ _,zn4 h2 t,(zma _ t).trans h3⟩
def V8.of (h:List Nat):V8:=⟨h.getD 0 0,h.getD 1 0,h.getD 2 0,h.getD 3 0,h.getD 4 0,h.getD 5 0,h.getD 6 0,h.getD 7 0⟩
def V8.list (v:V8):List Nat:=[v.a,v.b,v.c,v.d,v.e,v.f,v.g,v.h]
theorem V8.of_ok {h:List Nat} (hh:za1 h):(V8.of h).Ok:=⟨hh.get _,hh.get _,hh.get _,hh.get _,hh.get _,hh.get _,hh.get _,hh.get _⟩
def zco (h v:List Nat):Nat->List Nat
 | 0=>h
 | i+1=>(zco h v i).set i (zaC (h.getD i 0) (v.getD i 0))
theorem zdq (h v:List Nat):∀ i,(zco h v i).length=h.length
 | 0=>rfl
 | i+1=>by simp only [zco,List.length_set];exact zdq h v i
theorem zfr {h:List Nat} (hh:za1 h) (v:List Nat):∀ i,za1 (zco h v i)
 | 0=>hh
 | i+1=>(zfr hh v i).set _ (zdy _ _)
theorem zfI (h v:List Nat):∀ i j,i<=j->(zco h v i).getD j 0=h.getD j 0
 | 0,_,_=>rfl
 | i+1,j,hj=>by
   have ih:=zfI h v i j (by omega)
   unfold List.getD at *
   simp only [zco]
   rw [List.getElem?_set_ne (by omega)]
   exact ih
structure Pn where
 h:List Nat
 W:List Nat
 n:Nat
structure Pn.Wk (p:Pn):Prop where
 h:p.h.length=8
 W:p.W.length=16
 h32:za1 p.h
 W32:za1 p.W
structure Pn.Ok (p:Pn):Prop where
 h:p.h.length=8
 W:p.W.length=16
 h32:za1 p.h
 W32:za1 p.W
 n:p.n<64
theorem Pn.Ok.wk {p:Pn} (h:p.Ok):p.Wk:=⟨h.h,h.W,h.h32,h.W32⟩
def Pn.stirM (p:Pn) (m:Nat):Pn:=⟨zco p.h (zgh (V8.of p.h) p.W m).1.list 8,(zgh (V8.of p.h) p.W m).2,p.n⟩
def Pn.stir (p:Pn):Pn:=p.stirM 64
def Pn.zero (p:Pn):Pn:=⟨p.h,p.W,0⟩
theorem Pn.stirM_ok {p:Pn} (h8:p.h.length=8) (hW:p.W.length=16) (h32:za1 p.h) (w32:za1 p.W) (m:Nat):(p.stirM m).zero.Ok:=by
 obtain ⟨-,h2,h3⟩:=zgP (V8.of_ok h32) w32 m
 exact ⟨(zdq _ _ _).trans h8,h3.trans hW,zfr h32 _ _,h2,by show 0<64;decide⟩
theorem Pn.stir_ok {p:Pn} (h8:p.h.length=8) (hW:p.W.length=16) (h32:za1 p.h) (w32:za1 p.W):p.stir.zero.Ok:=Pn.stirM_ok h8 hW h32 w32 64
def zda (x c:Nat):Nat:=x*256%4294967296+c
theorem zgQ (x:Nat) {c:Nat} (h:c<256):zda x c<4294967296:=by unfold zda;omega
def Pn.fed (p:Pn) (c:Nat):Pn:=⟨p.h,p.W.set (p.n / 4) (zda (p.W.getD (p.n / 4) 0) c),p.n+1⟩
def Pn.put (p:Pn) (c:Nat):Pn:=if p.n+1=64 then (p.fed c).stir.zero else p.fed c
theorem Pn.fed_wk {p:Pn} (h:p.Ok) {c:Nat} (hc:c<256):(p.fed c).Wk:=⟨h.h,by simp [Pn.fed,h.W],h.h32,h.W32.set _ (zgQ _ hc)⟩
theorem Pn.put_ok {p:Pn} (h:p.Ok) {c:Nat} (hc:c<256):(p.put c).Ok:=by
 have hW:za1 (p.fed c).W:=h.W32.set _ (zgQ _ hc)
 have hl:(p.fed c).W.length=16:=by simp [Pn.fed,h.W]
 unfold Pn.put
 split
 ·exact Pn.stir_ok (p:=p.fed c) h.h hl h.h32 hW
 ·have:=h.n
  exact ⟨h.h,hl,h.h32,hW,by show p.n+1<64;omega⟩
theorem Pn.put_n (p:Pn) (c:Nat):(p.put c).n=if p.n+1=64 then 0 else p.n+1:=by
 unfold Pn.put;split <;> rfl
def Pn.puts (p:Pn) (l:List Nat):Pn:=l.foldl Pn.put p
theorem Pn.puts_ok:∀ {l:List Nat} {p:Pn},p.Ok->(∀ c∈l,c<256)->(p.puts l).Ok
 | [],_,h,_=>h
 | c::l,p,h,hl=>Pn.puts_ok (l:=l) (p:=p.put c) (Pn.put_ok h (hl c (by simp))) λ x hx=>hl x (by simp [hx])
theorem Pn.puts_snoc (p:Pn) (l:List Nat) (c:Nat):p.puts (l++[c])=(p.puts l).put c:=by simp [Pn.puts]
def pn0:Pn:=⟨[1779033703,3144134277,1013904242,2773480762,1359893119,2600822924,528734635,1541459225],List.replicate 16 0,0⟩
theorem zgi:pn0.Ok:=⟨rfl,rfl,by unfold za1;decide,by unfold za1;decide,by decide⟩
theorem zn5 (x c:Nat) (hc:c<256):((x*256)%4294967296) ||| c=zda x c:=by
 have h3:(x*256)%4294967296=(x%16777216) <<< 8:=by rw [show (4294967296:Nat)=16777216*256 from rfl,Nat.mul_mod_mul_right,Nat.shiftLeft_eq]
 unfold zda
 rw [h3,<-Nat.shiftLeft_add_eq_or_of_lt (i:=8) (show c<2 ^ 8 from hc)]
def zdr (n:Nat):Nat:=(120-n)%64
def zdV (s:ByteArray):List Nat:=s.data.toList.map λ c=>c.toNat
theorem zjJ (s:ByteArray):∀ c∈zdV s,c<256:=by
 intro c hc
 obtain ⟨x,-,rfl⟩:=List.mem_map.1 hc
 exact x.toNat_lt
def pnA (s:ByteArray):Pn:=(pn0.puts (zdV s)).put 128
def pnB (s:ByteArray):Pn:=(pnA s).puts (List.replicate (zdr (pnA s).n) 0)
def zdI (n:Nat):List Nat:=(List.range 8).map λ i=>n*8 / 2 ^ (56-8*i)%256
def pnC (s:ByteArray):Pn:=(pnB s).puts (zdI s.size)
theorem zjK (n:Nat):∀ c∈zdI n,c<256:=by
 intro c hc
 obtain ⟨x,-,rfl⟩:=List.mem_map.1 hc
 exact Nat.mod_lt _ (by decide)
theorem zo7 (s:ByteArray):(pnA s).Ok:=Pn.put_ok (Pn.puts_ok zgi (zjJ s)) (by decide)
theorem zrG (s:ByteArray):(pnB s).Ok:=Pn.puts_ok (zo7 s) λ c hc=>by rw [List.eq_of_mem_replicate hc];decide
theorem zrH (s:ByteArray):(pnC s).Ok:=Pn.puts_ok (zrG s) (zjK _)
def zhJ (h:List Nat):List UInt8:=(List.range 32).map λ i=>UInt8.ofNat (h.getD (i / 4) 0 / 2 ^ (24-i%4*8))
def prB (s:ByteArray):ByteArray:=⟨(zhJ (pnC s).h).toArray⟩
theorem zgR (s:ByteArray):(prB s).size=32:=by
 show (zhJ (pnC s).h).toArray.size=32
 simp [zhJ]
def zbe (h W:List Nat) (n:Nat):List Value:=h.map (λ (x:Nat)=>Value.int .u32 (x:Int))++(W.map (λ (x:Nat)=>Value.int .u32 (x:Int))++[.int .i64 (n:Int)])
theorem zmb {h W:List Nat} {n:Nat} (h8:h.length=8) {i:Nat} (hi:i<8):(zbe h W n)[i]?=some (.int .u32 (h.getD i 0:Nat)):=by
 unfold zbe List.getD
 rw [List.getElem?_append_left (by simp;omega),List.getElem?_map,List.getElem?_eq_getElem (by omega)];simp
theorem zet {h W:List Nat} {n:Nat} (h8:h.length=8) (hW:W.length=16) {i:Nat} (hi:i<16):(zbe h W n)[8+i]?=some (.int .u32 (W.getD i 0:Nat)):=by
 unfold zbe List.getD
 rw [List.getElem?_append_right (by simp;omega),zLm,h8,show 8+i-8=i by omega,List.getElem?_append_left (by simp;omega),List.getElem?_map,List.getElem?_eq_getElem (by omega)];simp
theorem zmc {h W:List Nat} {n:Nat} (h8:h.length=8) (hW:W.length=16):(zbe h W n)[24]?=some (.int .i64 (n:Int)):=by
 unfold zbe
 rw [List.getElem?_append_right (by simp;omega),zLm,h8,List.getElem?_append_right (by simp;omega),zLm,hW];rfl
theorem zgS {h W:List Nat} {n:Nat} (h8:h.length=8) {i:Nat} (hi:i<8) (x:Nat):(zbe h W n).set i (.int .u32 (x:Int))=zbe (h.set i x) W n:=by
 unfold zbe
 rw [List.set_append_left _ _ (by simp;omega),List.map_set]
theorem zgT {h W:List Nat} {n:Nat} (h8:h.length=8) (hW:W.length=16) {i:Nat} (hi:i<16) (x:Nat):(zbe h W n).set (8+i) (.int .u32 (x:Int))=zbe h (W.set i x) n:=by
 unfold zbe
 rw [List.set_append_right _ _ (by simp;omega),zLm,h8,show 8+i-8=i by omega,List.set_append_left _ _ (by simp;omega),List.map_set]
theorem zgU {h W:List Nat} {n:Nat} (h8:h.length=8) (hW:W.length=16) (m:Nat):(zbe h W n).set 24 (.int .i64 (m:Int))=zbe h W m:=by
 unfold zbe
 rw [List.set_append_right _ _ (by simp;omega),zLm,h8,List.set_append_right _ _ (by simp;omega),zLm,hW];rfl
def PB (w:World) (b:Nat) (p:Pn):Prop:=w.heap[b]?=some (.cells (zbe p.h p.W p.n).toArray 210 (0,0))
section
variable {w w':World} {b:Nat} {p:Pn}
theorem PB.lt (h:PB w b p):b<w.heap.size:=zab h
theorem PB.frozen (h:PB w b p) (i:Nat):w.frozen? ⟨b,i,none⟩=false:=zad h i
theorem PB.ch (h:PB w b p) (hp:p.Wk) {i:Nat} (hi:i<8):w.cell? ⟨b,i,none⟩=some (.int .u32 (p.h.getD i 0:Nat)):=zaa h (by rw [List.getElem?_toArray];exact zmb hp.h hi)
theorem PB.cw (h:PB w b p) (hp:p.Wk) {i:Nat} (hi:i<16):w.cell? ⟨b,8+i,none⟩=some (.int .u32 (p.W.getD i 0:Nat)):=zaa h (by rw [List.getElem?_toArray];exact zet hp.h hp.W hi)
theorem PB.cn (h:PB w b p) (hp:p.Wk):w.cell? ⟨b,24,none⟩=some (.int .i64 (p.n:Int)):=zaa h (by rw [List.getElem?_toArray];exact zmc hp.h hp.W)
theorem PB.sh (h:PB w b p) (hp:p.Wk) {i:Nat} (hi:i<8) (x:Nat):PB (w.setCell ⟨b,i,none⟩ (.int .u32 (x:Int))) b ⟨p.h.set i x,p.W,p.n⟩:=by
 have:=zac (i:=i) h (.int .u32 (x:Int))
 rw [List.setIfInBounds_toArray,zgS hp.h hi] at this
 exact this
theorem PB.sw (h:PB w b p) (hp:p.Wk) {i:Nat} (hi:i<16) (x:Nat):PB (w.setCell ⟨b,8+i,none⟩ (.int .u32 (x:Int))) b ⟨p.h,p.W.set i x,p.n⟩:=by
 have:=zac (i:=8+i) h (.int .u32 (x:Int))
 rw [List.setIfInBounds_toArray,zgT hp.h hp.W hi] at this
 exact this
theorem PB.sn (h:PB w b p) (hp:p.Wk) (m:Nat):PB (w.setCell ⟨b,24,none⟩ (.int .i64 (m:Int))) b ⟨p.h,p.W,m⟩:=by
 have:=zac (i:=24) h (.int .i64 (m:Int))
 rw [List.setIfInBounds_toArray,zgU hp.h hp.W] at this
 exact this
theorem PB.of (h:PB w b p) (e:w'.heap[b]?=w.heap[b]?):PB w' b p:=e.trans h
end
theorem Upd.drewN' {S:Nat->Prop} {a w:World} (h:Upd S a w) (q:Nat):Upd S a (w.drewN q):=⟨h.os,h.tape,h.output,h.size,h.block⟩
theorem zqc (b:Nat) (p:Pn) (t:Nat) (w:World) (hp:p.Wk) (hb:PB w b p) (ht:t<64) :
 Calls Tryz.prog 207 #[.pointer (some ⟨b,0,none⟩),.int .i64 (t:Int)] w λ e w'=>e=.returned (.int .u32 (zfH p.W t:Nat))/\Hid (PB w' b ⟨p.h,p.W.set (t%16) (zfH p.W t),p.n⟩/\Upd (λ k=>k=b) w w'):=by
 obtain ⟨i0,hi0⟩:=exE (t%16)
 obtain ⟨i1,hi1⟩:=exE ((t+1)%16)
 obtain ⟨i2,hi2⟩:=exE ((t+9)%16)
 obtain ⟨i3,hi3⟩:=exE ((t+14)%16)
 have c0:=hb.cw hp (show i0<16 by omega)
 have c1:=hb.cw hp (show i1<16 by omega)
 have c2:=hb.cw hp (show i2<16 by omega)
 have c3:=hb.cw hp (show i3<16 by omega)
 have l0:=hp.W32.get i0
 have l1:=hp.W32.get i1
 have l3:=hp.W32.get i3
 have D:Hid ((i1<16/\i1≠i0)/\(i2<16/\i2≠i0)/\(i3<16/\i3≠i0)/\i0<16):=Hd (by omega)
 have e0:(t:Int)%16=(i0:Int):=by omega
 have e1:((t:Int)+1)%16=(i1:Int):=by omega
 have e2:((t:Int)+9)%16=(i2:Int):=by omega
 have e3:((t:Int)+14)%16=(i3:Int):=by omega
 have m0:Int.tmod (t:Int) 16=(i0:Int):=by rw [Int.tmod_eq_emod_of_nonneg (by omega)];exact e0
 have m1:Int.tmod ((t:Int)+1) 16=(i1:Int):=by rw [Int.tmod_eq_emod_of_nonneg (by omega)];exact e1
 have m2:Int.tmod ((t:Int)+9) 16=(i2:Int):=by rw [Int.tmod_eq_emod_of_nonneg (by omega)];exact e2
 have m3:Int.tmod ((t:Int)+14) 16=(i3:Int):=by rw [Int.tmod_eq_emod_of_nonneg (by omega)];exact e3
 have n1:IntKind.i64.wrap ((t:Int)+1)=(t:Int)+1:=by simp [IntKind.wrap,IntKind.bits,IntKind.signed];omega
 have n2:IntKind.i64.wrap ((t:Int)+9)=(t:Int)+9:=by simp [IntKind.wrap,IntKind.bits,IntKind.signed];omega
 have n3:IntKind.i64.wrap ((t:Int)+14)=(t:Int)+14:=by simp [IntKind.wrap,IntKind.bits,IntKind.signed];omega
 have k0:(i0:Int)<16:=by omega
 have k1:(i1:Int)<16:=by omega
 have k2:(i2:Int)<16:=by omega
 have k3:(i3:Int)<16:=by omega
 have hL:zfH p.W t=zaC (p.W.getD i0 0) (zaC (zaC (zbS (p.W.getD i1 0) 7 18 3) (p.W.getD i2 0)) (zbS (p.W.getD i3 0) 17 19 10)):=by
  unfold zfH zl9;rw [hi0,hi1,hi2,hi3]
 have HL:=Hd hL
 have HE:=Hd hb
 have HP:=Hd hp
 have HI0:Hid (i0<16):=Hd D.out.2.2.2
 rw [hi0]
 have fz:w.frozen? ⟨b,8+i0,none⟩=false:=hb.frozen _
 have lb:=hb.lt
 have U0:Hid (Upd (λ _=>False) w w.drew):=Hd (Upd.refl _ _).drew
 generalize hx0:p.W.getD i0 0=x0 at *
 generalize hx1:p.W.getD i1 0=x1 at *
 generalize hx2:p.W.getD i2 0=x2 at *
 generalize hx3:p.W.getD i3 0=x3 at *
 obtain ⟨y1,hy1⟩:=exE (zbS x1 7 18 3)
 obtain ⟨y3,hy3⟩:=exE (zbS x3 17 19 10)
 have HS:Hid (∀ (W:World),Upd (λ _=>False) w W->(W.cell? ⟨b,8+i1,none⟩=some (.int .u32 (x1:Int))/\W.cell? ⟨b,8+i2,none⟩=some (.int .u32 (x2:Int))/\W.cell? ⟨b,8+i3,none⟩=some (.int .u32 (x3:Int))/\W.frozen? ⟨b,8+i0,none⟩=false)/\W.cell? ⟨b,8+i0,none⟩=some (.int .u32 (x0:Int))/\b<W.heap.size):=Hd λ W hW=>by
  have e:W.heap[b]?=w.heap[b]?:=hW.block b lb λ h=>h
  exact ⟨⟨(zCb e).trans c1,(zCb e).trans c2,(zCb e).trans c3,(hb.of e).frozen _⟩,(zCb e).trans c0,(hb.of e).lt⟩
 have SP7:Hid (∀ (W:World),Upd (λ _=>False) w W->Calls Tryz.prog 251 #[.int .u32 (x1:Int),.int .i64 7,.int .i64 18,.int .i64 3] W λ e w'=>e=.returned (.int .u32 (zbS x1 7 18 3:Int))/\(w'.cell? ⟨b,8+i1,none⟩=some (.int .u32 (x1:Int))/\w'.cell? ⟨b,8+i2,none⟩=some (.int .u32 (x2:Int))/\w'.cell? ⟨b,8+i3,none⟩=some (.int .u32 (x3:Int))/\w'.frozen? ⟨b,8+i0,none⟩=false)/\(w'.cell? ⟨b,8+i0,none⟩=some (.int .u32 (x0:Int))/\b<w'.heap.size)/\Hid (Upd (λ _=>False) w w')):=Hd λ W hW=>by
  refine (zn2 x1 _ l1).mono ?_
  rintro e w' ⟨rfl,k,rfl⟩
  obtain ⟨h1,h2,h3⟩:=HS.out _ (hW.drewN' k)
  exact ⟨rfl,h1,⟨h2,h3⟩,Hd (hW.drewN' k)⟩
 have SP17:Hid (∀ (W:World),Upd (λ _=>False) w W->Calls Tryz.prog 251 #[.int .u32 (x3:Int),.int .i64 17,.int .i64 19,.int .i64 10] W λ e w'=>e=.returned (.int .u32 (zbS x3 17 19 10:Int))/\(w'.cell? ⟨b,8+i1,none⟩=some (.int .u32 (x1:Int))/\w'.cell? ⟨b,8+i2,none⟩=some (.int .u32 (x2:Int))/\w'.cell? ⟨b,8+i3,none⟩=some (.int .u32 (x3:Int))/\w'.frozen? ⟨b,8+i0,none⟩=false)/\(w'.cell? ⟨b,8+i0,none⟩=some (.int .u32 (x0:Int))/\b<w'.heap.size)/\Hid (Upd (λ _=>False) w w')):=Hd λ W hW=>by
  refine (zl7 x3 _ l3).mono ?_
  rintro e w' ⟨rfl,k,rfl⟩
  obtain ⟨h1,h2,h3⟩:=HS.out _ (hW.drewN' k)
  exact ⟨rfl,h1,⟨h2,h3⟩,Hd (hW.drewN' k)⟩
 rw [hy1] at SP7 HL
 rw [hy3] at SP17 HL
 have a1:=za5 y1 x2
 have a2:=za5 (zaC y1 x2) y3
 have a3:=za5 x0 (zaC (zaC y1 x2) y3)
 have b1:IntKind.u32.wrap ((y1:Int)+(x2:Int))=((zaC y1 x2:Nat):Int):=a1
 have b2:IntKind.u32.wrap ((zaC y1 x2:Nat)+(y3:Int))=((zaC (zaC y1 x2) y3:Nat):Int):=a2
 have b3:IntKind.u32.wrap ((x0:Int)+(zaC (zaC y1 x2) y3:Nat))=((zaC x0 (zaC (zaC y1 x2) y3):Nat):Int):=a3
 have HL2:=Hd HL.out
 generalize zaC y1 x2=z1 at *
 generalize zaC z1 y3=z2 at *
 have lz3:=zdy x0 z2
 generalize zaC x0 z2=z3 at *
 have HK:Hid (∀ (W:World),Upd (λ _=>False) w W->((W.setCell ⟨b,8+i0,none⟩ (.int .u32 (z3:Int))).cell? ⟨b,8+i1,none⟩=some (.int .u32 (x1:Int))/\(W.setCell ⟨b,8+i0,none⟩ (.int .u32 (z3:Int))).cell? ⟨b,8+i2,none⟩=some (.int .u32 (x2:Int))/\(W.setCell ⟨b,8+i0,none⟩ (.int .u32 (z3:Int))).cell? ⟨b,8+i3,none⟩=some (.int .u32 (x3:Int))/\(W.setCell ⟨b,8+i0,none⟩ (.int .u32 (z3:Int))).frozen? ⟨b,8+i0,none⟩=false)):=Hd λ W hW=>by
  have e:W.heap[b]?=w.heap[b]?:=hW.block b lb λ h=>h
  have h1:=(hb.of e).sw hp HI0.out z3
  have ok:Pn.Wk ⟨p.h,p.W.set i0 z3,p.n⟩:=⟨hp.h,by rw [List.length_set];exact hp.W,hp.h32,hp.W32.set _ lz3⟩
  have g:∀ i,i<16->i≠i0->(W.setCell ⟨b,8+i0,none⟩ (.int .u32 (z3:Int))).cell? ⟨b,8+i,none⟩=some (.int .u32 (p.W.getD i 0:Nat)):=λ i hi hne=>by
   have:=h1.cw ok hi
   simp only at this
   rwa [show (p.W.set i0 z3).getD i 0=p.W.getD i 0 by unfold List.getD;rw [List.getElem?_set_ne (Ne.symm hne)]] at this
  exact ⟨by rw [<-hx1];exact g i1 D.out.1.1 D.out.1.2,by rw [<-hx2];exact g i2 D.out.2.1.1 D.out.2.1.2,by rw [<-hx3];exact g i3 D.out.2.2.1.1 D.out.2.2.1.2,h1.frozen _⟩
 clear hb hp hL hx0 hx1 hx2 hx3 lz3 hi0 hi1 hi2 hi3 ht hy1 hy3 HL
 go_enter Tryz.func207,Tryz.ntmps207
 go_wp2_with fail
 refine wp_region_noPanic ?_
 refine wp_region_held_drew (S:=(λ (w':World)=>w'.cell? ⟨b,8+i1,none⟩=some (.int .u32 (x1:Int))/\w'.cell? ⟨b,8+i2,none⟩=some (.int .u32 (x2:Int))/\w'.cell? ⟨b,8+i3,none⟩=some (.int .u32 (x3:Int))/\w'.frozen? ⟨b,8+i0,none⟩=false)) (by kernel_rfl) ?_ (λ hHeld=>?_)
 ·exact (HS.out _ U0.out).1
 refine' tkH 0 rfl ?_
 try simp only [Act.put,List.setIfInBounds_toArray,List.set_cons_zero,List.set_cons_succ,List.getElem_toArray,List.getElem_cons_zero]
 refine' tkH 1 rfl ?_;try simp only [Act.put,awL]
 refine' tkH 2 rfl ?_;try simp only [Act.put,awL]
 refine' tkH 3 rfl ?_;try simp only [Act.put,awL]
 refine' tkH 4 rfl ?_;try simp only [Act.put,awL]
 refine' tkH 6 rfl ?_;try simp only [Act.put,awL]
 refine' tkH 7 rfl ?_;try simp only [Act.put,awL]
 refine' tkH 8 rfl ?_;try simp only [Act.put,awL]
 refine' tkH 9 rfl ?_;try simp only [Act.put,awL]
 refine' tkH 10 rfl ?_;try simp only [Act.put,awL]
 refine' tkH 11 rfl ?_;try simp only [Act.put,awL]
 refine' tkH 12 rfl ?_;try simp only [Act.put,awL]
 refine' tkH 14 rfl ?_;try simp only [Act.put,awL]
 refine' tkH 15 rfl ?_;try simp only [Act.put,awL]
 refine' tkH 16 rfl ?_;try simp only [Act.put,awL]
 refine' tkH 17 rfl ?_;try simp only [Act.put,awL]
 refine' tkH 18 rfl ?_;try simp only [Act.put,awL]
 refine' tkH 19 rfl ?_;try simp only [Act.put,awL]
 refine' tkH 20 rfl ?_;try simp only [Act.put,awL]
 refine' tkH 22 rfl ?_;try simp only [Act.put,awL]
 refine' tkH 23 rfl ?_;try simp only [Act.put,awL]
 refine' tkH 24 rfl ?_;try simp only [Act.put,awL]
 refine' tkH 25 rfl ?_;try simp only [Act.put,awL]
 refine' tkH 26 rfl ?_;try simp only [Act.put,awL]
 refine' tkH 27 rfl ?_;try simp only [Act.put,awL]
 refine' tkH 28 rfl ?_;try simp only [Act.put,awL]
 refine' tkH 32 rfl ?_;try simp only [Act.put,awL]
 refine wpAnyH_ready (rs:=[5,13]) (by kernel_rfl) (by simp) ?_
 refine AllReadyH.cons rfl (λ K hK=>?_) (AllReadyH.cons rfl (λ K hK=>?_) AllReadyH.nil)
 ·go_simp
  refine hK.out _ _ ?_ (λ hHeld=>?_)
  ·exact (HS.out _ U0.out).1
  clear hK K
  try simp only [Act.put,awL]
  refine wpAnyH_ready (rs:=[13]) (by kernel_rfl) (by simp) ?_
  refine AllReadyH.cons rfl (λ K hK=>?_) AllReadyH.nil
  go_simp
  go_at_call 251
  refine Calls.at_args (SP7.out _ U0.out) (by with_reducible rfl) ?_
  rintro e w3 ⟨rfl,hk3,h03,G3⟩
  refine hK.out _ _ ?_ (λ hHeld=>?_)
  ·exact hk3
  clear hK K
  try simp only [Act.put,awL]
  refine' tkH 21 rfl ?_;try simp only [Act.put,awL]
  refine wpAnyH_ready (rs:=[29]) (by kernel_rfl) (by simp) ?_
  refine AllReadyH.cons rfl (λ K hK=>?_) AllReadyH.nil
  go_simp
  go_at_call 251
  refine Calls.at_args (SP17.out _ G3.out) (by with_reducible rfl) ?_
  rintro e w4 ⟨rfl,hk4,h04,G4⟩
  refine hK.out _ _ ?_ (λ hHeld=>?_)
  ·exact hk4
  clear hK K
  try simp only [Act.put,awL]
  refine' tkH 30 rfl ?_;try simp only [Act.put,awL]
  refine' tkH 31 rfl ?_;try simp only [Act.put,awL]
  refine' tkH 33 rfl ?_;try simp only [Act.put,awL]
  refine wpAnyH_ready (rs:=[34]) (by kernel_rfl) (by simp) ?_
  refine AllReadyH.cons rfl (λ K hK=>?_) AllReadyH.nil
  go_simp
  refine hK.out _ _ ?_ (λ hHeld=>?_)
  ·exact HK.out _ G4.out
  clear hK K
  try simp only [Act.put,awL]
  refine wpAnyH_done (by kernel_rfl) ?_ _
  refine NoPanic.normal ?_
  have P4:PB w4 b p:=HE.out.of (G4.out.block b lb λ h=>h)
  have P5:=Hd (P4.sw HP.out HI0.out z3)
  have d0:(w4.setCell ⟨b,8+i0,none⟩ (.int .u32 (z3:Int))).cell? ⟨b,8+i0,none⟩=some (.int .u32 (z3:Int)):=zaa P5.out (by
   rw [List.getElem?_toArray,zet (W:=p.W.set i0 z3) HP.out.h (by rw [List.length_set];exact HP.out.W) HI0.out]
   unfold List.getD
   rw [List.getElem?_set_self (by rw [HP.out.W];exact HI0.out)];rfl)
  have U5:Hid (Upd (λ k=>k=b) w (w4.setCell ⟨b,8+i0,none⟩ (.int .u32 (z3:Int)))):=Hd (Upd.setCell (S:=λ k=>k=b) (p:=⟨b,8+i0,none⟩) (G4.out.mono λ _ _ h=>h.elim) (.inl rfl) _)
  have l5:b<(w4.setCell ⟨b,8+i0,none⟩ (.int .u32 (z3:Int))).heap.size:=P5.out.lt
  clear hk3 h03 G3 hk4 h04 G4 P4 c0 c1 c2 c3 SP7 SP17 HS HK
  go_wp2_with fail
  go_ret
  exact ⟨by rw [HL2.out];rfl,Hd ⟨by rw [HL2.out];exact P5.out,U5.out⟩⟩
 ·
   go_simp
   go_at_call 251
   refine Calls.at_args (SP7.out _ U0.out) (by with_reducible rfl) ?_
   rintro e w3 ⟨rfl,hk3,h03,G3⟩
   refine hK.out _ _ ?_ (λ hHeld=>?_)
   ·exact hk3
   clear hK K
   try simp only [Act.put,awL]
   refine' tkH 21 rfl ?_;try simp only [Act.put,awL]
   refine wpAnyH_ready (rs:=[5,29]) (by kernel_rfl) (by simp) ?_
   refine AllReadyH.cons rfl (λ K hK=>?_) (AllReadyH.cons rfl (λ K hK=>?_) AllReadyH.nil)
   ·
     go_simp
     refine hK.out _ _ ?_ (λ hHeld=>?_)
     ·exact hk3
     clear hK K
     try simp only [Act.put,awL]
     refine wpAnyH_ready (rs:=[29]) (by kernel_rfl) (by simp) ?_
     refine AllReadyH.cons rfl (λ K hK=>?_) AllReadyH.nil
     go_simp
     go_at_call 251
     refine Calls.at_args (SP17.out _ G3.out) (by with_reducible rfl) ?_
     rintro e w4 ⟨rfl,hk4,h04,G4⟩
     refine hK.out _ _ ?_ (λ hHeld=>?_)
     ·exact hk4
     clear hK K
     try simp only [Act.put,awL]
     refine' tkH 30 rfl ?_;try simp only [Act.put,awL]
     refine' tkH 31 rfl ?_;try simp only [Act.put,awL]
     refine' tkH 33 rfl ?_;try simp only [Act.put,awL]
     refine wpAnyH_ready (rs:=[34]) (by kernel_rfl) (by simp) ?_
     refine AllReadyH.cons rfl (λ K hK=>?_) AllReadyH.nil
     go_simp
     refine hK.out _ _ ?_ (λ hHeld=>?_)
     ·exact HK.out _ G4.out
     clear hK K
     try simp only [Act.put,awL]
     refine wpAnyH_done (by kernel_rfl) ?_ _
     refine NoPanic.normal ?_
     have P4:PB w4 b p:=HE.out.of (G4.out.block b lb λ h=>h)
     have P5:=Hd (P4.sw HP.out HI0.out z3)
     have d0:(w4.setCell ⟨b,8+i0,none⟩ (.int .u32 (z3:Int))).cell? ⟨b,8+i0,none⟩=some (.int .u32 (z3:Int)):=zaa P5.out (by
      rw [List.getElem?_toArray,zet (W:=p.W.set i0 z3) HP.out.h (by rw [List.length_set];exact HP.out.W) HI0.out]
      unfold List.getD
      rw [List.getElem?_set_self (by rw [HP.out.W];exact HI0.out)];rfl)
     have U5:Hid (Upd (λ k=>k=b) w (w4.setCell ⟨b,8+i0,none⟩ (.int .u32 (z3:Int)))):=Hd (Upd.setCell (S:=λ k=>k=b) (p:=⟨b,8+i0,none⟩) (G4.out.mono λ _ _ h=>h.elim) (.inl rfl) _)
     have l5:b<(w4.setCell ⟨b,8+i0,none⟩ (.int .u32 (z3:Int))).heap.size:=P5.out.lt
     clear hk3 h03 G3 hk4 h04 G4 P4 c0 c1 c2 c3 SP7 SP17 HS HK
     go_wp2_with fail
     go_ret
     exact ⟨by rw [HL2.out];rfl,Hd ⟨by rw [HL2.out];exact P5.out,U5.out⟩⟩
   ·
     go_simp
     go_at_call 251
     refine Calls.at_args (SP17.out _ G3.out) (by with_reducible rfl) ?_
     rintro e w4 ⟨rfl,hk4,h04,G4⟩
     refine hK.out _ _ ?_ (λ hHeld=>?_)
     ·exact hk4
     clear hK K
     try simp only [Act.put,awL]
     refine' tkH 30 rfl ?_;try simp only [Act.put,awL]
     refine wpAnyH_ready (rs:=[5]) (by kernel_rfl) (by simp) ?_
     refine AllReadyH.cons rfl (λ K hK=>?_) AllReadyH.nil
     go_simp
     refine hK.out _ _ ?_ (λ hHeld=>?_)
     ·exact hk4
     clear hK K
     try simp only [Act.put,awL]
     refine' tkH 31 rfl ?_;try simp only [Act.put,awL]
     refine' tkH 33 rfl ?_;try simp only [Act.put,awL]
     refine wpAnyH_ready (rs:=[34]) (by kernel_rfl) (by simp) ?_
     refine AllReadyH.cons rfl (λ K hK=>?_) AllReadyH.nil
     go_simp
     refine hK.out _ _ ?_ (λ hHeld=>?_)
     ·exact HK.out _ G4.out
     clear hK K
     try simp only [Act.put,awL]
     refine wpAnyH_done (by kernel_rfl) ?_ _
     refine NoPanic.normal ?_
     have P4:PB w4 b p:=HE.out.of (G4.out.block b lb λ h=>h)
     have P5:=Hd (P4.sw HP.out HI0.out z3)
     have d0:(w4.setCell ⟨b,8+i0,none⟩ (.int .u32 (z3:Int))).cell? ⟨b,8+i0,none⟩=some (.int .u32 (z3:Int)):=zaa P5.out (by
      rw [List.getElem?_toArray,zet (W:=p.W.set i0 z3) HP.out.h (by rw [List.length_set];exact HP.out.W) HI0.out]
      unfold List.getD
      rw [List.getElem?_set_self (by rw [HP.out.W];exact HI0.out)];rfl)
     have U5:Hid (Upd (λ k=>k=b) w (w4.setCell ⟨b,8+i0,none⟩ (.int .u32 (z3:Int)))):=Hd (Upd.setCell (S:=λ k=>k=b) (p:=⟨b,8+i0,none⟩) (G4.out.mono λ _ _ h=>h.elim) (.inl rfl) _)
     have l5:b<(w4.setCell ⟨b,8+i0,none⟩ (.int .u32 (z3:Int))).heap.size:=P5.out.lt
     clear hk3 h03 G3 hk4 h04 G4 P4 c0 c1 c2 c3 SP7 SP17 HS HK
     go_wp2_with fail
     go_ret
     exact ⟨by rw [HL2.out];rfl,Hd ⟨by rw [HL2.out];exact P5.out,U5.out⟩⟩
theorem zrI (a b c d e f g h:Int) (w:World):(Instr.index 207 (.agg #[.int .u32 a,.int .u32 b,.int .u32 c,.int .u32 d,.int .u32 e,.int .u32 f,.int .u32 g,.int .u32 h]) (.int .i64 0)).run Tryz.prog w=.ok (.int .u32 a) w:=by kernel_rfl
theorem zrJ (a b c d e f g h:Int) (w:World):(Instr.index 207 (.agg #[.int .u32 a,.int .u32 b,.int .u32 c,.int .u32 d,.int .u32 e,.int .u32 f,.int .u32 g,.int .u32 h]) (.int .i64 1)).run Tryz.prog w=.ok (.int .u32 b) w:=by kernel_rfl
theorem zrK (a b c d e f g h:Int) (w:World):(Instr.index 207 (.agg #[.int .u32 a,.int .u32 b,.int .u32 c,.int .u32 d,.int .u32 e,.int .u32 f,.int .u32 g,.int .u32 h]) (.int .i64 2)).run Tryz.prog w=.ok (.int .u32 c) w:=by kernel_rfl
theorem zrL (a b c d e f g h:Int) (w:World):(Instr.index 207 (.agg #[.int .u32 a,.int .u32 b,.int .u32 c,.int .u32 d,.int .u32 e,.int .u32 f,.int .u32 g,.int .u32 h]) (.int .i64 3)).run Tryz.prog w=.ok (.int .u32 d) w:=by kernel_rfl
theorem zrM (a b c d e f g h:Int) (w:World):(Instr.index 207 (.agg #[.int .u32 a,.int .u32 b,.int .u32 c,.int .u32 d,.int .u32 e,.int .u32 f,.int .u32 g,.int .u32 h]) (.int .i64 4)).run Tryz.prog w=.ok (.int .u32 e) w:=by kernel_rfl
theorem zrN (a b c d e f g h:Int) (w:World):(Instr.index 207 (.agg #[.int .u32 a,.int .u32 b,.int .u32 c,.int .u32 d,.int .u32 e,.int .u32 f,.int .u32 g,.int .u32 h]) (.int .i64 5)).run Tryz.prog w=.ok (.int .u32 f) w:=by kernel_rfl
theorem zrO (a b c d e f g h:Int) (w:World):(Instr.index 207 (.agg #[.int .u32 a,.int .u32 b,.int .u32 c,.int .u32 d,.int .u32 e,.int .u32 f,.int .u32 g,.int .u32 h]) (.int .i64 6)).run Tryz.prog w=.ok (.int .u32 g) w:=by kernel_rfl
theorem zrP (a b c d e f g h:Int) (w:World):(Instr.index 207 (.agg #[.int .u32 a,.int .u32 b,.int .u32 c,.int .u32 d,.int .u32 e,.int .u32 f,.int .u32 g,.int .u32 h]) (.int .i64 7)).run Tryz.prog w=.ok (.int .u32 h) w:=by kernel_rfl
theorem zs5 (v:V8) (i:Nat) (hi:i<8) (w:World):(Instr.index 207 (.agg #[.int .u32 v.a,.int .u32 v.b,.int .u32 v.c,.int .u32 v.d,.int .u32 v.e,.int .u32 v.f,.int .u32 v.g,.int .u32 v.h]) (.int .i64 (i:Int))).run Tryz.prog w=.ok (.int .u32 (v.list.getD i 0:Nat)) w:=by
 have:i=0\/i=1\/i=2\/i=3\/i=4\/i=5\/i=6\/i=7:=by omega
 rcases this with rfl|rfl|rfl|rfl|rfl|rfl|rfl|rfl
 ·exact zrI _ _ _ _ _ _ _ _ w
 ·exact zrJ _ _ _ _ _ _ _ _ w
 ·exact zrK _ _ _ _ _ _ _ _ w
 ·exact zrL _ _ _ _ _ _ _ _ w
 ·exact zrM _ _ _ _ _ _ _ _ w
 ·exact zrN _ _ _ _ _ _ _ _ w
 ·exact zrO _ _ _ _ _ _ _ _ w
 ·exact zrP _ _ _ _ _ _ _ _ w
theorem ziK {x y:Nat} (hx:x<4294967296):x &&& y<4294967296:=Nat.lt_of_le_of_lt Nat.and_le_left hx
theorem zrQ {x y:Nat} (hx:x<4294967296) (hy:y<4294967296):x ||| y<4294967296:=Nat.or_lt_two_pow (n:=32) hx hy
theorem zqd {v:V8} (h:v.Ok):za1 v.list:=λ x hx=>by
 simp only [V8.list,List.mem_cons,List.not_mem_nil,or_false] at hx
 rcases hx with rfl|rfl|rfl|rfl|rfl|rfl|rfl|rfl
 ·exact h.a
 ·exact h.b
 ·exact h.c
 ·exact h.d
 ·exact h.e
 ·exact h.f
 ·exact h.g
 ·exact h.h
def zhK (w wr:World) (b:Nat) (p:Pn) (i:Nat) (v:V8) (W:List Nat):Prop:=zgh (V8.of p.h) p.W i=(v,W)/\PB wr b ⟨p.h,W,p.n⟩/\Upd (λ k=>k=b) w wr
theorem zhK.ok {w wr:World} {b:Nat} {p:Pn} {i:Nat} {v:V8} {W:List Nat} (h:zhK w wr b p i v W) (hp:p.Wk):v.Ok/\Pn.Wk ⟨p.h,W,p.n⟩:=by
 obtain ⟨h1,h2,h3⟩:=zgP (V8.of_ok hp.h32) hp.W32 i
 rw [h.1] at h1 h2 h3
 exact ⟨h1,hp.h,h3.trans hp.W,hp.h32,h2⟩
theorem zhK.step {w wr w':World} {b:Nat} {p:Pn} {i:Nat} {v v':V8} {W W':List Nat} (h:zhK w wr b p i v W) (hv:v.next (kN i) (wAt W i)=v') (hW:zc9 W i=W') (hb:PB w' b ⟨p.h,W',p.n⟩) (hu:Upd (λ k=>k=b) w w'):zhK w w' b p (i+1) v' W':=by
 refine ⟨?_,hb,hu⟩
 show ((zgh (V8.of p.h) p.W i).1.next (kN i) (wAt (zgh (V8.of p.h) p.W i).2 i),zc9 (zgh (V8.of p.h) p.W i).2 i)=_
 rw [h.1]
 show (v.next (kN i) (wAt W i),zc9 W i)=_
 rw [hv,hW]
theorem zrR (b:Nat) (p:Pn) (w:World) (hp:p.Wk) (hb:PB w b p) :
 Calls Tryz.prog 167 #[.pointer (some ⟨b,0,none⟩)] w λ e w'=>e=.returned (.tuple #[])/\Hid (PB w' b p.stir/\Upd (λ k=>k=b) w w'):=by
 have c0:=hb.ch hp (show 0<8 by decide)
 have c1:=hb.ch hp (show 1<8 by decide)
 have c2:=hb.ch hp (show 2<8 by decide)
 have c3:=hb.ch hp (show 3<8 by decide)
 have c4:=hb.ch hp (show 4<8 by decide)
 have c5:=hb.ch hp (show 5<8 by decide)
 have c6:=hb.ch hp (show 6<8 by decide)
 have c7:=hb.ch hp (show 7<8 by decide)
 have HP:=Hd hp
 have R0:Hid (∀ n,zhK w (w.drewN n) b p 0 (V8.of p.h) p.W):=Hd λ n=>⟨rfl,hb.of rfl,(Upd.refl _ _).drewN' n⟩
 obtain ⟨v0,hv0⟩:=exE (V8.of p.h)
 rw [show p.h.getD 0 0=v0.a by rw [<-hv0];rfl] at c0
 rw [show p.h.getD 1 0=v0.b by rw [<-hv0];rfl] at c1
 rw [show p.h.getD 2 0=v0.c by rw [<-hv0];rfl] at c2
 rw [show p.h.getD 3 0=v0.d by rw [<-hv0];rfl] at c3
 rw [show p.h.getD 4 0=v0.e by rw [<-hv0];rfl] at c4
 rw [show p.h.getD 5 0=v0.f by rw [<-hv0];rfl] at c5
 rw [show p.h.getD 6 0=v0.g by rw [<-hv0];rfl] at c6
 rw [show p.h.getD 7 0=v0.h by rw [<-hv0];rfl] at c7
 rw [hv0] at R0
 clear hp hb hv0
 go_enter Tryz.func167,Tryz.ntmps167
 go_wp2_with fail
 go_quiet (fail)
 have R1:=Hd (R0.out nq)
 generalize w.drewN nq=wq at *
 go_wp2_with fail
 go_loopg [2,3,4,5,6,7,8,9,10,11,12,13,56] 64 (λ g s2 s3 s4 s5 s6 s7 s8 s9 s10 s11 s12 s13 s56 wr=>∃ (i:Nat) (v:V8) (W:List Nat),g=64-i/\i<=64/\s56=.int .i64 (i:Int)/\s2=.int .u32 (v.a:Int)/\s3=.int .u32 (v.b:Int)/\s4=.int .u32 (v.c:Int)/\s5=.int .u32 (v.d:Int)/\s6=.int .u32 (v.e:Int)/\s7=.int .u32 (v.f:Int)/\s8=.int .u32 (v.g:Int)/\s9=.int .u32 (v.h:Int)/\Hid (zhK w wr b p i v W))
 case atStart=>exact ⟨0,v0,p.W,rfl,zNz _,rfl,rfl,rfl,rfl,rfl,rfl,rfl,rfl,rfl,R1⟩
 case round =>
  obtain ⟨i,v,W,rfl,hi,rfl,rfl,rfl,rfl,rfl,rfl,rfl,rfl,rfl,HR⟩:=hrel
  clear R0 R1 c0 c1 c2 c3 c4 c5 c6 c7
  by_cases hlt:i<64
  ·obtain ⟨hv,hpw⟩:=HR.out.ok HP.out
   have hPB:=HR.out.2.1
   have cw:=hPB.cw hpw (show i%16<16 by omega)
   simp only at cw
   have LT:Hid (16<=i->Calls Tryz.prog 207 #[.pointer (some ⟨b,0,none⟩),.int .i64 (i:Int)] wr λ e w'=>e=.returned (.int .u32 (wAt W i:Nat))/\Hid (PB w' b ⟨p.h,zc9 W i,p.n⟩/\Upd (λ k=>k=b) w w')):=Hd λ h16=>by
    refine (zqc b ⟨p.h,W,p.n⟩ i wr hpw hPB (by omega)).mono ?_
    rintro e w' ⟨rfl,hE⟩
    refine ⟨?_,Hd ⟨?_,HR.out.2.2.trans hE.out.2⟩⟩
    ·unfold wAt;rw [if_neg (by omega)]
    ·unfold zc9;rw [if_neg (by omega)];exact hE.out.1
   have HW16:Hid (i<16->wAt W i=W.getD (i%16) 0/\zc9 W i=W):=Hd λ h=>⟨by unfold wAt;rw [if_pos h],by unfold zc9;rw [if_pos h]⟩
   have lw:=zrF hpw.W32 i
   simp only at lw
   obtain ⟨j,hj⟩:=exE (i%16)
   have kj:(j:Int)<16:=by omega
   have ej:(i:Int)%16=(j:Int):=by omega
   rw [hj] at cw HW16
   have HN:Hid (v.next (kN i) (wAt W i)=⟨zaC (v.up (kN i) (wAt W i)) v.over,v.a,v.b,v.c,zaC v.d (v.up (kN i) (wAt W i)),v.e,v.f,v.g⟩):=Hd rfl
   have HU:Hid (v.up (kN i) (wAt W i)=zaC (zaC (zaC (zaC v.h (zbL v.e 6 11 25)) (v.g ^^^ (v.e &&& (v.f ^^^ v.g)))) (kN i)) (wAt W i)):=Hd rfl
   have HO:Hid (v.over=zaC (zbL v.a 2 13 22) ((v.a &&& v.b) ||| (v.c &&& (v.a ||| v.b)))):=Hd rfl
   have T6:=λ W=>zn0 v.e W hv.e
   have T2:=λ W=>zn1 v.a W hv.a
   have KC:=λ W=>k_c i hlt W
   have t1:=u32_xor_nat v.f v.g hv.f hv.g
   have l1:=zdp hv.f hv.g
   have t2:=u32_and_nat v.e (v.f ^^^ v.g) hv.e l1
   have l2:=ziK (y:=v.f ^^^ v.g) hv.e
   have t3:=u32_xor_nat v.g (v.e &&& (v.f ^^^ v.g)) hv.g l2
   have t4:=u32_and_nat v.a v.b hv.a hv.b
   have l4:=ziK (y:=v.b) hv.a
   have t5:=u32_or_nat v.a v.b hv.a hv.b
   have l5:=zrQ hv.a hv.b
   have t6:=u32_and_nat v.c (v.a ||| v.b) hv.c l5
   have l6:=ziK (y:=v.a ||| v.b) hv.c
   have t7:=u32_or_nat _ _ l4 l6
   have s1:=za5 v.h (zbL v.e 6 11 25)
   have s2:=za5 (zaC v.h (zbL v.e 6 11 25)) (v.g ^^^ (v.e &&& (v.f ^^^ v.g)))
   have s3:=za5 (zaC (zaC v.h (zbL v.e 6 11 25)) (v.g ^^^ (v.e &&& (v.f ^^^ v.g)))) (kN i)
   have s4:=za5 (zaC (zaC (zaC v.h (zbL v.e 6 11 25)) (v.g ^^^ (v.e &&& (v.f ^^^ v.g)))) (kN i)) (wAt W i)
   have s5:=za5 (zbL v.a 2 13 22) ((v.a &&& v.b) ||| (v.c &&& (v.a ||| v.b)))
   have s6:=za5 v.d (v.up (kN i) (wAt W i))
   have s7:=za5 (v.up (kN i) (wAt W i)) v.over
   rw [<-HU.out] at s4
   rw [<-HO.out] at s5
   have HLT:=Hd hlt
   have HST:Hid (∀ w',PB w' b ⟨p.h,zc9 W i,p.n⟩->Upd (λ k=>k=b) w w'->zhK w w' b p (i+1) (v.next (kN i) (wAt W i)) (zc9 W i)):=Hd λ w' h1 h2=>HR.out.step rfl rfl h1 h2
   have H0:Hid (zc9 W i=W->PB wr b ⟨p.h,zc9 W i,p.n⟩/\Upd (λ k=>k=b) w wr):=Hd λ h=>by rw [h];exact ⟨HR.out.2.1,HR.out.2.2⟩
   rw [HN.out] at HST
   clear hv hpw hPB hj l1 l2 l4 l5 l6 lw HU HO HN HR hi
   generalize v.up (kN i) (wAt W i)=up at *
   generalize v.over=over at *
   generalize zbL v.e 6 11 25=g6 at *
   generalize zbL v.a 2 13 22=g2 at *
   generalize v.g ^^^ (v.e &&& (v.f ^^^ v.g))=x3 at *
   generalize v.e &&& (v.f ^^^ v.g)=x2 at *
   generalize v.f ^^^ v.g=x1 at *
   generalize (v.a &&& v.b) ||| (v.c &&& (v.a ||| v.b))=y4 at *
   generalize v.c &&& (v.a ||| v.b)=y3 at *
   generalize v.a ||| v.b=y2 at *
   generalize v.a &&& v.b=y1 at *
   generalize zaC v.h g6=z1 at *
   generalize zaC z1 x3=z2 at *
   generalize kN i=kk at *
   generalize zaC z2 kk=z3 at *
   generalize zaC v.d up=nd at *
   generalize zaC up over=na at *
   by_cases h16:i<16
   ·obtain ⟨e1,e2⟩:=HW16.out h16
    obtain ⟨p1,p2⟩:=H0.out e2
    have HF:=Hd (HST.out _ p1 p2)
    have hq:¬(15:Int)<(i:Int):=by omega
    rw [e1] at s4
    clear e1 e2 p1 p2 h16 hlt HW16 H0 HST LT
    generalize W.getD j 0=xw at *
    go_wp2_with fail
    refine (T6 _).mono ?_
    rintro e wa ⟨rfl,rfl⟩
    go_wp2_with fail
    refine (KC _).mono ?_
    rintro e wa ⟨rfl,rfl⟩
    go_wp2_with fail
    refine (T2 _).mono ?_
    rintro e wa ⟨rfl,rfl⟩
    go_wp2_with fail
    go_roundg (64-(i+1))
    case measure=>have:=HLT.out;omega
    case rel=>exact ⟨i+1,_,_,rfl,HLT.out,by congr 1,by first|rfl|exact congrArg (Value.int IntKind.u32) s7,rfl,rfl,rfl,by first|rfl|exact congrArg (Value.int IntKind.u32) s6,rfl,rfl,rfl,HF⟩
   ·have hl64:(i:Int)<64:=by omega
    have hq:(15:Int)<(i:Int):=by omega
    have LTw:=LT.out (by omega)
    clear h16 hlt HW16 H0 LT
    generalize W.getD j 0=xw at *
    generalize wAt W i=xv at *
    go_wp2_with fail
    refine LTw.mono ?_
    rintro e wa ⟨rfl,hE⟩
    have HF:=Hd (HST.out _ hE.out.1 hE.out.2)
    clear hE LTw cw
    go_wp2_with fail
    refine (T6 _).mono ?_
    rintro e wb ⟨rfl,rfl⟩
    go_wp2_with fail
    refine (KC _).mono ?_
    rintro e wb ⟨rfl,rfl⟩
    go_wp2_with fail
    refine (T2 _).mono ?_
    rintro e wb ⟨rfl,rfl⟩
    go_wp2_with fail
    go_roundg (64-(i+1))
    case measure=>have:=HLT.out;omega
    case rel=>exact ⟨i+1,_,_,rfl,HLT.out,by congr 1,by first|rfl|exact congrArg (Value.int IntKind.u32) s7,rfl,rfl,rfl,by first|rfl|exact congrArg (Value.int IntKind.u32) s6,rfl,rfl,rfl,HF⟩
  ·obtain rfl:i=64:=by omega
   obtain ⟨hv,hpw⟩:=HR.out.ok HP.out
   have HLV:=Hd (zqd hv)
   have IX:=λ (j:Nat) (hj:j<8) W=>zs5 v j hj W
   obtain ⟨l,hl⟩:=exE (v.list)
   have HW:Hid (W.length=16/\za1 W):=Hd ⟨hpw.W,hpw.W32⟩
   have HST:Hid (p.stir=⟨zco p.h l 8,W,p.n⟩):=Hd (by
    show (⟨zco p.h (zgh (V8.of p.h) p.W 64).1.list 8,(zgh (V8.of p.h) p.W 64).2,p.n⟩:Pn)=_
    rw [HR.out.1,hl])
   rw [hl] at IX HLV
   have Q0:Hid (PB wr b ⟨zco p.h l 0,W,p.n⟩/\Upd (λ k=>k=b) w wr):=Hd ⟨HR.out.2.1,HR.out.2.2⟩
   have HIX:=Hd IX
   clear hv hpw HR hlt hi hl IX
   generalize v.a=va at *
   generalize v.b=vb at *
   generalize v.c=vc at *
   generalize v.d=vd at *
   generalize v.e=ve at *
   generalize v.f=vf at *
   generalize v.g=vg at *
   generalize v.h=vh at *
   go_wp2_with fail
   go_loopg [14,15,122] 8 (λ g s14 s15 s122 wr=>∃ (j:Nat),g=8-j/\j<=8/\s122=.int .i64 (j:Int)/\Hid (PB wr b ⟨zco p.h l j,W,p.n⟩/\Upd (λ k=>k=b) w wr))
   case atStart=>exact ⟨0,rfl,zNz _,rfl,Q0⟩
   case round =>
    obtain ⟨j,rfl,hj,rfl,HQ⟩:=hrel
    clear Q0
    by_cases hlt:j<8
    ·have hok:Pn.Wk ⟨zco p.h l j,W,p.n⟩:=⟨(zdq _ _ _).trans HP.out.h,HW.out.1,zfr HP.out.h32 _ _,HW.out.2⟩
     have cj:=HQ.out.1.ch hok hlt
     simp only at cj
     rw [zfI p.h l j j (zNr _)] at cj
     have fz:=HQ.out.1.frozen j
     have lb:=HQ.out.1.lt
     have ix:=HIX.out j hlt
     have hj8:(j:Int)<8:=by omega
     have s1:=za5 (p.h.getD j 0) (l.getD j 0)
     have HN:Hid (∀ n,PB ((wr.drewN n).setCell ⟨b,j,none⟩ (.int .u32 (zaC (p.h.getD j 0) (l.getD j 0):Nat))) b ⟨zco p.h l (j+1),W,p.n⟩/\Upd (λ k=>k=b) w ((wr.drewN n).setCell ⟨b,j,none⟩ (.int .u32 (zaC (p.h.getD j 0) (l.getD j 0):Nat)))):=Hd λ n=>⟨(HQ.out.1.of (w':=wr.drewN n) rfl).sh hok hlt _,Upd.setCell (S:=λ k=>k=b) (p:=⟨b,j,none⟩) (HQ.out.2.drewN' n) (.inl rfl) _⟩
     have HLT:=Hd hlt
     clear hok hlt hj HQ
     generalize p.h.getD j 0=x0 at *
     generalize l.getD j 0=x1 at *
     generalize zaC x0 x1=x2 at *
     go_wp2_with fail
     go_region
     all_goals go_wp2_with fail
     all_goals go_roundg (8-(j+1))
     all_goals (first
      | (case measure=>have:=HLT.out;omega)
      | (case rel=>exact ⟨j+1,rfl,HLT.out,by congr 1,Hd (HN.out _)⟩)
      | (case rel=>exact ⟨j+1,rfl,HLT.out,by congr 1,Hd (HN.out 1)⟩))
    ·obtain rfl:j=8:=by omega
     have HG:Hid (PB wr b p.stir/\Upd (λ k=>k=b) w wr):=Hd (by rw [HST.out];exact HQ.out)
     clear hlt hj HQ
     go_wp2_with fail
     go_end0
     exact ⟨rfl,HG⟩
theorem Pn.zero_wk {q:Pn} (h:q.zero.Ok):q.Wk:=⟨h.h,h.W,h.h32,h.W32⟩
theorem Pn.stir_wk {p:Pn} (h:p.Wk):p.stir.Wk:=Pn.zero_wk (Pn.stir_ok h.h h.W h.h32 h.W32)
theorem zrS (b:Nat) (p:Pn) (c:Nat) (w:World) (hp:p.Ok) (hc:c<256) (hb:PB w b p) :
 Calls Tryz.prog 116 #[.pointer (some ⟨b,0,none⟩),.int .u8 (c:Int)] w λ e w'=>e=.returned (.tuple #[])/\Hid (PB w' b (p.put c)/\Upd (λ k=>k=b) w w'):=by
 obtain ⟨q,hq⟩:=exE (p.n / 4)
 have hn:=hp.n
 have hq16:q<16:=by omega
 have cn:=hb.cn hp.wk
 have hx:=zn5 (p.W.getD q 0) c hc
 have hxl:=zgQ (p.W.getD q 0) hc
 have hv:=u32_or_nat (p.W.getD q 0*256%4294967296) c (Nat.mod_lt _ (by decide)) (by omega)
 rw [hx] at hv
 rw [show ((p.W.getD q 0*256%4294967296:Nat):Int)=((p.W.getD q 0:Nat):Int)*256%4294967296 from rfl] at hv
 have ec:(c:Int)%4294967296=(c:Int):=by omega
 have eq4:(p.n:Int) / 4=(q:Int):=by omega
 have kq:(q:Int)<16:=by omega
 have kn:IntKind.i64.wrap ((p.n:Int)+1)=(p.n:Int)+1:=by simp [IntKind.wrap,IntKind.bits,IntKind.signed];omega
 have HFW:Hid ((p.fed c).Wk):=Hd (Pn.fed_wk hp hc)
 have HF:Hid (p.fed c=⟨p.h,p.W.set q (zda (p.W.getD q 0) c),p.n+1⟩):=Hd (by unfold Pn.fed;rw [hq])
 have HPUT:Hid (p.put c=if p.n+1=64 then (p.fed c).stir.zero else p.fed c):=Hd rfl
 have HP:=Hd hp.wk
 have HQ:=Hd hq16
 have P0:Hid (∀ n,PB (w.drewN n) b p/\Upd (λ k=>k=b) w (w.drewN n)):=Hd λ n=>⟨hb.of (w':=w.drewN n) rfl,(Upd.refl _ _).drewN' n⟩
 have lb:=hb.lt
 have hnn:Hid (p.n<64):=Hd hn
 clear hp hc hb hx hn hq hq16
 go_enter Tryz.func116,Tryz.ntmps116
 go_wp2_with fail
 go_quiet (fail)
 have P1:=Hd (P0.out nq)
 generalize w.drewN nq=w0 at *
 obtain ⟨w1,hw1⟩:=exE (w0.setCell ⟨b,8+q,none⟩ (.int .u32 (zda (p.W.getD q 0) c:Nat)))
 obtain ⟨w2,hw2⟩:=exE (w1.setCell ⟨b,24,none⟩ (.int .i64 ((p.n:Int)+1)))
 have Q1:PB w1 b ⟨p.h,p.W.set q (zda (p.W.getD q 0) c),p.n⟩:=by rw [<-hw1];exact P1.out.1.sw HP.out HQ.out _
 have W1:Pn.Wk ⟨p.h,p.W.set q (zda (p.W.getD q 0) c),p.n⟩:=⟨HP.out.h,by rw [List.length_set];exact HP.out.W,HP.out.h32,HP.out.W32.set _ hxl⟩
 have Q2:PB w2 b (p.fed c):=by
  rw [<-hw2,HF.out]
  have:=Q1.sn W1 (p.n+1)
  simpa using this
 have U2:Hid (Upd (λ k=>k=b) w w2):=Hd (by
  rw [<-hw2,<-hw1]
  exact Upd.setCell (p:=⟨b,24,none⟩) (Upd.setCell (p:=⟨b,8+q,none⟩) P1.out.2 (.inl rfl) _) (.inl rfl) _)
 have d0:=P1.out.1.cw HP.out HQ.out
 have f0:=P1.out.1.frozen (8+q)
 have l0:=P1.out.1.lt
 have d1:w1.cell? ⟨b,24,none⟩=some (.int .i64 (p.n:Int)):=Q1.cn W1
 have f1:=Q1.frozen 24
 have l1:=Q1.lt
 have d2:w2.cell? ⟨b,24,none⟩=some (.int .i64 ((p.n:Int)+1)):=by
  have:=Q2.cn HFW.out
  rw [HF.out] at this
  simpa using this
 have f2:=Q2.frozen 24
 have l2:=Q2.lt
 have HQ2:=Hd Q2
 have ST:=zrR b (p.fed c) w2 HFW.out Q2
 clear Q1 W1 Q2 P1 P0 hxl cn lb
 generalize zda (p.W.getD q 0) c=xv at *
 generalize p.W.getD q 0=x0 at *
 by_cases h64:p.n+1=64
 ·have hk:((p.n:Int)+1 == 64)=true:=by simp;omega
  have hk2:(p.n:Int)+1=64:=by omega
  rw [hk2] at hw2 d2 hk kn
  rw [if_pos h64] at HPUT
  have SW:Hid ((p.fed c).stir.Wk):=Hd (Pn.stir_wk HFW.out)
  clear h64 HF HFW HQ2
  generalize (p.fed c).stir=ps at *
  go_wp2_with fail
  refine ST.mono ?_
  rintro e w3 ⟨rfl,hE⟩
  have f3:=hE.out.1.frozen 24
  have l3:=hE.out.1.lt
  have HG:Hid (PB (w3.setCell ⟨b,24,none⟩ (.int .i64 0)) b (p.put c)/\Upd (λ k=>k=b) w (w3.setCell ⟨b,24,none⟩ (.int .i64 0))):=Hd ⟨by rw [HPUT.out];exact hE.out.1.sn SW.out 0,Upd.setCell (S:=λ k=>k=b) (p:=⟨b,24,none⟩) (U2.out.trans hE.out.2) (.inl rfl) _⟩
  have d3:∃ v,w3.cell? ⟨b,24,none⟩=some v:=⟨_,hE.out.1.cn SW.out⟩
  obtain ⟨v3,d3⟩:=d3
  clear ST hE HPUT U2
  go_wp2_with fail
  go_end0
  exact ⟨rfl,HG⟩
 ·have hk:((p.n:Int)+1 == 64)=false:=by simp;omega
  rw [if_neg h64] at HPUT
  have HG:Hid (PB w2 b (p.put c)/\Upd (λ k=>k=b) w w2):=Hd ⟨by rw [HPUT.out];exact HQ2.out,U2.out⟩
  clear h64 ST HQ2 U2 HPUT HF HFW
  go_wp2_with fail
  go_end0
  exact ⟨rfl,HG⟩
theorem zgj {P:Program} (t:TypeId) (s:ByteArray) (k:Nat) (d:UInt8) (ht:P.underlying t=some .string) (h:s[k]?=some d) (w:World) :
 (Instr.index t (.string s) (.int .i64 (k:Int))).run P w=.ok (.int .u8 (d.toNat:Int)) w:=by
 simp [Instr.index,asIntOf,run_underlying ht,h]
theorem zjL {s:ByteArray} {k:Nat} (h:k<s.size):∃ c:UInt8,s[k]?=some c/\(zdV s).take (k+1)=(zdV s).take k++[c.toNat]:=by
 have hl:k<s.data.toList.length:=by rw [<-Lib.size_eq];exact h
 refine ⟨s.data.toList[k],by rw [getElem?_pos _ k h];rfl,?_⟩
 unfold zdV
 rw [zTs (by simpa using hl)]
 simp
theorem zjM (p:Pn) (m:Nat):p.puts (List.replicate (m+1) 0)=(p.puts (List.replicate m 0)).put 0:=by
 rw [List.replicate_succ',Pn.puts_snoc]
theorem zmd:∀ (m:Nat) (p:Pn),p.n<64->(p.puts (List.replicate m 0)).n=(p.n+m)%64
 | 0,p,h=>by show p.n=_;rw [Nat.add_zero,Nat.mod_eq_of_lt h]
 | m+1,p,h=>by
   rw [zjM,Pn.put_n,zmd m p h]
   split <;> omega
theorem zkI {n m:Nat} (hn:n<64) (hm:m<=zdr n):(n+m)%64=56 ↔ m=zdr n:=by
 unfold zdr at *;omega
theorem zct (h:List Nat):(zhJ h).length=32:=by simp [zhJ]
theorem zhL (h:List Nat) (i:Nat) (hi:i<32):(zhJ h).take (i+1)=(zhJ h).take i++[UInt8.ofNat (h.getD (i / 4) 0 / 2 ^ (24-i%4*8))]:=by
 rw [zTs (by rw [zct];exact hi)]
 simp [zhJ]
theorem zkJ (n j:Nat) (hj:j<8):(zdI n).take (j+1)=(zdI n).take j++[n*8 / 2 ^ (56-8*j)%256]:=by
 rw [zTs (by simp [zdI];omega)]
 simp [zdI]
def zno (w wr:World) (b:Nat) (p:Pn):Prop:=p.Ok/\PB wr b p/\Below w.heap.size w wr/\b=w.heap.size
def zkK (h:List Nat) (i:Nat):List Value:=zbj ((zhJ h).take i)++List.replicate (32-i) (.int .u8 0)
theorem zn6 (h:List Nat) (i:Nat) (hi:i<=32):(zkK h i).length=32:=by
 unfold zkK zbj
 rw [zLa,zLm,List.length_take,zct,List.length_replicate];omega
theorem zn7 (h:List Nat) (i:Nat) (hi:i<32):(zkK h i).set i (.int .u8 ((UInt8.ofNat (h.getD (i / 4) 0 / 2 ^ (24-i%4*8))).toNat:Int))=zkK h (i+1):=by
 have hl:(zbj ((zhJ h).take i)).length=i:=by unfold zbj;rw [zLm,List.length_take,zct];omega
 unfold zkK
 rw [List.set_append_right _ _ (by omega),hl,Nat.sub_self,zhL h i hi,zef,show 32-i=(32-(i+1))+1 by omega,List.replicate_succ,List.set_cons_zero]
 simp [zbj]
theorem zn8 (h:List Nat) (W:World) (g:Nat) (hg:W.heap[g]?=some (.cells (zkK h 32).toArray 212 (0,0))):(convert 91 9 (.slice (some ⟨g,0,none⟩) 32 32)).run Tryz.prog W=.ok (.string ⟨(zhJ h).toArray⟩) W:=by
 have:=run_convert_bytes_arg (P:=Tryz.prog) W 91 5 Tryz.underlying91 Tryz.underlying5 g 0 32 32 ((zhJ h).map λ c=>(c.toNat:Int)) (by rw [zLm,zct]) (λ i hi=>by
  rw [Nat.zero_add]
  refine zaa hg ?_
  have hi':i<(zhJ h).length:=by rw [zct];exact hi
  unfold zkK zbj
  rw [List.take_of_length_le (by rw [zct];exact zNr _)]
  simp [hi']) 9 Tryz.underlying9
 rw [this]
 congr 2
 apply ByteArray.ext
 simp only [strOfNums,List.map_map]
 rw [show ((λ n:Int=>UInt8.ofNat n.toNat) ∘ λ c:UInt8=>(c.toNat:Int))=id from funext λ c=>by simp]
 simp
def zfJ (w wr:World) (b ob:Nat) (h:List Nat) (i:Nat) (W:World):Prop:=W.heap[ob]?=some (.cells (zkK h i).toArray 212 (0,0))/\W.heap[b]?=wr.heap[b]?/\Below w.heap.size w W/\b≠ob/\w.heap.size<=ob
theorem zfJ.facts {w wr W:World} {b ob:Nat} {h:List Nat} {i:Nat} (g:zfJ w wr b ob h i W) (k:Nat):W.frozen? ⟨ob,k,none⟩=false/\ob<W.heap.size:=⟨zad g.1 k,zab g.1⟩
theorem zfJ.has {w wr W:World} {b ob:Nat} {h:List Nat} {i:Nat} (g:zfJ w wr b ob h i W) (hi:i<32):∃ v,W.cell? ⟨ob,i,none⟩=some v:=by
 have hl:i<(zkK h i).length:=by rw [zn6 h i (by omega)];exact hi
 exact ⟨(zkK h i)[i],zaa g.1 (by rw [List.getElem?_toArray,List.getElem?_eq_getElem hl])⟩
theorem zfJ.bl {w wr W:World} {b ob:Nat} {h:List Nat} {i:Nat} (g:zfJ w wr b ob h i W) (hb:b<wr.heap.size):b<W.heap.size:=by
 have:=g.2.1
 rw [Array.getElem?_eq_getElem hb] at this
 exact zab this
theorem zfJ.set {w wr W:World} {b ob:Nat} {h:List Nat} {i:Nat} (g:zfJ w wr b ob h i W) (hi:i<32) (z:Int) (hz:z=((UInt8.ofNat (h.getD (i / 4) 0 / 2 ^ (24-i%4*8))).toNat:Int)):zfJ w wr b ob h (i+1) (W.setCell ⟨ob,i,none⟩ (.int .u8 z)):=by
 subst hz
 have h1:=zac (i:=i) g.1 (.int .u8 ((UInt8.ofNat (h.getD (i / 4) 0 / 2 ^ (24-i%4*8))).toNat:Int))
 rw [List.setIfInBounds_toArray,zn7 h i hi] at h1
 have hu:Upd (λ k=>k=ob) W (W.setCell ⟨ob,i,none⟩ (.int .u8 ((UInt8.ofNat (h.getD (i / 4) 0 / 2 ^ (24-i%4*8))).toNat:Int))):=Upd.setCell (S:=λ k=>k=ob) (p:=⟨ob,i,none⟩) (Upd.refl _ _) (.inl rfl) _
 exact ⟨h1,(zae _ g.2.2.2.1).trans g.2.1,g.2.2.1.trans (hu.below g.2.2.1.size λ k hk e=>by have:=g.2.2.2.2;omega),g.2.2.2⟩
theorem zno.put {w wr w':World} {b:Nat} {p:Pn} {c:Nat} (h:zno w wr b p) (hc:c<256) (hb:PB w' b (p.put c)) (hu:Upd (λ k=>k=b) wr w'):zno w w' b (p.put c) :=
 ⟨Pn.put_ok h.1 hc,hb,h.2.2.1.trans (hu.below h.2.2.1.size λ k hk e=>by have:=h.2.2.2;omega),h.2.2.2⟩
theorem zjN {w wr:World} {b:Nat} {p:Pn} (h:zno w wr b p) (c:Nat) (hc:c<256):Calls Tryz.prog 116 #[.pointer (some ⟨b,0,none⟩),.int .u8 (c:Int)] wr λ e w'=>e=.returned (.tuple #[])/\Hid (zno w w' b (p.put c)):=by
 refine (zrS b p c wr h.1 hc h.2.1).mono ?_
 rintro e w' ⟨rfl,hE⟩
 exact ⟨rfl,Hd (h.put hc hE.out.1 hE.out.2)⟩
theorem zqe (s:ByteArray) (w:World) (hs:s.size<=1000000) :
 Calls Tryz.prog 63 #[.string s] w λ e w'=>e=.returned (.string (prB s))/\Hid (Below w.heap.size w w'):=by
 obtain ⟨b,hb⟩:=exE (w.heap.size)
 have R0:Hid (∀ W,W=w.alloc (.cells (zbe pn0.h pn0.W 0).toArray 210)->zno w W b (pn0.puts ((zdV s).take 0))):=Hd λ W hW=>by
  subst hW
  exact ⟨zgi,by rw [<-hb];exact heap_alloc_new _ _,(zBr _ _).alloc (zNr _) _,hb.symm⟩
 have HSL:=Hd hs
 go_enter Tryz.func63,Tryz.ntmps63
 go_wp2_with fail
 have R1:=Hd (R0.out _ rfl)
 rw [show (zbe pn0.h pn0.W 0).toArray=#[Value.int IntKind.u32 1779033703,Value.int IntKind.u32 3144134277,Value.int IntKind.u32 1013904242,Value.int IntKind.u32 2773480762,Value.int IntKind.u32 1359893119,Value.int IntKind.u32 2600822924,Value.int IntKind.u32 528734635,Value.int IntKind.u32 1541459225,Value.int IntKind.u32 0,Value.int IntKind.u32 0,Value.int IntKind.u32 0,Value.int IntKind.u32 0,Value.int IntKind.u32 0,Value.int IntKind.u32 0,Value.int IntKind.u32 0,Value.int IntKind.u32 0,Value.int IntKind.u32 0,Value.int IntKind.u32 0,Value.int IntKind.u32 0,Value.int IntKind.u32 0,Value.int IntKind.u32 0,Value.int IntKind.u32 0,Value.int IntKind.u32 0,Value.int IntKind.u32 0,Value.int IntKind.i64 0] from rfl] at R1
 clear R0
 go_loopg [4,13] s.size (λ g s4 s13 wr=>∃ (i:Nat),g=s.size-i/\i<=s.size/\s13=.int .i64 (i:Int)/\Hid (zno w wr b (pn0.puts ((zdV s).take i))))
 case atStart=>exact ⟨0,rfl,zNz _,rfl,R1⟩
 case round =>
  obtain ⟨i,rfl,hi,rfl,HR⟩:=hrel
  clear R1
  by_cases hlt:i<s.size
  ·obtain ⟨c,hc,htk⟩:=zjL hlt
   have hidx:=λ W=>zgj (P:=Tryz.prog) 9 s i c Tryz.underlying9 hc W
   have PT:=zjN HR.out c.toNat c.toNat_lt
   rw [<-Pn.puts_snoc,<-htk] at PT
   have HLT:=Hd hlt
   have hsm:i<=1000000:=by have:=HSL.out;omega
   clear hc htk HR hi
   go_wp2_with fail
   refine PT.mono ?_
   rintro e wa ⟨rfl,HE⟩
   clear PT hidx hlt
   go_wp2_with fail
   go_roundg (s.size-(i+1))
   case measure=>have:=HLT.out;omega
   case rel=>exact ⟨i+1,rfl,HLT.out,by congr 1,HE⟩
  ·obtain rfl:i=s.size:=by omega
   have hA:pn0.puts ((zdV s).take s.size)=pn0.puts (zdV s):=by rw [List.take_of_length_le (by unfold zdV;rw [zLm,<-Lib.size_eq];exact zNr _)]
   rw [hA] at HR
   have PT:=zjN HR.out 128 (by decide)
   rw [show (pn0.puts (zdV s)).put 128=pnA s from rfl,show ((128:Nat):Int)=128 from rfl] at PT
   clear hA HR hlt hi
   go_wp2_with fail
   refine PT.mono ?_
   rintro e wa ⟨rfl,HE⟩
   clear PT
   obtain ⟨z,hz⟩:=exE (zdr (pnA s).n)
   have HZ:=Hd hz
   clear hz
   go_wp2_with fail
   go_loopg [] z (λ g wr=>∃ (m:Nat),g=z-m/\m<=z/\Hid (zno w wr b ((pnA s).puts (List.replicate m 0))))
   case atStart=>exact ⟨0,rfl,zNz _,HE⟩
   case round =>
    obtain ⟨m,rfl,hm,HR⟩:=hrel
    clear HE
    have hnA:=(zo7 s).n
    have cn:=HR.out.2.1.cn HR.out.1.wk
    have lb:=HR.out.2.1.lt
    rw [zmd m _ hnA] at cn
    have hst:=zkI hnA (by rw [HZ.out];exact hm)
    rw [HZ.out] at hst
    have hP56:((((pnA s).n+m)%64:Nat):Int)=56 ↔ m=z:=by rw [<-hst];omega
    by_cases hlt:m<z
    ·have PT:=zjN HR.out 0 (by decide)
     rw [<-zjM,show ((0:Nat):Int)=0 from rfl] at PT
     have hne:¬((((pnA s).n+m)%64:Nat):Int)=56:=λ h=>by have:=hP56.1 h;omega
     have HLT:=Hd hlt
     clear hP56 hst HR hm hnA hlt
     generalize ((pnA s).n+m)%64=nn at *
     go_wp2_with fail
     refine PT.mono ?_
     rintro e wc ⟨rfl,HE⟩
     clear PT cn hne lb
     go_wp2_with fail
     go_roundg (z-(m+1))
     case measure=>have:=HLT.out;omega
     case rel=>exact ⟨m+1,rfl,HLT.out,HE⟩
    ·obtain rfl:m=z:=by omega
     have heq:=hP56.2 rfl
     have hB:(pnA s).puts (List.replicate m 0)=pnB s:=by rw [<-HZ.out];rfl
     rw [hB] at HR
     have R2:Hid (zno w wr b ((pnB s).puts ((zdI s.size).take 0))):=Hd HR.out
     clear hP56 hst hB hm hnA hlt HR HZ
     generalize ((pnA s).n+m)%64=nn at *
     go_wp2_with fail
     go_loopg [5] 8 (λ g s5 wr=>∃ (j:Nat),g=8-j/\j<=8/\s5=.int .i64 (56-8*(j:Int))/\Hid (zno w wr b ((pnB s).puts ((zdI s.size).take j))))
     case atStart=>exact ⟨0,rfl,zNz _,rfl,R2⟩
     case round =>
      obtain ⟨j,rfl,hj,rfl,HR⟩:=hrel
      clear R2 cn lb heq
      have kc:(s.size:Int)%18446744073709551616=(s.size:Int):=by have:=HSL.out;omega
      have km:(s.size:Int)*8%18446744073709551616=(s.size:Int)*8:=by have:=HSL.out;omega
      by_cases hlt:j<8
      ·have PT:=zjN HR.out (s.size*8 / 2 ^ (56-8*j)%256) (Nat.mod_lt _ (by decide))
       rw [<-Pn.puts_snoc,<-zkJ _ _ hlt] at PT
       clear HR hj
       have h8:j=0\/j=1\/j=2\/j=3\/j=4\/j=5\/j=6\/j=7:=by omega
       clear hlt
       obtain ⟨m,hm⟩:=exE (8-(j+1))
       rcases h8 with rfl|rfl|rfl|rfl|rfl|rfl|rfl|rfl
       all_goals (
        go_wp2_with fail
        refine Calls.at_args PT ?_ ?_
        ·refine congrArg (λ z:Int=>(#[Value.pointer (some ⟨b,0,none⟩),Value.int .u8 z]:Array Value)) ?_
         have:=HSL.out
         simp only [Nat.reduceMul,Nat.reduceSub,Nat.reducePow,Nat.reduceAdd]
         omega
        ·rintro e wa ⟨rfl,HE⟩
         clear PT kc km
         go_wp2_with fail
         go_roundg m
         case measure=>omega
         case rel=>exact ⟨_,hm.symm,by decide,rfl,HE⟩)
      ·obtain rfl:j=8:=by omega
       have hC:(pnB s).puts ((zdI s.size).take 8)=pnC s:=by rw [List.take_of_length_le (by simp [zdI])];rfl
       rw [hC] at HR
       obtain ⟨ob,hob⟩:=exE (wr.heap.size)
       obtain ⟨hh,hhh⟩:=exE ((pnC s).h)
       have HPR:Hid (prB s=⟨(zhJ hh).toArray⟩):=Hd (by unfold prB;rw [hhh])
       have HX:Hid (∀ k,hh.getD k 0<4294967296):=Hd λ k=>by rw [<-hhh];exact (zrH s).h32.get k
       have hbo:b<wr.heap.size:=HR.out.2.1.lt
       have HCH:Hid (∀ (W:World) k,k<8->W.heap[b]?=wr.heap[b]?->W.cell? ⟨b,k,none⟩=some (.int .u32 (hh.getD k 0:Nat))):=Hd λ W k hk hW=>by
        have:=(HR.out.2.1.of hW).ch HR.out.1.wk hk
        rwa [hhh] at this
       have R3:Hid (∀ W,W=wr.alloc (.cells (zkK hh 0).toArray 212)->zfJ w wr b ob hh 0 W):=Hd λ W hW=>by
        subst hW
        exact ⟨by rw [<-hob];exact heap_alloc_new _ _,zao _ hbo,HR.out.2.2.1.alloc HR.out.2.2.1.size _,by omega,by have:=HR.out.2.2.1.size;omega⟩
       have HBB:Hid (ob=wr.heap.size/\b<wr.heap.size/\w.heap.size<=wr.heap.size):=Hd ⟨hob.symm,hbo,HR.out.2.2.1.size⟩
       clear HR hC hhh hj hlt kc km hbo
       go_wp2_with fail
       have R4:=Hd (R3.out _ rfl)
       rw [show (zkK hh 0).toArray=#[Value.int IntKind.u8 0,Value.int IntKind.u8 0,Value.int IntKind.u8 0,Value.int IntKind.u8 0,Value.int IntKind.u8 0,Value.int IntKind.u8 0,Value.int IntKind.u8 0,Value.int IntKind.u8 0,Value.int IntKind.u8 0,Value.int IntKind.u8 0,Value.int IntKind.u8 0,Value.int IntKind.u8 0,Value.int IntKind.u8 0,Value.int IntKind.u8 0,Value.int IntKind.u8 0,Value.int IntKind.u8 0,Value.int IntKind.u8 0,Value.int IntKind.u8 0,Value.int IntKind.u8 0,Value.int IntKind.u8 0,Value.int IntKind.u8 0,Value.int IntKind.u8 0,Value.int IntKind.u8 0,Value.int IntKind.u8 0,Value.int IntKind.u8 0,Value.int IntKind.u8 0,Value.int IntKind.u8 0,Value.int IntKind.u8 0,Value.int IntKind.u8 0,Value.int IntKind.u8 0,Value.int IntKind.u8 0,Value.int IntKind.u8 0] from rfl] at R4
       clear R3
       go_loopg [7,44] 32 (λ g s7 s44 wq=>∃ (i:Nat),g=32-i/\i<=32/\s44=.int .i64 (i:Int)/\Hid (zfJ w wr b ob hh i wq))
       case atStart=>exact ⟨0,rfl,zNz _,rfl,R4⟩
       case round =>
        obtain ⟨i,rfl,hi,rfl,HO⟩:=hrel
        clear R4
        by_cases hlt:i<32
        ·have cc:=HCH.out _ (i / 4) (by omega) HO.out.2.1
         have hx:=HX.out (i / 4)
         have HN:=HO.out.set hlt
         obtain ⟨f1,f2⟩:=HO.out.facts i
         obtain ⟨v9,f3⟩:=HO.out.has hlt
         have lb:=HO.out.bl HBB.out.2.1
         clear hi HO
         generalize hh.getD (i / 4) 0=x at *
         obtain ⟨m,hm⟩:=exE (32-(i+1))
         have h32:i=0\/i=1\/i=2\/i=3\/i=4\/i=5\/i=6\/i=7\/i=8\/i=9\/i=10\/i=11\/i=12\/i=13\/i=14\/i=15\/i=16\/i=17\/i=18\/i=19\/i=20\/i=21\/i=22\/i=23\/i=24\/i=25\/i=26\/i=27\/i=28\/i=29\/i=30\/i=31:=by omega
         clear hlt
         rcases h32 with rfl|rfl|rfl|rfl|rfl|rfl|rfl|rfl|rfl|rfl|rfl|rfl|rfl|rfl|rfl|rfl|rfl|rfl|rfl|rfl|rfl|rfl|rfl|rfl|rfl|rfl|rfl|rfl|rfl|rfl|rfl|rfl
         all_goals (
          simp only [Nat.reduceDiv,Nat.zero_div] at cc
          have HN2:=Hd HN
          clear HN
          go_wp2_with fail
          go_roundg m
          case measure=>omega
          case rel =>
           refine ⟨_,hm.symm,by decide,rfl,Hd (HN2.out _ ?_)⟩
           rw [UInt8.toNat_ofNat']
           simp only [Nat.reduceMul,Nat.reduceSub,Nat.reducePow,Nat.reduceMod,Nat.reduceDiv]
           omega)
        ·obtain rfl:i=32:=by omega
         have hg:=HO.out.1
         have cv:=λ W (hW:W.heap[ob]?=some (.cells (zkK hh 32).toArray 212 (0,0)))=>zn8 hh W ob hW
         have cv2:=cv _ hg
         have HB:=Hd HO.out.2.2.1
         have lo:=zab hg
         clear hi hlt HO cv hg HCH
         go_wp2_with fail
         go_ret
         exact ⟨by rw [HPR.out];rfl,HB⟩
theorem zqf {S:RS} {place:Nat} {o:Option TT} (h:zaY S place o):Srt (zbh o):=by
 cases o with
 | none=>exact List.Pairwise.nil
 | some T=>exact h.2.wf.srt
theorem zrT:(Tryz.prog.info? 170).map (λ i=>(i.zero,i.size,i.bytes))=some (some (.agg #[.string ⟨#[]⟩,.string ⟨#[]⟩]),2,32):=by kernel_rfl
def zcx (base:Nat) (W w':World) (lb:Nat) (v:Value) (frm tt:ByteArray) (limit:Nat) (E L:List (ByteArray × ByteArray)) (ok:Bool):Prop:=∃ L',zd5 tt limit (zbi frm E) L=(L',ok)/\zdn base W w' lb v L'
theorem zgk {W:World} {F:Nat->Prop} {q:Nat} {l:List (ByteArray × ByteArray)} (h:ziD W q (.leaf l) F) (hp:0<l.length) :
 ∃ g1 o1 c1 g2 o2 c2,W.cell? ⟨q,1,none⟩=some (.slice (some ⟨g1,o1,none⟩) l.length c1)/\W.cell? ⟨q,2,none⟩=some (.slice (some ⟨g2,o2,none⟩) l.length c2)/\(F q/\F g1/\F g2)/\∀ i (hi:i<l.length),W.cell? ⟨g1,o1+i,none⟩=some (.string l[i].1)/\W.cell? ⟨g2,o2+i,none⟩=some (.string l[i].2):=by
 obtain ⟨vk,vv,vi,a,b⟩:=h
 obtain ⟨g1,o1,c1,e1,h1,k1⟩:=a.ks.lit (by simpa [Nd.keys] using hp)
 obtain ⟨g2,o2,c2,e2,h2,k2⟩:=a.vs.lit (by simpa [Nd.vals] using hp)
 subst e1 e2
 refine ⟨g1,o1,c1,g2,o2,c2,?_,?_,⟨(b q (.inl rfl)).2,(b g1 (.inr (.inl rfl))).2,(b g2 (.inr (.inr (.inl rfl)))).2⟩,λ i hi=>⟨?_,?_⟩⟩
 ·have:=zaa (i:=1) a.blk rfl
  simpa [Nd.keys] using this
 ·have:=zaa (i:=2) a.blk rfl
  simpa [Nd.vals] using this
 ·have:=k1 i (by simpa [Nd.keys] using hi)
  rw [this];simp [Nd.keys]
 ·have:=k2 i (by simpa [Nd.vals] using hi)
  rw [this];simp [Nd.vals]
end Go.Proofs.YtdcjhpafipbpkaaGreatDoor
