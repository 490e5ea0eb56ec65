/- Parts of the proof of ChunksPages,joined: DelG,MapC,MapD,CutA,SumA,SumB,SumC,SumD,SumE,SumF,CutB,CutC,ChkA,ChkB,PackLk,PackBk,PackCk. No condition. -/
import Derived.Test.YtdcjhpafipbpkaaGreatDoorCq3
import Derived.StillTailTactics
import Derived.Laws.BitsAllLaws
import Derived.BigQuiet
import Derived.Deep.QuietTactic
import Derived.Deep.RegionHeld3
import Derived.Lib.Strings
import Derived.ScopeJumps
import Derived.WalkMore
import Derived.LoopN
import Derived.Lib.SlTrimSet
import Derived.Shelf.Strings.SlTrimAscii
set_option linter.unusedSimpArgs false
set_option linter.unusedVariables false
set_option linter.unusedSectionVars false
namespace Go.Proofs.YtdcjhpafipbpkaaGreatDoor
set_option maxRecDepth 100000
set_option maxHeartbeats 1000000
open Go.RowKit
theorem Delete_none (G:Nat->Prop) (tb rb place n m:Nat) (S:RS) (key:ByteArray) (w:World) (h:RmS w G rb n m S) (ht:TB w tb rb place) (hg:¬G tb) (hp:place<16) (hm:m<=3900000) (hr:S.root place=0) :
 Calls Tryz.prog 74 #[.pointer (some ⟨tb,0,none⟩),.string key] w fun e w'=>∃ was:Bool,e=.returned (.tuple #[.bool was,.int .i64 0])/\Hid (DelEnd w w' G rb n m place S none key was):=by
 have hmf:∀ (fn:Fn) (first cap:Array Value) (w:World),(Instr.makeFunc fn first cap).run Tryz.prog w=.ok (.func fn first cap) w:=fun _ _ _ _=>rfl
 have hnot:∀ (x:Bool) (w:World),(Op.unary .not (.bool x)).run Tryz.prog w=.ok (.bool (!x)) w:=fun _ _=>rfl
 have htl:=lt_of_heap ht
 obtain ⟨c0,c1⟩:=ht.cells
 have hb3:=fun k=>delW_below w tb k
 have d0:((((w.alloc (.cells #[.pointer (some ⟨tb,0,none⟩)] 103)).alloc (.cells #[.bool false] 4)).alloc (.cells #[.int .i64 0] 34)).alloc (.cells #[.int .i64 0] 3)).cell? ⟨tb,0,none⟩=some (.pointer (some ⟨rb,0,none⟩)):=(World.cell?_of_block ((hb3 0).block tb htl)).trans c0
 have M3:Hid (Calls Tryz.prog 114 #[.pointer (some ⟨rb,0,none⟩)] ((((w.alloc (.cells #[.pointer (some ⟨tb,0,none⟩)] 103)).alloc (.cells #[.bool false] 4)).alloc (.cells #[.int .i64 0] 34)).alloc (.cells #[.int .i64 0] 3)) fun e w'=>∃ k:Nat,e=.returned (.int .i64 (k:Int))/\w'=((((w.alloc (.cells #[.pointer (some ⟨tb,0,none⟩)] 103)).alloc (.cells #[.bool false] 4)).alloc (.cells #[.int .i64 0] 34)).alloc (.cells #[.int .i64 0] 3))):=Hd (mark_s G rb n m S _ (h.below (hb3 0)))
 have HG:=Hd h.lt
 have B0:Hid (∀ k:Int,TBase (delW w tb k) (delW w tb k) G G tb rb place n m S):=Hd fun k=>TBase.start (h.below (hb3 k)) (ht.below (hb3 k)) hg
 have HP:=Hd hp
 have HM:=Hd hm
 have HR:=Hd hr
 clear h ht hg hp hm hr hb3 c1
 go_enter_defers Tryz.func74,Tryz.ntmps74
 go_wp2_with fail
 refine M3.out.mono ?_
 rintro e w1 ⟨k,rfl,rfl⟩
 clear M3 d0
 go_wp2_with fail
 have BW:=Hd (B0.out (k:Int))
 have LW:=Hd (delW_loc w tb (k:Int))
 have SW:=Hd (delW_size w tb (k:Int))
 have BB:=Hd (delW_below w tb (k:Int))
 change Calls Tryz.prog 125 #[.pointer (some ⟨tb,0,none⟩)] (delW w tb (k:Int)) _
 generalize delW w tb (k:Int)=W0 at *
 have RT:=root_c G tb rb place n m S W0 BW.out.room BW.out.blk HP.out (by have:=HM.out;omega) (by rw [HR.out];omega)
 rw [HR.out] at RT
 refine RT.mono ?_
 rintro e w2 ⟨rfl,hb⟩
 have B2:=Hd (BW.out.below hb.out)
 have L2:=Hd (LW.out.below hb.out)
 obtain ⟨x0,x1,x2,x3,x4,x5⟩:=L2.out.cells
 have hloc:∀ x,w.heap.size<=x->¬G x:=fun x hx e=>by have:=HG.out x e;omega
 have L3:=(L2.out.setW false).setE
 have hfe:((w2.setCell ⟨w.heap.size+1,0,none⟩ (.bool false)).setCell ⟨w.heap.size+1+1,0,none⟩ (.int .i64 0)).cell? ⟨w.heap.size+1+1,0,none⟩=some (.int .i64 0):=L3.cells.2.2.1
 have hfw:((w2.setCell ⟨w.heap.size+1,0,none⟩ (.bool false)).setCell ⟨w.heap.size+1+1,0,none⟩ (.int .i64 0)).cell? ⟨w.heap.size+1,0,none⟩=some (.bool false):=L3.cells.2.1
 have HGO:Hid (DelEnd w ((w2.setCell ⟨w.heap.size+1,0,none⟩ (.bool false)).setCell ⟨w.heap.size+1+1,0,none⟩ (.int .i64 0)) G rb n m place S none key false):=Hd (by
  unfold DelEnd
  rw [if_neg (by simp)]
  exact ⟨((((StG.of B2.out BB.out).loc (by omega) (hloc _ (by omega)) 0 _).loc (by omega) (hloc _ (by omega)) 0 _).more (by omega)).go,by simp [entsO]⟩)
 clear RT hb L3
 go_wp2_with fail
 refine leaves_cons (f:=124) (args:=#[.pointer (some ⟨w.heap.size+1+1,0,none⟩)]) (by simp) (by simp [go_sem]) ?_
 refine (guard_idle _ _).mono ?_
 rintro e u' wa ⟨rfl,rfl,rfl⟩
 refine leaves_cons (f:=129) (args:=#[.pointer (some ⟨w.heap.size+1+1,0,none⟩),.pointer (some ⟨w.heap.size,0,none⟩),.pointer (some ⟨w.heap.size+1,0,none⟩),.pointer (some ⟨w.heap.size+1+1+1,0,none⟩)]) (by simp [settle]) (by simp [go_sem]) ?_
 refine (del1_idle _ _ _ _ _ _ hfe).mono ?_
 rintro e u' wb ⟨rfl,rfl,rfl⟩
 simp [Leaves,settle,results,Tryz.results74,go_sem,hfe,hfw]
 exact HGO
theorem Delete_some (G:Nat->Prop) (tb rb place n m:Nat) (S:RS) (hh p:Nat) (t:PT hh) (key:ByteArray) (w:World) (h:RmS w G rb n m S) (ht:TB w tb rb place) (hg:¬G tb) (hp:place<16) (hm:m<=3900000) (hr:S.root place=p+1) (hT:Tr S hh p t) (hh20:hh<=20) :
 Calls Tryz.prog 74 #[.pointer (some ⟨tb,0,none⟩),.string key] w fun e w'=>∃ was:Bool,e=.returned (.tuple #[.bool was,.int .i64 0])/\Hid (DelEnd w w' G rb n m place S (some ⟨hh,p,t⟩) key was):=by
 have hp65:p<65536:=by
  have:=h.lim p hT.on.top.1
  have:=h.bounds
  unfold pagesN at *;omega
 have hmf:∀ (fn:Fn) (first cap:Array Value) (w:World),(Instr.makeFunc fn first cap).run Tryz.prog w=.ok (.func fn first cap) w:=fun _ _ _ _=>rfl
 have hnot:∀ (x:Bool) (w:World),(Op.unary .not (.bool x)).run Tryz.prog w=.ok (.bool (!x)) w:=fun _ _=>rfl
 have htl:=lt_of_heap ht
 obtain ⟨c0,c1⟩:=ht.cells
 have hb3:=fun k=>delW_below w tb k
 have d0:((((w.alloc (.cells #[.pointer (some ⟨tb,0,none⟩)] 103)).alloc (.cells #[.bool false] 4)).alloc (.cells #[.int .i64 0] 34)).alloc (.cells #[.int .i64 0] 3)).cell? ⟨tb,0,none⟩=some (.pointer (some ⟨rb,0,none⟩)):=(World.cell?_of_block ((hb3 0).block tb htl)).trans c0
 have M3:Hid (Calls Tryz.prog 114 #[.pointer (some ⟨rb,0,none⟩)] ((((w.alloc (.cells #[.pointer (some ⟨tb,0,none⟩)] 103)).alloc (.cells #[.bool false] 4)).alloc (.cells #[.int .i64 0] 34)).alloc (.cells #[.int .i64 0] 3)) fun e w'=>∃ k:Nat,e=.returned (.int .i64 (k:Int))/\w'=((((w.alloc (.cells #[.pointer (some ⟨tb,0,none⟩)] 103)).alloc (.cells #[.bool false] 4)).alloc (.cells #[.int .i64 0] 34)).alloc (.cells #[.int .i64 0] 3))):=Hd (mark_s G rb n m S _ (h.below (hb3 0)))
 have HG:=Hd h.lt
 have B0:Hid (∀ k:Int,TBase (delW w tb k) (delW w tb k) G G tb rb place n m S):=Hd fun k=>TBase.start (h.below (hb3 k)) (ht.below (hb3 k)) hg
 have HP:=Hd hp
 have HM:=Hd hm
 have HR:=Hd hr
 have HT:=Hd hT
 have HH:=Hd hh20
 have HP65:=Hd hp65
 clear h ht hg hp hm hr hb3 c1 hT hh20 hp65
 go_enter_defers Tryz.func74,Tryz.ntmps74
 go_wp2_with fail
 refine M3.out.mono ?_
 rintro e w1 ⟨k,rfl,rfl⟩
 clear M3 d0
 go_wp2_with fail
 have BW:=Hd (B0.out (k:Int))
 have LW:=Hd (delW_loc w tb (k:Int))
 have SW:=Hd (delW_size w tb (k:Int))
 have BB:=Hd (delW_below w tb (k:Int))
 change Calls Tryz.prog 125 #[.pointer (some ⟨tb,0,none⟩)] (delW w tb (k:Int)) _
 generalize delW w tb (k:Int)=W0 at *
 have RT:=root_c G tb rb place n m S W0 BW.out.room BW.out.blk HP.out (by have:=HM.out;omega) (by have:=HP65.out;rw [HR.out];omega)
 rw [HR.out,show (((p+1:Nat):Int)-1)=(p:Int) by omega] at RT
 refine RT.mono ?_
 rintro e w2 ⟨rfl,hb⟩
 have B2:=Hd (BW.out.below hb.out)
 have L2:=Hd (LW.out.below hb.out)
 obtain ⟨x0,x1,x2,x3,x4,x5⟩:=L2.out.cells
 have hp0:¬(p:Int)<0:=by omega
 have RM0:=remove_c hh G tb rb place n m S p t key 0 w2 B2.out.room B2.out.blk B2.out.gt HT.out (by have:=HH.out;omega) (by have:=HM.out;have:=HH.out;omega)
 rw [show ((0:Nat):Int)=0 from rfl] at RM0
 have RM:=Hd RM0
 clear RT hb RM0
 go_wp2_with fail
 refine RM.out.mono ?_
 rintro e w3 ⟨was,q,rfl,HE⟩
 clear RM
 have he:=HE.out
 unfold RemEnd at he
 cases was with
 | false =>
   rw [if_neg (by simp)] at he
   have B3:=B2.out.trans he.1
   have hloc:∀ x,w.heap.size<=x->¬G x:=fun x hx e=>by have:=HG.out x e;omega
   have L3:=LW.out.upd B3.up fun k h1 _=>hloc k h1
   obtain ⟨y0,y1,y2,y3,y4,y5⟩:=L3.cells
   have L5:=((L3.setW false).setW false).setE
   have hfe:(((w3.setCell ⟨w.heap.size+1,0,none⟩ (.bool false)).setCell ⟨w.heap.size+1,0,none⟩ (.bool false)).setCell ⟨w.heap.size+1+1,0,none⟩ (.int .i64 0)).cell? ⟨w.heap.size+1+1,0,none⟩=some (.int .i64 0):=L5.cells.2.2.1
   have hfw:(((w3.setCell ⟨w.heap.size+1,0,none⟩ (.bool false)).setCell ⟨w.heap.size+1,0,none⟩ (.bool false)).setCell ⟨w.heap.size+1+1,0,none⟩ (.int .i64 0)).cell? ⟨w.heap.size+1,0,none⟩=some (.bool false):=L5.cells.2.1
   have HGO:Hid (DelEnd w (((w3.setCell ⟨w.heap.size+1,0,none⟩ (.bool false)).setCell ⟨w.heap.size+1,0,none⟩ (.bool false)).setCell ⟨w.heap.size+1+1,0,none⟩ (.int .i64 0)) G rb n m place S (some ⟨hh,p,t⟩) key false):=Hd (by
    unfold DelEnd
    rw [if_neg (by simp)]
    exact ⟨(((((StG.of B3 BB.out).loc (by omega) (hloc _ (by omega)) 0 _).loc (by omega) (hloc _ (by omega)) 0 _).loc (by omega) (hloc _ (by omega)) 0 _).more (by omega)).go,he.2⟩)
   have z1:=(L3.setW false).cells
   have z2:=z1.2.1
   have z3:=z1.2.2.2.1
   clear he HE L3 L5 B3 z1 x0 x1 x2 x3 x4 x5
   go_wp2_with fail
   refine leaves_cons (f:=124) (args:=#[.pointer (some ⟨w.heap.size+1+1,0,none⟩)]) (by simp) (by simp [go_sem]) ?_
   refine (guard_idle _ _).mono ?_
   rintro e u' wa ⟨rfl,rfl,rfl⟩
   refine leaves_cons (f:=129) (args:=#[.pointer (some ⟨w.heap.size+1+1,0,none⟩),.pointer (some ⟨w.heap.size,0,none⟩),.pointer (some ⟨w.heap.size+1,0,none⟩),.pointer (some ⟨w.heap.size+1+1+1,0,none⟩)]) (by simp [settle]) (by simp [go_sem]) ?_
   refine (del1_idle _ _ _ _ _ _ hfe).mono ?_
   rintro e u' wb ⟨rfl,rfl,rfl⟩
   simp [Leaves,settle,results,Tryz.results74,go_sem,hfe,hfw]
   exact HGO
 | true =>
   rw [if_pos rfl] at he
   obtain ⟨S3,G3,u,b3,n3,r3⟩:=he
   have B3:=B2.out.trans b3
   have hloc:∀ x,w.heap.size<=x->x<w.heap.size+4->¬G3 x:=fun x hx hx2 e=>by
    rcases B3.sub x e with e|e
    ·have:=HG.out x e;omega
    ·have:=SW.out;omega
   have L3:=LW.out.upd B3.up fun k h1 _ e=>by have:=HG.out k e;omega
   have N3:RdN W0 w3 G3 q (nd hh u):=(n3.base B2.out.up.size).rd
   have SG:=Hd ((StG.of B3 BB.out).loc (x:=w.heap.size+1) (by omega) (hloc _ (by omega) (by omega)) 0 (.bool true))
   have hlu:Upd (fun k=>k=w.heap.size+1) w3 (w3.setCell ⟨w.heap.size+1,0,none⟩ (.bool true)):=Upd.setCell (S:=fun k=>k=w.heap.size+1) (Upd.refl _ _) (p:=⟨w.heap.size+1,0,none⟩) (.inl rfl) (.bool true)
   have BL:TBase (w3.setCell ⟨w.heap.size+1,0,none⟩ (.bool true)) (w3.setCell ⟨w.heap.size+1,0,none⟩ (.bool true)) G3 G3 tb rb place n (m+8*(hh+1)) S3:=TBase.start (B3.room.frame hlu fun k hk e=>hloc k (by omega) (by omega) hk) (B3.blk.upd hlu fun e=>by have:=htl;omega) B3.gt
   have L4:=L3.setW true
   have N4:=N3.loc (x:=w.heap.size+1) (by have:=SW.out;omega) 0 (.bool true)
   have RS:=RootSt.start (n:=n) r3 HR.out HT.out.pos
   have HDEL:=Hd r3.op.del
   obtain ⟨y0,y1,y2,y3,y4,y5⟩:=L3.cells
   obtain ⟨v0,v1,v2,v3,v4,v5⟩:=L4.cells
   have HBL:=Hd BL
   have HL4:=Hd L4
   have HN4:=Hd N4
   have HRS:=Hd RS
   have HLOC:=Hd hloc
   have HW01:Hid (W0.heap.size<=(w3.setCell ⟨w.heap.size+1,0,none⟩ (.bool true)).heap.size):=Hd (by rw [World.size_setCell];exact B3.up.size)
   clear BL L4 N4 RS hloc hlu L3 N3 B3 b3 n3 r3 HE x0 x1 x2 x3 x4 x5
   go_wp2_with fail
   generalize w3.setCell ⟨w.heap.size+1,0,none⟩ (.bool true)=W1 at *
   go_loopg [8,9] hh (fun gg s8 s9 wr=>∃ (h' p' q':Nat) (u':PT h') (S':RS) (G':Nat->Prop),gg=h'/\h'<=hh/\s8=.pointer (some ⟨q',0,none⟩)/\s9=.int .i64 (p':Int)/\Hid (TBase W1 wr G3 G' tb rb place n (m+8*(hh+1)+2*(hh-h')) S'/\RdN W0 wr G' q' (nd h' u')/\RootSt place n (crO (some ⟨hh,p,t⟩)) (wtO (some ⟨hh,p,t⟩)) S S' (pgsO (some ⟨hh,p,t⟩)) (ents hh u) h' p' u'))
   case atStart=>exact ⟨hh,p,q,u,S3,G3,rfl,Nat.le_refl _,rfl,rfl,Hd ⟨HBL.out.more (by omega),HN4.out,HRS.out⟩⟩
   case round =>
    obtain ⟨h',p',q',u',S',G',hgk,hle,rfl,rfl,HI⟩:=hrel
    have HGK:=Hd hgk
    clear hgk
    have L5:=Hd (HL4.out.upd HI.out.1.up fun k h1 h2=>HLOC.out k h1 (by omega))
    obtain ⟨e0,e1,e2,e3,e4,e5⟩:=L5.out.cells
    obtain ⟨ka,kc,k1⟩:=HI.out.2.1.keys
    clear v0 v1 v2 v3 v4 v5 y0 y1 y2 y3 y4 y5
    have HMM:Hid (m+8*(hh+1)+2*(hh-h')<=3998000):=Hd (by have:=HM.out;have:=HH.out;omega)
    obtain ⟨t0,t1⟩:=HI.out.1.blk.cells
    have HLOC2:Hid (∀ (wx:World) (Gx:Nat->Prop) (mx:Nat) (Sx:RS),TBase W1 wx G3 Gx tb rb place n mx Sx->∀ x,w.heap.size<=x->x<w.heap.size+4->¬Gx x):=Hd fun wx Gx mx Sx hb x hx hx2 e=>by
     rcases hb.sub x e with e|e
     ·exact HLOC.out x hx hx2 e
     ·have:=HW01.out;have:=SW.out;omega
    by_cases hz:(nd h' u').len=0
    ·rw [hz] at k1
     have FR:=Hd (tail_free HI.out.1 (by have:=HMM.out;omega) HI.out.2.2.use)
     obtain ⟨mg,me⟩:=HI.out.2.2.none (o:=some ⟨hh,p,t⟩) hz
     have HMG:=Hd mg
     have HME:=Hd me
     have MU:=must_c
     clear hz mg me
     go_wp2_with fail
     refine FR.out.mono ?_
     rintro e w5 ⟨rfl,HF⟩
     obtain ⟨G5,b5,tn5⟩:=HF.out
     have L6:=HL4.out.upd b5.up fun k h1 h2=>HLOC.out k h1 (by omega)
     obtain ⟨f0,f1,f2,f3,f4,f5⟩:=L6.cells
     have SR:=setRoot_c G5 tb rb place n _ _ 0 w5 b5.room b5.blk b5.gt HP.out (by have:=HMM.out;omega) (by omega)
     rw [show (((0:Nat):Int)-1)=-1 from rfl] at SR
     have SR2:=Hd SR
     have B5:=Hd b5
     clear SR b5 tn5 HF FR e0 e1 e2 e3 e4 e5 t0 t1 k1 L6
     go_wp2_with (first
      | (go_at_call 131;refine (MU _).mono ?_;rintro e w6 ⟨rfl,rfl⟩)
      | (go_at_call 126;refine SR2.out.mono ?_;rintro e w7 ⟨rfl,HS⟩
         obtain ⟨G7,b7,tn7⟩:=B5.out.step HS.out
         have L7:=HL4.out.upd b7.up fun k h1 h2=>HLOC.out k h1 (by omega)
         obtain ⟨g0,g1,g2,g3,g4,g5⟩:=L7.cells
         have L9:=(L7.setW true).setE
         have hfe:((w7.setCell ⟨w.heap.size+1,0,none⟩ (.bool true)).setCell ⟨w.heap.size+1+1,0,none⟩ (.int .i64 0)).cell? ⟨w.heap.size+1+1,0,none⟩=some (.int .i64 0):=L9.cells.2.2.1
         have hfw:((w7.setCell ⟨w.heap.size+1,0,none⟩ (.bool true)).setCell ⟨w.heap.size+1+1,0,none⟩ (.int .i64 0)).cell? ⟨w.heap.size+1,0,none⟩=some (.bool true):=L9.cells.2.1
         have HGO:Hid (DelEnd w ((w7.setCell ⟨w.heap.size+1,0,none⟩ (.bool true)).setCell ⟨w.heap.size+1+1,0,none⟩ (.int .i64 0)) G rb n m place S (some ⟨hh,p,t⟩) key true):=Hd (by
          unfold DelEnd
          rw [if_pos rfl]
          refine ⟨_,none,(((((SG.out.then b7).loc (x:=w.heap.size+1) (by omega) (HLOC2.out _ _ _ _ b7 _ (by omega) (by omega)) 0 (.bool true)).loc (x:=w.heap.size+1+1) (by omega) (HLOC2.out _ _ _ _ b7 _ (by omega) (by omega)) 0 (.int .i64 0)).more (by have:=HH.out;omega)).go),HMG.out,?_,Nat.zero_le _,fun c hc=>(HI.out.2.2.spr c hc).freeS HI.out.2.2.use,Nat.succ_le_succ HI.out.2.2.crp,Nat.zero_le _⟩
          have:=HDEL.out
          rw [HME.out] at this;exact this)
         clear b7 tn7 L7 L9 HS))
     refine leaves_cons (f:=124) (args:=#[.pointer (some ⟨w.heap.size+1+1,0,none⟩)]) (by simp) (by simp [go_sem]) ?_
     refine (guard_idle _ _).mono ?_
     rintro e u' wa ⟨rfl,rfl,rfl⟩
     refine leaves_cons (f:=129) (args:=#[.pointer (some ⟨w.heap.size+1+1,0,none⟩),.pointer (some ⟨w.heap.size,0,none⟩),.pointer (some ⟨w.heap.size+1,0,none⟩),.pointer (some ⟨w.heap.size+1+1+1,0,none⟩)]) (by simp [settle]) (by simp [go_sem]) ?_
     refine (del1_idle _ _ _ _ _ _ hfe).mono ?_
     rintro e u' wb ⟨rfl,rfl,rfl⟩
     simp [Leaves,settle,results,Tryz.results74,go_sem,hfe,hfw]
     exact HGO
    ·have hzp:0<(nd h' u').len:=by omega
     have HZ:=Hd hzp
     have k1n:¬(((nd h' u').len:Nat):Int)=0:=by omega
     have k1m:¬(nd h' u').len=0:=hz
     by_cases hone:∃ (h2:Nat) (x:Kid h2) (e:h'=h2+1),e ▸ u'=(show PT (h2+1) from [x])
     ·obtain ⟨h2,x,e,hu⟩:=hone
      subst e
      have hu':u'=(show PT (h2+1) from [x]):=hu
      subst hu'
      clear hu k1n k1m hz hzp HZ
      obtain ⟨d1,d2,d3⟩:=HI.out.2.2.down
      have HD:=Hd d3
      have hlf:wr.cell? ⟨q',0,none⟩=some (.bool false):=by
       obtain ⟨vk,vv,vi,a⟩:=HI.out.2.1.view
       exact cell_lit a.blk rfl
      have k1':wr.cell? ⟨q',1,none⟩=some (.slice ka 1 kc):=k1
      have k3':∃ g o c,wr.cell? ⟨q',3,none⟩=some (.slice (some ⟨g,o,none⟩) 1 c):=by
       obtain ⟨g1,o1,c1,g2,o2,c2,-,e3,-⟩:=RdN.at (l:=[(x.1,x.2.1)]) HI.out.2.1 (by simp)
       exact ⟨g2,o2,c2,e3⟩
      obtain ⟨ga,oa,ca,k3'⟩:=k3'
      have FR:=Hd (tail_free HI.out.1 (by have:=HMM.out;omega) HI.out.2.2.use)
      have MU:=must_c
      clear d1 d3 k1
      go_wp2_with fail
      refine FR.out.mono ?_
      rintro e w5 ⟨rfl,HF⟩
      obtain ⟨G5,b5,tn5⟩:=HF.out
      have L6:=HL4.out.upd b5.up fun k h1 h2=>HLOC.out k h1 (by omega)
      obtain ⟨f0,f1,f2,f3,f4,f5⟩:=L6.cells
      obtain ⟨g1,o1,c1,g2,o2,c2,-,m3,mc⟩:=RdN.at (l:=[(x.1,x.2.1)]) (HI.out.2.1.turn tn5) (by simp)
      have mx:=(mc 0 (by simp)).2
      have m3':w5.cell? ⟨q',3,none⟩=some (.slice (some ⟨g2,o2,none⟩) 1 c2):=m3
      have mx':w5.cell? ⟨g2,o2,none⟩=some (.int .i64 (x.2.1:Int)):=mx
      have SR:=Hd (setRoot_t b5 HP.out (by have:=HMM.out;omega) x.2.1 d2)
      clear b5 tn5 HF FR e0 e1 e2 e3 e4 e5 t0 t1 L6 m3 mx mc hlf k1' k3'
      go_wp2_with (first
       | (go_at_call 131;refine (MU _).mono ?_;rintro e w6 ⟨rfl,rfl⟩)
       | (go_at_call 126;refine SR.out.mono ?_;rintro e w7 ⟨rfl,HS⟩
          obtain ⟨G7,b7,tn7⟩:=HS.out
          have L7:=HL4.out.upd b7.up fun k h1 h2=>HLOC.out k h1 (by omega)
          obtain ⟨i0,i1,i2,i3,i4,i5⟩:=L7.cells
          have hxs:=(HI.out.2.2.wf.1 x (by simp))
          have ONX:On (setRootS (frS S' p') place (x.2.1+1)) h2 x.2.1 x.2.2:=on_iff.2 ⟨⟨HD.out.use,HD.out.cont hxs.2.2.1⟩,HD.out.kid⟩
          have RDX:=Hd (tail_read b7 (by have:=HMM.out;omega) ONX hxs.2.2.2.1 (hxs.2.2.2.2.ok hxs.2.2.1 (Nat.le_trans hxs.2.2.2.1 (by decide))))
          have B7:=Hd b7
          clear b7 tn7 L7 HS hxs ONX)
       | (go_at_call 133;refine RDX.out.mono ?_;rintro e w8 ⟨q1,rfl,HO⟩))
      go_roundg h2
      case measure=>have:=HGK.out;omega
      case rel =>
       obtain ⟨F,a,b,c⟩:=HO.out
       refine ⟨h2,x.2.1,q1,x.2.2,_,G7,rfl,by omega,rfl,rfl,Hd ⟨(B7.out.below c).more (by omega),⟨F,a.rdIn,fun k hk=>⟨?_,fun e=>?_⟩⟩,HD.out⟩⟩
       ·have:=b k hk;have:=B7.out.up.size;have:=HW01.out;omega
       ·have:=b k hk;have:=B7.out.room.lt k e;omega
     ·have hdone:(nd h' u').isLeaf=true\/((nd h' u').isLeaf=false/\∃ a c,wr.cell? ⟨q',3,none⟩=some (.slice a (nd h' u').len c)/\1<(nd h' u').len):=by
       cases h' with
       | zero=>exact .inl rfl
       | succ h2 =>
         refine .inr ⟨rfl,?_⟩
         obtain ⟨vk,vv,vi,a⟩:=HI.out.2.1.view
         obtain ⟨ai,ci,rfl⟩:=a.is.form
         have e3':=cell_lit (i:=3) a.blk rfl
         rw [List.length_map,Nd.kids_len (d:=nd (h2+1) u') rfl] at e3'
         refine ⟨ai,ci,e3',?_⟩
         rw [nd_lenS] at hzp ⊢
         cases u' with
         | nil=>simp at hzp
         | cons x r =>
           cases r with
           | nil=>exact absurd ⟨h2,x,rfl,rfl⟩ hone
           | cons y r=>simp
      have hlf:wr.cell? ⟨q',0,none⟩=some (.bool (nd h' u').isLeaf):=by
       obtain ⟨vk,vv,vi,a⟩:=HI.out.2.1.view
       exact cell_lit a.blk rfl
      have b7:=HI.out.1
      have L9:=(L5.out.setW true).setE
      have hfe:((wr.setCell ⟨w.heap.size+1,0,none⟩ (.bool true)).setCell ⟨w.heap.size+1+1,0,none⟩ (.int .i64 0)).cell? ⟨w.heap.size+1+1,0,none⟩=some (.int .i64 0):=L9.cells.2.2.1
      have hfw:((wr.setCell ⟨w.heap.size+1,0,none⟩ (.bool true)).setCell ⟨w.heap.size+1+1,0,none⟩ (.int .i64 0)).cell? ⟨w.heap.size+1,0,none⟩=some (.bool true):=L9.cells.2.1
      have HGO:Hid (DelEnd w ((wr.setCell ⟨w.heap.size+1,0,none⟩ (.bool true)).setCell ⟨w.heap.size+1+1,0,none⟩ (.int .i64 0)) G rb n m place S (some ⟨hh,p,t⟩) key true):=Hd (by
       unfold DelEnd
       rw [if_pos rfl]
       refine ⟨_,some ⟨h',p',u'⟩,(((((SG.out.then b7).loc (x:=w.heap.size+1) (by omega) (HLOC2.out _ _ _ _ b7 _ (by omega) (by omega)) 0 (.bool true)).loc (x:=w.heap.size+1+1) (by omega) (HLOC2.out _ _ _ _ b7 _ (by omega) (by omega)) 0 (.int .i64 0)).more (by have:=HH.out;omega)).go),(HI.out.2.2.done (o:=some ⟨hh,p,t⟩) HZ.out).1,?_,hle,HI.out.2.2.spr,(HI.out.2.2.done (o:=some ⟨hh,p,t⟩) HZ.out).2,HI.out.2.2.wtl⟩
       have:=HDEL.out
       rw [<-HI.out.2.2.ents] at this;exact this)
      clear b7 L9 hone hz hzp
      rcases hdone with hl|⟨hl,ai,ci,k3,hl2⟩
      ·rw [hl] at hlf
       clear hl
       generalize (nd h' u').len=kl at *
       go_wp2_with fail
       refine leaves_cons (f:=124) (args:=#[.pointer (some ⟨w.heap.size+1+1,0,none⟩)]) (by simp) (by simp [go_sem]) ?_
       refine (guard_idle _ _).mono ?_
       rintro e u' wa ⟨rfl,rfl,rfl⟩
       refine leaves_cons (f:=129) (args:=#[.pointer (some ⟨w.heap.size+1+1,0,none⟩),.pointer (some ⟨w.heap.size,0,none⟩),.pointer (some ⟨w.heap.size+1,0,none⟩),.pointer (some ⟨w.heap.size+1+1+1,0,none⟩)]) (by simp [settle]) (by simp [go_sem]) ?_
       refine (del1_idle _ _ _ _ _ _ hfe).mono ?_
       rintro e u' wb ⟨rfl,rfl,rfl⟩
       simp [Leaves,settle,results,Tryz.results74,go_sem,hfe,hfw]
       exact HGO
      ·rw [hl] at hlf
       have hl3:(1:Int)<(((nd h' u').len:Nat):Int):=by omega
       clear hl hl2
       generalize (nd h' u').len=kl at *
       go_wp2_with fail
       refine leaves_cons (f:=124) (args:=#[.pointer (some ⟨w.heap.size+1+1,0,none⟩)]) (by simp) (by simp [go_sem]) ?_
       refine (guard_idle _ _).mono ?_
       rintro e u' wa ⟨rfl,rfl,rfl⟩
       refine leaves_cons (f:=129) (args:=#[.pointer (some ⟨w.heap.size+1+1,0,none⟩),.pointer (some ⟨w.heap.size,0,none⟩),.pointer (some ⟨w.heap.size+1,0,none⟩),.pointer (some ⟨w.heap.size+1+1+1,0,none⟩)]) (by simp [settle]) (by simp [go_sem]) ?_
       refine (del1_idle _ _ _ _ _ _ hfe).mono ?_
       rintro e u' wb ⟨rfl,rfl,rfl⟩
       simp [Leaves,settle,results,Tryz.results74,go_sem,hfe,hfw]
       exact HGO
def Got (key:ByteArray) (E:List (ByteArray × ByteArray)) (v:ByteArray) (ok:Bool):Prop:=(ok=true/\(key,v)∈E)\/(ok=false/\v=⟨#[]⟩/\∀ e∈E,e.1≠key)
theorem Got.lift {key:ByteArray} {h:Nat} {A B:List (Kid h)} {x:Kid h} {v:ByteArray} {ok:Bool} (H:Seps h (A++x::B)) (W:Way key A x B) (g:Got key (ents h x.2.2) v ok):Got key (ents (h+1) (A++x::B:List (Kid h))) v ok:=by
 obtain ⟨w1,w2⟩:=H.way W
 rw [ents_mid]
 rcases g with ⟨rfl,hm⟩|⟨rfl,rfl,hn⟩
 ·exact .inl ⟨rfl,by simp [hm]⟩
 ·refine .inr ⟨rfl,rfl,fun e he=>?_⟩
  rcases List.mem_append.1 he with he|he
  ·obtain ⟨y,hy,he⟩:=(ents_mem h A e).1 he
   exact kless_ne (w1 y hy e he)
  ·rcases List.mem_append.1 he with he|he
   ·exact hn e he
   ·obtain ⟨y,hy,he⟩:=(ents_mem h B e).1 he
    exact fun e'=>kless_ne (w2 y hy e he) e'.symm
theorem Get_none (G:Nat->Prop) (tb rb place n m:Nat) (S:RS) (key:ByteArray) (w:World) (h:RmS w G rb n m S) (ht:TB w tb rb place) (hg:¬G tb) (hp:place<16) (hm:m<=3900000) (hr:S.root place=0) :
 Calls Tryz.prog 115 #[.pointer (some ⟨tb,0,none⟩),.string key] w fun e w'=>∃ v ok,e=.returned (.tuple #[.string v,.bool ok,.int .i64 0])/\Got key [] v ok/\Hid (StGo w w' G rb n m S):=by
 have hb0:Below w.heap.size w (w.alloc (.cells #[.int .i64 0] 34)):=(Below.refl _ _).alloc (Nat.le_refl _) _
 have B0:=Hd (TBase.start (h.below hb0) (ht.below hb0) hg)
 have HG:=Hd h.lt
 have RT:=root_c G tb rb place n m S _ B0.out.room B0.out.blk hp (by omega) (by rw [hr];omega)
 rw [hr] at RT
 have HB0:=Hd hb0
 have l0:(w.alloc (.cells #[.int .i64 0] 34)).heap[w.heap.size]?=some (.cells #[.int .i64 0] 34 (0,0)):=heap_alloc_new _ _
 clear h ht hg hp hm hr hb0
 go_enter_defers Tryz.func115,Tryz.ntmps115
 go_wp2_with fail
 refine RT.mono ?_
 rintro e w2 ⟨rfl,hb⟩
 have B2:=B0.out.below hb.out
 have l2:=(hb.out.block _ (lt_of_heap l0)).trans l0
 have x1:w2.cell? ⟨w.heap.size,0,none⟩=some (.int .i64 0):=cell_lit l2 rfl
 have x2:w2.frozen? ⟨w.heap.size,0,none⟩=false:=frozen_lit l2 0
 have hfe:(w2.setCell ⟨w.heap.size,0,none⟩ (.int .i64 0)).cell? ⟨w.heap.size,0,none⟩=some (.int .i64 0):=cell_lit (heap_set_lit l2 _) rfl
 have HGO:=Hd ((StG.of B2 HB0.out).loc (x:=w.heap.size) (Nat.le_refl _) (fun e=>by have:=HG.out _ e;omega) 0 (.int .i64 0)).go
 clear B2 l2 l0 B0 hb RT
 go_wp2_with fail
 go_loopg [7,13] 1 (fun gg s7 s13 wr=>s7=.int .i64 (-1)/\s13=.int .i64 0/\wr=w2)
 case atStart=>exact ⟨rfl,rfl,rfl⟩
 case round =>
  obtain ⟨rfl,rfl,rfl⟩:=hrel
  go_wp2_with fail
  refine leaves_cons (f:=124) (args:=#[.pointer (some ⟨w.heap.size,0,none⟩)]) (by simp) (by simp [go_sem]) ?_
  refine (guard_idle _ _).mono ?_
  rintro e u' wa ⟨rfl,rfl,rfl⟩
  simp [Leaves,settle,results,Tryz.results115,go_sem,hfe]
  exact ⟨.inr ⟨rfl,rfl,by simp⟩,HGO⟩
theorem vals_at {w0 W:World} {G:Nat->Prop} {q:Nat} {A B:List (ByteArray × ByteArray)} {x:ByteArray × ByteArray} (h:RdN w0 W G q (.leaf (A++x::B))) :
 ∃ g o c,W.cell? ⟨q,2,none⟩=some (.slice (some ⟨g,o,none⟩) (A.length+1+B.length) c)/\W.cell? ⟨g,o+A.length,none⟩=some (.string x.2):=by
 obtain ⟨vk,vv,vi,a⟩:=h.view
 have hl:((Nd.leaf (A++x::B)).vals.map Value.string).length=A.length+1+B.length:=by simp [Nd.vals];omega
 obtain ⟨g,off,cap,rfl,hcap,hc⟩:=a.vs.lit (by simp [Nd.vals];omega)
 refine ⟨g,off,cap,?_,?_⟩
 ·have:=cell_lit (i:=2) a.blk rfl
  rw [<-hl];exact this
 ·have:=hc A.length (by simp [Nd.vals])
  rw [this];simp [Nd.vals]
theorem OneNd.rdN {w0 W W':World} {G:Nat->Prop} {p:Nat} {d:Nd} (h:OneNd W W' p d) (hs:w0.heap.size<=W.heap.size) (hG:∀ k,G k->k<W.heap.size):RdN w0 W' G p d:=by
 obtain ⟨F,a,b,c⟩:=h
 exact ⟨F,a.rdIn,fun k hk=>⟨Nat.le_trans hs (b k hk),fun e=>by have:=b k hk;have:=hG k e;omega⟩⟩
theorem OneNd.below {W W':World} {p:Nat} {d:Nd} (h:OneNd W W' p d):Below W.heap.size W W':=by obtain ⟨F,a,b,c⟩:=h;exact c
theorem Get_some (G:Nat->Prop) (tb rb place n m:Nat) (S:RS) (hh p:Nat) (t:PT hh) (key:ByteArray) (w:World) (h:RmS w G rb n m S) (ht:TB w tb rb place) (hg:¬G tb) (hp:place<16) (hm:m<=3900000) (hr:S.root place=p+1) (hT:Tr S hh p t) (hh20:hh<=19) :
 Calls Tryz.prog 115 #[.pointer (some ⟨tb,0,none⟩),.string key] w fun e w'=>∃ v ok,e=.returned (.tuple #[.string v,.bool ok,.int .i64 0])/\Got key (ents hh t) v ok/\Hid (StGo w w' G rb n m S):=by
 have hp65:p<65536:=by
  have:=h.lim p hT.on.top.1
  have:=h.bounds
  unfold pagesN at *;omega
 have hb0:Below w.heap.size w (w.alloc (.cells #[.int .i64 0] 34)):=(Below.refl _ _).alloc (Nat.le_refl _) _
 have B0:=Hd (TBase.start (h.below hb0) (ht.below hb0) hg)
 have HG:=Hd h.lt
 have RT:=root_c G tb rb place n m S _ B0.out.room B0.out.blk hp (by omega) (by rw [hr];omega)
 rw [hr,show (((p+1:Nat):Int)-1)=(p:Int) by omega] at RT
 have HB0:=Hd hb0
 have l0:Hid ((w.alloc (.cells #[.int .i64 0] 34)).heap[w.heap.size]?=some (.cells #[.int .i64 0] 34 (0,0))):=Hd (heap_alloc_new _ _)
 have HGW:Hid (¬G w.heap.size):=Hd fun e=>by have:=HG.out _ e;omega
 have HT:=Hd hT
 have HM:=Hd hm
 have HH:=Hd hh20
 have hsz0:Hid ((w.alloc (.cells #[.int .i64 0] 34)).heap.size=w.heap.size+1):=Hd (by simp)
 clear h ht hg hp hm hr hb0 hT hh20 hp65
 go_enter_defers Tryz.func115,Tryz.ntmps115
 go_wp2_with fail
 generalize w.alloc (.cells #[.int .i64 0] 34)=W0 at *
 refine RT.mono ?_
 rintro e w2 ⟨rfl,hb⟩
 have B2:=Hd (B0.out.below hb.out)
 clear hb RT
 go_wp2_with fail
 go_loopg [7,13] hh (fun gg s7 s13 wr=>∃ (h' p' c:Nat) (t':PT h'),gg=h'/\c+h'<=19/\s7=.int .i64 (p':Int)/\s13=.int .i64 (c:Int)/\Hid (TBase W0 wr G G tb rb place n m S/\Tr S h' p' t'/\∀ v ok,Got key (ents h' t') v ok->Got key (ents hh t) v ok))
 case atStart=>exact ⟨hh,p,0,t,rfl,by have:=HH.out;omega,rfl,rfl,Hd ⟨B2.out,HT.out,fun _ _ g=>g⟩⟩
 case round =>
  obtain ⟨h',p',c,t',hgk,hc19,rfl,rfl,HI⟩:=hrel
  have HGK:=Hd hgk
  clear hgk
  have hc20:(c:Int)<20:=by omega
  have hp0:¬(p':Int)<0:=by omega
  have RD:=Hd (tail_read HI.out.1 (by have:=HM.out;omega) HI.out.2.1.on HI.out.2.1.fit HI.out.2.1.ok)
  go_wp2_with fail
  refine RD.out.mono ?_
  rintro e w3 ⟨q,rfl,HO⟩
  have B3:=Hd (HI.out.1.below HO.out.below)
  have N3:Hid (RdN W0 w3 G q (nd h' t')):=Hd (HO.out.rdN HI.out.1.up.size HI.out.1.room.lt)
  have l3:Hid (w3.heap[w.heap.size]?=some (.cells #[.int .i64 0] 34 (0,0))):=Hd (B3.out.up.at l0.out HGW.out)
  obtain ⟨vk,vv,vi,hv⟩:=N3.out.view
  clear RD HO
  cases h' with
  | zero =>
    have c0:w3.cell? ⟨q,0,none⟩=some (.bool true):=cell_lit hv.blk rfl
    obtain ⟨A,B,e1,hA,hB,hor⟩:=lb_split t' key HI.out.2.1.wf.srt
    subst e1
    have hpos:0<(Nd.leaf (A++B)).len:=HI.out.2.1.pos
    have hl6:(Nd.leaf (A++B)).len<=1000000:=Nat.le_of_lt (Nat.lt_trans HI.out.2.1.ok.few (by decide))
    have hAB:∀ a∈A.map Prod.fst,kless a key=true:=fun a ha=>by obtain ⟨e,he,rfl⟩:=List.mem_map.1 ha;exact hA e he
    rcases hor with ⟨v,B',rfl,hB'⟩|hB'
    ·have FD:=find_c true q (.leaf (A++(key,v)::B')) vk vv vi (A.map Prod.fst) (key::B'.map Prod.fst) key w3 hv (by simp [Nd.keys]) hpos hl6 hAB (fun b hb=>by
      rcases List.mem_cons.1 hb with rfl|hb
      ·exact kless_irrefl _
      ·obtain ⟨e,he,rfl⟩:=List.mem_map.1 hb;exact hB e (by simp [he])) ⟨fun _=>⟨_,rfl⟩,fun _=>rfl⟩
     rw [List.length_map] at FD
     have FD2:=Hd FD
     have HGOT:=Hd (HI.out.2.2 v true (.inl ⟨rfl,by simp [ents]⟩))
     clear FD hA hB hB' hpos hl6 hAB hv hc19
     go_wp2_with fail
     refine FD2.out.mono ?_
     rintro e w4 ⟨rfl,qn,rfl⟩
     have B4:=Hd (B3.out.below (drewN_below w3 qn))
     have N4:=Hd (N3.out.below (drewN_below w3 qn))
     have l4:(w3.drewN qn).heap[w.heap.size]?=some (.cells #[.int .i64 0] 34 (0,0)):=l3.out
     generalize w3.drewN qn=w4 at *
     obtain ⟨g,o,cp,k1,k2⟩:=vals_at N4.out
     have x1:w4.cell? ⟨w.heap.size,0,none⟩=some (.int .i64 0):=cell_lit l4 rfl
     have x2:w4.frozen? ⟨w.heap.size,0,none⟩=false:=frozen_lit l4 0
     have hfe:(w4.setCell ⟨w.heap.size,0,none⟩ (.int .i64 0)).cell? ⟨w.heap.size,0,none⟩=some (.int .i64 0):=cell_lit (heap_set_lit l4 _) rfl
     have HGO:=Hd ((StG.of B4.out HB0.out).loc (x:=w.heap.size) (Nat.le_refl _) HGW.out 0 (.int .i64 0)).go
     have hlt:(A.length:Int)<((A.length+1+B'.length:Nat):Int):=by omega
     clear l4 N4 B4 N3 B3 FD2 c0
     go_wp2_with fail
     refine leaves_cons (f:=124) (args:=#[.pointer (some ⟨w.heap.size,0,none⟩)]) (by simp) (by simp [go_sem]) ?_
     refine (guard_idle _ _).mono ?_
     rintro e u' wa ⟨rfl,rfl,rfl⟩
     simp [Leaves,settle,results,Tryz.results115,go_sem,hfe]
     exact ⟨HGOT.out,HGO⟩
    ·have FD:=find_c false q (.leaf (A++B)) vk vv vi (A.map Prod.fst) (B.map Prod.fst) key w3 hv (by simp [Nd.keys]) hpos hl6 hAB (fun b hb=>by obtain ⟨e,he,rfl⟩:=List.mem_map.1 hb;exact hB e he) ⟨(fun e=>by cases e),(fun ⟨B',e⟩=>by
      have hm:key∈B.map Prod.fst:=by rw [e];simp
      obtain ⟨e',he,he2⟩:=List.mem_map.1 hm
      have:=hB' e' he
      rw [he2,kless_irrefl] at this;cases this)⟩
     rw [List.length_map] at FD
     have FD2:=Hd FD
     have HGOT:=Hd (HI.out.2.2 ⟨#[]⟩ false (.inr ⟨rfl,rfl,fun e he=>by
      rcases List.mem_append.1 (show e∈A++B from he) with he|he
      ·exact kless_ne (hA e he)
      ·exact fun e'=>kless_ne (hB' e he) e'.symm⟩))
     clear FD hA hB hB' hpos hl6 hAB hv hc19
     go_wp2_with fail
     refine FD2.out.mono ?_
     rintro e w4 ⟨rfl,qn,rfl⟩
     have B4:=Hd (B3.out.below (drewN_below w3 qn))
     have l4:(w3.drewN qn).heap[w.heap.size]?=some (.cells #[.int .i64 0] 34 (0,0)):=l3.out
     generalize w3.drewN qn=w4 at *
     have x1:w4.cell? ⟨w.heap.size,0,none⟩=some (.int .i64 0):=cell_lit l4 rfl
     have x2:w4.frozen? ⟨w.heap.size,0,none⟩=false:=frozen_lit l4 0
     have hfe:(w4.setCell ⟨w.heap.size,0,none⟩ (.int .i64 0)).cell? ⟨w.heap.size,0,none⟩=some (.int .i64 0):=cell_lit (heap_set_lit l4 _) rfl
     have HGO:=Hd ((StG.of B4.out HB0.out).loc (x:=w.heap.size) (Nat.le_refl _) HGW.out 0 (.int .i64 0)).go
     clear l4 B4 N3 B3 FD2 c0
     go_wp2_with fail
     refine leaves_cons (f:=124) (args:=#[.pointer (some ⟨w.heap.size,0,none⟩)]) (by simp) (by simp [go_sem]) ?_
     refine (guard_idle _ _).mono ?_
     rintro e u' wa ⟨rfl,rfl,rfl⟩
     simp [Leaves,settle,results,Tryz.results115,go_sem,hfe]
     exact ⟨HGOT.out,HGO⟩
  | succ h2 =>
    have c0:w3.cell? ⟨q,0,none⟩=some (.bool false):=cell_lit hv.blk rfl
    have hpos:=HI.out.2.1.pos
    rw [nd_lenS] at hpos
    have hwf:=HI.out.2.1.wf
    obtain ⟨A,x,B,e1,hW,hA⟩:=way_split t' key (hwf.2.keys fun x hx=>ents_pos (hwf.1 x hx).2.2.2.2 (hwf.1 x hx).2.2.1) hpos
    subst e1
    have hN3:=N3.out
    rw [show nd (h2+1) (A++x::B:List (Kid h2))=.inner (A.map (fun x:Kid h2=>(x.1,x.2.1))++(x.1,x.2.1)::B.map (fun x:Kid h2=>(x.1,x.2.1))) by simp [nd]] at hN3
    obtain ⟨g3,off,cap3,k1,k2⟩:=kids_at hN3
    rw [List.length_map,List.length_map] at k1
    rw [List.length_map] at k2
    have hlt:(A.length:Int)<((A.length+1+B.length:Nat):Int):=by omega
    have hd:=(Below.refl w3.heap.size w3).drew
    have WN:Hid (Calls Tryz.prog 166 #[.pointer (some ⟨q,0,none⟩),.string key] w3.drew fun e w'=>e=.returned (.int .i64 (A.length:Nat))/\(w'.cell? ⟨q,3,none⟩=some (.slice (some ⟨g3,off,none⟩) (A.length+1+B.length) cap3)/\w'.cell? ⟨g3,off+A.length,none⟩=some (.int .i64 (x.2.1:Int)))/\Hid (Below w3.heap.size w3 w')):=Hd (by
     refine (way_nd (N3.out.below hd) (Nat.le_of_lt (Nat.lt_trans HI.out.2.1.ok.few (by decide))) hW hA).mono ?_
     rintro e w' ⟨rfl,hb⟩
     have hb':Below w3.heap.size w3 w':=hd.trans hb.out
     exact ⟨rfl,⟨(World.cell?_of_block (hb'.block _ (World.block_lt_of_cell? _ _ k1))).trans k1,(World.cell?_of_block (hb'.block _ (World.block_lt_of_cell? _ _ k2))).trans k2⟩,hb'⟩)
    have HW:=Hd hW
    generalize A.length+1+B.length=NN at *
    clear hN3 hv hwf hpos hA hW hd
    go_wp2_with fail
    go_region_held3 (fun w'=>w'.cell? ⟨q,3,none⟩=some (.slice (some ⟨g3,off,none⟩) NN cap3)/\w'.cell? ⟨g3,off+A.length,none⟩=some (.int .i64 (x.2.1:Int))) (go_keep) ((go_at_call 166;refine Calls.at_args WN.out (by with_reducible rfl) ?_;rintro e w4 ⟨rfl,hkk,HB4⟩))
    all_goals (
     go_wp2_with fail
     go_roundg h2)
    all_goals (first
     | (case measure=>have:=HGK.out;omega)
     | (case rel=>exact ⟨h2,x.2.1,c+1,x.2.2,rfl,by omega,rfl,by congr 1,Hd ⟨B3.out.below HB4.out,HI.out.2.1.kid (by simp),fun v ok g=>HI.out.2.2 v ok (g.lift HI.out.2.1.wf.2 HW.out)⟩⟩))
def sRun (tt:ByteArray) (limit:Nat):List (ByteArray × ByteArray)->List (ByteArray × ByteArray)->List (ByteArray × ByteArray) × Bool
 | [],L=>(L,true)
 | e::r,L=>if L.length=limit\/(tt.size≠0/\kless e.1 tt=false) then (L,false) else sRun tt limit r (L++[e])
theorem sRun_cons (tt:ByteArray) (limit:Nat) (e:ByteArray × ByteArray) (r L:List (ByteArray × ByteArray)):sRun tt limit (e::r) L=if L.length=limit\/(tt.size≠0/\kless e.1 tt=false) then (L,false) else sRun tt limit r (L++[e]):=rfl
theorem sRun_true {tt:ByteArray} {limit:Nat} {F1 F2 L L1:List (ByteArray × ByteArray)} (h:sRun tt limit F1 L=(L1,true)):sRun tt limit (F1++F2) L=sRun tt limit F2 L1:=by
 induction F1 generalizing L with
 | nil=>cases h;rfl
 | cons e r ih =>
   rw [List.cons_append,sRun_cons]
   rw [sRun_cons] at h
   by_cases hc:L.length=limit\/(tt.size≠0/\kless e.1 tt=false)
   ·rw [if_pos hc] at h;cases h
   ·rw [if_neg hc] at h ⊢;exact ih h
theorem sRun_false {tt:ByteArray} {limit:Nat} {F1 F2 L L1:List (ByteArray × ByteArray)} (h:sRun tt limit F1 L=(L1,false)):sRun tt limit (F1++F2) L=(L1,false):=by
 induction F1 generalizing L with
 | nil=>cases h
 | cons e r ih =>
   rw [List.cons_append,sRun_cons]
   rw [sRun_cons] at h
   by_cases hc:L.length=limit\/(tt.size≠0/\kless e.1 tt=false)
   ·rw [if_pos hc] at h ⊢;exact h
   ·rw [if_neg hc] at h ⊢;exact ih h
theorem sRun_len {tt:ByteArray} {limit:Nat} {F L L1:List (ByteArray × ByteArray)} {ok:Bool} (h:sRun tt limit F L=(L1,ok)):L1.length<=L.length+F.length:=by
 induction F generalizing L with
 | nil=>cases h;simp
 | cons e r ih =>
   rw [sRun_cons] at h
   by_cases hc:L.length=limit\/(tt.size≠0/\kless e.1 tt=false)
   ·rw [if_pos hc] at h;cases h;simp
   ·rw [if_neg hc] at h;have:=ih h;simp at this ⊢;omega
def from_ (key:ByteArray) (E:List (ByteArray × ByteArray)):List (ByteArray × ByteArray):=E.filter fun e=>!kless e.1 key
theorem from_none {key:ByteArray} {E:List (ByteArray × ByteArray)} (h:∀ e∈E,kless e.1 key=true):from_ key E=[]:=by
 unfold from_
 rw [List.filter_eq_nil_iff]
 intro e he;simp [h e he]
theorem from_all {key:ByteArray} {E:List (ByteArray × ByteArray)} (h:∀ e∈E,kless e.1 key=false):from_ key E=E:=by
 unfold from_
 rw [List.filter_eq_self]
 intro e he;simp [h e he]
theorem from_app (key:ByteArray) (A B:List (ByteArray × ByteArray)):from_ key (A++B)=from_ key A++from_ key B:=by simp [from_]
def pairC (L:List (ByteArray × ByteArray)):List Value:=L.flatMap fun e=>[.string e.1,.string e.2]
theorem pairC_snoc (L:List (ByteArray × ByteArray)) (e:ByteArray × ByteArray):pairC (L++[e])=pairC L++[.string e.1,.string e.2]:=by simp [pairC]
structure Acc (base:Nat) (W:World) (lb:Nat) (L:List (ByteArray × ByteArray)) (v:Value):Prop where
 blk:W.heap[lb]?=some (.cells #[v] 166 (0,0))
 row:W.ownsRow base 170 2 v L.length (pairC L)
 ne:v.ownBlock≠some lb
 few:L.length<=40000000
structure AccGo (base:Nat) (W W':World) (lb:Nat) (v:Value) (L':List (ByteArray × ByteArray)):Prop where
 acc:∃ v',Acc base W' lb L' v'/\∀ k,v'.ownBlock=some k->v.ownBlock=some k\/W.heap.size<=k
 up:Upd (fun k=>k=lb\/v.ownBlock=some k) W W'
theorem ownsRow_of2 {w w':World} {base:Nat} {e:TypeId} {s:Nat} {v:Value} {n:Nat} {xs:List Value} (h:w.ownsRow base e s v n xs) (hk:∀ k,v.ownBlock=some k->w'.heap[k]?=w.heap[k]?):w'.ownsRow base e s v n xs:=by
 refine ⟨h.1,?_⟩
 rcases h.2 with hn|⟨g,cap,cur,rfl,hb,hg,rest⟩
 ·exact .inl hn
 ·exact .inr ⟨g,cap,cur,rfl,hb,(hk g rfl).trans hg,rest⟩
theorem Acc.below {base:Nat} {W W':World} {lb:Nat} {L:List (ByteArray × ByteArray)} {v:Value} (h:Acc base W lb L v) (hb:Below W.heap.size W W'):Acc base W' lb L v :=
 ⟨(hb.block lb (lt_of_heap h.blk)).trans h.blk,ownsRow_of2 h.row fun k e=>hb.block k (h.row.lt k e).2,h.ne,h.few⟩
theorem AccGo.trans {base:Nat} {W W1 W2:World} {lb:Nat} {L2:List (ByteArray × ByteArray)} {v v1:Value} (hu:Upd (fun k=>k=lb\/v.ownBlock=some k) W W1) (hn:∀ k,v1.ownBlock=some k->v.ownBlock=some k\/W.heap.size<=k) (h:AccGo base W1 W2 lb v1 L2):AccGo base W W2 lb v L2:=by
 obtain ⟨⟨v2,a,b⟩,c⟩:=h
 refine ⟨⟨v2,a,fun k hk=>?_⟩,hu.trans' c fun j hj e=>?_⟩
 ·rcases b k hk with e|e
  ·exact hn k e
  ·have:=hu.size;exact .inr (by omega)
 ·rcases e with e|e
  ·exact .inl e
  ·exact .inr ((hn j e).resolve_right (by omega))
theorem AccGo.below_left {base:Nat} {W W1 W2:World} {lb:Nat} {L2:List (ByteArray × ByteArray)} {v:Value} (hb:Below W.heap.size W W1) (h:AccGo base W1 W2 lb v L2):AccGo base W W2 lb v L2 :=
 AccGo.trans ((hb.upd' (Nat.le_refl _)).mono fun _ _ e=>False.elim e) (fun k e=>.inl e) h
theorem TBase.acc {w0 W W':World} {G0 G:Nat->Prop} {tb rb place n m:Nat} {S:RS} (h:TBase w0 W G0 G tb rb place n m S) {lb base:Nat} {v:Value} {L L':List (ByteArray × ByteArray)} (ha:Acc base W lb L v) (hl:w0.heap.size<=lb) (hb:w0.heap.size<=base) (hG:∀ k,G k->k<w0.heap.size) (hg:AccGo base W W' lb v L'):TBase w0 W' G0 G tb rb place n m S:=by
 refine h.node hg.up fun k hk=>?_
 rcases hk with e|e
 ·exact ⟨by omega,fun e'=>by have:=hG k e';omega⟩
 ·have:=(ha.row.lt k e).1
  exact ⟨by omega,fun e'=>by have:=hG k e';omega⟩
theorem acc_push {base:Nat} {wr Wb W5:World} {lb:Nat} {Lj:List (ByteArray × ByteArray)} {vj v':Value} {e:ByteArray × ByteArray} (ha:Acc base wr lb Lj vj) (hb:Below wr.heap.size wr Wb) (ho:W5.ownsRow base 170 2 v' (Lj.length+1) (pairC Lj++[.string e.1,.string e.2])) (hg:Wb.grownBy W5 vj.ownBlock) (hv:v'.ownBlock=vj.ownBlock\/v'.ownBlock=some Wb.heap.size) (hf:Lj.length+1<=40000000) :
 (W5.cell? ⟨lb,0,none⟩=some vj/\W5.frozen? ⟨lb,0,none⟩=false)/\Acc base (W5.setCell ⟨lb,0,none⟩ v') lb (Lj++[e]) v'/\(∀ k,v'.ownBlock=some k->vj.ownBlock=some k\/wr.heap.size<=k)/\Upd (fun k=>k=lb\/vj.ownBlock=some k) wr (W5.setCell ⟨lb,0,none⟩ v'):=by
 have hA:=ha.below hb
 have hu:Upd (fun k=>vj.ownBlock=some k) Wb W5:=(Upd.refl _ _).grown hg fun k e=>.inl e
 have h5:=hu.at hA.blk ha.ne
 have hs:=hb.size
 have hlt:=lt_of_heap ha.blk
 have hne:v'.ownBlock≠some lb:=fun e=>by
  rcases hv with h|h
  ·exact ha.ne (by rw [<-h];exact e)
  ·rw [h] at e;cases e;omega
 refine ⟨⟨cell_lit h5 rfl,frozen_lit h5 0⟩,⟨heap_set_lit h5 v',?_,hne,by simp;omega⟩,fun k hk=>?_,?_⟩
 ·rw [pairC_snoc,List.length_append]
  exact ownsRow_of2 ho fun k hk=>heap_set_ne _ fun e=>hne (by rw [<-e];exact hk)
 ·rcases hv with h|h
  ·exact .inl (by rw [<-h];exact hk)
  ·rw [h] at hk;cases hk;exact .inr hs
 ·have u1:Upd (fun k=>k=lb\/vj.ownBlock=some k) wr Wb:=(hb.upd' (Nat.le_refl _)).mono fun _ _ e=>False.elim e
  exact (u1.trans (hu.mono fun k _ e=>.inr e)).setCell (p:=⟨lb,0,none⟩) (.inl (.inl rfl)) v'
set_option maxHeartbeats 2000000
set_option maxHeartbeats 1000000
def rotr (x k:Nat):Nat:=(x*2 ^ (32-k))%4294967296+x / 2 ^ k
theorem rot_or (x k:Nat) (h1:1<=k) (h2:k<=31) (hx:x<4294967296):((x*2 ^ (32-k))%4294967296) ||| (x / 2 ^ k)=rotr x k:=by
 have e:(4294967296:Nat)=2 ^ k*2 ^ (32-k):=by rw [<-Nat.pow_add,show k+(32-k)=32 by omega]
 have h3:(x*2 ^ (32-k))%4294967296=(x%2 ^ k) <<< (32-k):=by
  rw [e,Nat.mul_mod_mul_right,Nat.shiftLeft_eq]
 have h4:x / 2 ^ k<2 ^ (32-k):=by
  rw [Nat.div_lt_iff_lt_mul (Nat.two_pow_pos k),Nat.mul_comm,<-e];exact hx
 unfold rotr
 rw [h3,<-Nat.shiftLeft_add_eq_or_of_lt h4]
theorem rot_lt (x k:Nat) (h1:1<=k) (h2:k<=31) (hx:x<4294967296):rotr x k<4294967296:=by
 rw [<-rot_or x k h1 h2 hx]
 exact Nat.or_lt_two_pow (n:=32) (Nat.mod_lt _ (by decide)) (Nat.lt_of_le_of_lt (Nat.div_le_self _ _) hx)
theorem rotl_2 (x:Nat) (w:World) (hx:x<4294967296):Calls Tryz.prog 252 #[.int .u32 (x:Int),.int .i64 (-2)] w fun e w'=>e=.returned (.int .u32 (rotr x 2:Int))/\w=w':=by
 have a1:bits .and .u64 (IntKind.u64.wrap (-2)) 31=30:=by decide
 have hv:=u32_or_nat ((x*1073741824)%4294967296) (x / 4) (by omega) (by omega)
 have hr:Hid ((x*1073741824)%4294967296 ||| (x / 4)=rotr x 2):=Hd (rot_or x 2 (by decide) (by decide) hx)
 rw [show (((x*1073741824)%4294967296:Nat):Int)=(x:Int)*1073741824%4294967296 from rfl,show ((x / 4:Nat):Int)=(x:Int) / 4 from rfl,hr.out] at hv
 clear hr
 generalize rotr x 2=R at *
 go_enter Tryz.func252,Tryz.ntmps252
 go_wp2_with fail
 go_ret
 exact ⟨rfl,rfl⟩
theorem rotl_6 (x:Nat) (w:World) (hx:x<4294967296):Calls Tryz.prog 252 #[.int .u32 (x:Int),.int .i64 (-6)] w fun e w'=>e=.returned (.int .u32 (rotr x 6:Int))/\w=w':=by
 have a1:bits .and .u64 (IntKind.u64.wrap (-6)) 31=26:=by decide
 have hv:=u32_or_nat ((x*67108864)%4294967296) (x / 64) (by omega) (by omega)
 have hr:Hid ((x*67108864)%4294967296 ||| (x / 64)=rotr x 6):=Hd (rot_or x 6 (by decide) (by decide) hx)
 rw [show (((x*67108864)%4294967296:Nat):Int)=(x:Int)*67108864%4294967296 from rfl,show ((x / 64:Nat):Int)=(x:Int) / 64 from rfl,hr.out] at hv
 clear hr
 generalize rotr x 6=R at *
 go_enter Tryz.func252,Tryz.ntmps252
 go_wp2_with fail
 go_ret
 exact ⟨rfl,rfl⟩
theorem rotl_7 (x:Nat) (w:World) (hx:x<4294967296):Calls Tryz.prog 252 #[.int .u32 (x:Int),.int .i64 (-7)] w fun e w'=>e=.returned (.int .u32 (rotr x 7:Int))/\w=w':=by
 have a1:bits .and .u64 (IntKind.u64.wrap (-7)) 31=25:=by decide
 have hv:=u32_or_nat ((x*33554432)%4294967296) (x / 128) (by omega) (by omega)
 have hr:Hid ((x*33554432)%4294967296 ||| (x / 128)=rotr x 7):=Hd (rot_or x 7 (by decide) (by decide) hx)
 rw [show (((x*33554432)%4294967296:Nat):Int)=(x:Int)*33554432%4294967296 from rfl,show ((x / 128:Nat):Int)=(x:Int) / 128 from rfl,hr.out] at hv
 clear hr
 generalize rotr x 7=R at *
 go_enter Tryz.func252,Tryz.ntmps252
 go_wp2_with fail
 go_ret
 exact ⟨rfl,rfl⟩
theorem rotl_11 (x:Nat) (w:World) (hx:x<4294967296):Calls Tryz.prog 252 #[.int .u32 (x:Int),.int .i64 (-11)] w fun e w'=>e=.returned (.int .u32 (rotr x 11:Int))/\w=w':=by
 have a1:bits .and .u64 (IntKind.u64.wrap (-11)) 31=21:=by decide
 have hv:=u32_or_nat ((x*2097152)%4294967296) (x / 2048) (by omega) (by omega)
 have hr:Hid ((x*2097152)%4294967296 ||| (x / 2048)=rotr x 11):=Hd (rot_or x 11 (by decide) (by decide) hx)
 rw [show (((x*2097152)%4294967296:Nat):Int)=(x:Int)*2097152%4294967296 from rfl,show ((x / 2048:Nat):Int)=(x:Int) / 2048 from rfl,hr.out] at hv
 clear hr
 generalize rotr x 11=R at *
 go_enter Tryz.func252,Tryz.ntmps252
 go_wp2_with fail
 go_ret
 exact ⟨rfl,rfl⟩
theorem rotl_13 (x:Nat) (w:World) (hx:x<4294967296):Calls Tryz.prog 252 #[.int .u32 (x:Int),.int .i64 (-13)] w fun e w'=>e=.returned (.int .u32 (rotr x 13:Int))/\w=w':=by
 have a1:bits .and .u64 (IntKind.u64.wrap (-13)) 31=19:=by decide
 have hv:=u32_or_nat ((x*524288)%4294967296) (x / 8192) (by omega) (by omega)
 have hr:Hid ((x*524288)%4294967296 ||| (x / 8192)=rotr x 13):=Hd (rot_or x 13 (by decide) (by decide) hx)
 rw [show (((x*524288)%4294967296:Nat):Int)=(x:Int)*524288%4294967296 from rfl,show ((x / 8192:Nat):Int)=(x:Int) / 8192 from rfl,hr.out] at hv
 clear hr
 generalize rotr x 13=R at *
 go_enter Tryz.func252,Tryz.ntmps252
 go_wp2_with fail
 go_ret
 exact ⟨rfl,rfl⟩
theorem rotl_17 (x:Nat) (w:World) (hx:x<4294967296):Calls Tryz.prog 252 #[.int .u32 (x:Int),.int .i64 (-17)] w fun e w'=>e=.returned (.int .u32 (rotr x 17:Int))/\w=w':=by
 have a1:bits .and .u64 (IntKind.u64.wrap (-17)) 31=15:=by decide
 have hv:=u32_or_nat ((x*32768)%4294967296) (x / 131072) (by omega) (by omega)
 have hr:Hid ((x*32768)%4294967296 ||| (x / 131072)=rotr x 17):=Hd (rot_or x 17 (by decide) (by decide) hx)
 rw [show (((x*32768)%4294967296:Nat):Int)=(x:Int)*32768%4294967296 from rfl,show ((x / 131072:Nat):Int)=(x:Int) / 131072 from rfl,hr.out] at hv
 clear hr
 generalize rotr x 17=R at *
 go_enter Tryz.func252,Tryz.ntmps252
 go_wp2_with fail
 go_ret
 exact ⟨rfl,rfl⟩
theorem rotl_18 (x:Nat) (w:World) (hx:x<4294967296):Calls Tryz.prog 252 #[.int .u32 (x:Int),.int .i64 (-18)] w fun e w'=>e=.returned (.int .u32 (rotr x 18:Int))/\w=w':=by
 have a1:bits .and .u64 (IntKind.u64.wrap (-18)) 31=14:=by decide
 have hv:=u32_or_nat ((x*16384)%4294967296) (x / 262144) (by omega) (by omega)
 have hr:Hid ((x*16384)%4294967296 ||| (x / 262144)=rotr x 18):=Hd (rot_or x 18 (by decide) (by decide) hx)
 rw [show (((x*16384)%4294967296:Nat):Int)=(x:Int)*16384%4294967296 from rfl,show ((x / 262144:Nat):Int)=(x:Int) / 262144 from rfl,hr.out] at hv
 clear hr
 generalize rotr x 18=R at *
 go_enter Tryz.func252,Tryz.ntmps252
 go_wp2_with fail
 go_ret
 exact ⟨rfl,rfl⟩
theorem rotl_19 (x:Nat) (w:World) (hx:x<4294967296):Calls Tryz.prog 252 #[.int .u32 (x:Int),.int .i64 (-19)] w fun e w'=>e=.returned (.int .u32 (rotr x 19:Int))/\w=w':=by
 have a1:bits .and .u64 (IntKind.u64.wrap (-19)) 31=13:=by decide
 have hv:=u32_or_nat ((x*8192)%4294967296) (x / 524288) (by omega) (by omega)
 have hr:Hid ((x*8192)%4294967296 ||| (x / 524288)=rotr x 19):=Hd (rot_or x 19 (by decide) (by decide) hx)
 rw [show (((x*8192)%4294967296:Nat):Int)=(x:Int)*8192%4294967296 from rfl,show ((x / 524288:Nat):Int)=(x:Int) / 524288 from rfl,hr.out] at hv
 clear hr
 generalize rotr x 19=R at *
 go_enter Tryz.func252,Tryz.ntmps252
 go_wp2_with fail
 go_ret
 exact ⟨rfl,rfl⟩
theorem rotl_22 (x:Nat) (w:World) (hx:x<4294967296):Calls Tryz.prog 252 #[.int .u32 (x:Int),.int .i64 (-22)] w fun e w'=>e=.returned (.int .u32 (rotr x 22:Int))/\w=w':=by
 have a1:bits .and .u64 (IntKind.u64.wrap (-22)) 31=10:=by decide
 have hv:=u32_or_nat ((x*1024)%4294967296) (x / 4194304) (by omega) (by omega)
 have hr:Hid ((x*1024)%4294967296 ||| (x / 4194304)=rotr x 22):=Hd (rot_or x 22 (by decide) (by decide) hx)
 rw [show (((x*1024)%4294967296:Nat):Int)=(x:Int)*1024%4294967296 from rfl,show ((x / 4194304:Nat):Int)=(x:Int) / 4194304 from rfl,hr.out] at hv
 clear hr
 generalize rotr x 22=R at *
 go_enter Tryz.func252,Tryz.ntmps252
 go_wp2_with fail
 go_ret
 exact ⟨rfl,rfl⟩
theorem rotl_25 (x:Nat) (w:World) (hx:x<4294967296):Calls Tryz.prog 252 #[.int .u32 (x:Int),.int .i64 (-25)] w fun e w'=>e=.returned (.int .u32 (rotr x 25:Int))/\w=w':=by
 have a1:bits .and .u64 (IntKind.u64.wrap (-25)) 31=7:=by decide
 have hv:=u32_or_nat ((x*128)%4294967296) (x / 33554432) (by omega) (by omega)
 have hr:Hid ((x*128)%4294967296 ||| (x / 33554432)=rotr x 25):=Hd (rot_or x 25 (by decide) (by decide) hx)
 rw [show (((x*128)%4294967296:Nat):Int)=(x:Int)*128%4294967296 from rfl,show ((x / 33554432:Nat):Int)=(x:Int) / 33554432 from rfl,hr.out] at hv
 clear hr
 generalize rotr x 25=R at *
 go_enter Tryz.func252,Tryz.ntmps252
 go_wp2_with fail
 go_ret
 exact ⟨rfl,rfl⟩
def great (x a b c:Nat):Nat:=(rotr x a ^^^ rotr x b) ^^^ rotr x c
def small (x a b c:Nat):Nat:=(rotr x a ^^^ rotr x b) ^^^ (x / 2 ^ c)
theorem xor_lt {x y:Nat} (hx:x<4294967296) (hy:y<4294967296):x ^^^ y<4294967296:=Nat.xor_lt_two_pow (n:=32) hx hy
theorem great_lt (x a b c:Nat) (ha:1<=a/\a<=31) (hb:1<=b/\b<=31) (hc:1<=c/\c<=31) (hx:x<4294967296):great x a b c<4294967296 :=
 xor_lt (xor_lt (rot_lt x a ha.1 ha.2 hx) (rot_lt x b hb.1 hb.2 hx)) (rot_lt x c hc.1 hc.2 hx)
theorem small_lt (x a b c:Nat) (ha:1<=a/\a<=31) (hb:1<=b/\b<=31) (hx:x<4294967296):small x a b c<4294967296 :=
 xor_lt (xor_lt (rot_lt x a ha.1 ha.2 hx) (rot_lt x b hb.1 hb.2 hx)) (Nat.lt_of_le_of_lt (Nat.div_le_self _ _) hx)
theorem turned_6 (x:Nat) (w:World) (hx:x<4294967296):Calls Tryz.prog 208 #[.int .u32 (x:Int),.int .i64 6,.int .i64 11,.int .i64 25] w fun e w'=>e=.returned (.int .u32 (great x 6 11 25:Int))/\w=w':=by
 have A1:=fun W=>rotl_6 x W hx
 have A2:=fun W=>rotl_11 x W hx
 have A3:=fun W=>rotl_25 x W hx
 have l1:=rot_lt x 6 (by decide) (by decide) hx
 have l2:=rot_lt x 11 (by decide) (by decide) hx
 have l3:=rot_lt x 25 (by decide) (by decide) hx
 have v1:=u32_xor_nat _ _ l1 l2
 have v2:=u32_xor_nat _ _ (xor_lt l1 l2) l3
 have HE:Hid (great x 6 11 25=(rotr x 6 ^^^ rotr x 11) ^^^ rotr x 25):=Hd rfl
 generalize great x 6 11 25=R at *
 generalize rotr x 6 ^^^ rotr x 11=z at *
 generalize rotr x 6=y1 at *
 generalize rotr x 11=y2 at *
 generalize rotr x 25=y3 at *
 clear l1 l2 l3
 go_enter Tryz.func208,Tryz.ntmps208
 go_wp2_with fail
 refine (A1 _).mono ?_
 rintro e w1 ⟨rfl,rfl⟩
 go_wp2_with fail
 refine (A2 _).mono ?_
 rintro e w1 ⟨rfl,rfl⟩
 go_wp2_with fail
 refine (A3 _).mono ?_
 rintro e w1 ⟨rfl,rfl⟩
 go_wp2_with fail
 go_ret
 exact ⟨by rw [HE.out];rfl,rfl⟩
theorem turned_2 (x:Nat) (w:World) (hx:x<4294967296):Calls Tryz.prog 208 #[.int .u32 (x:Int),.int .i64 2,.int .i64 13,.int .i64 22] w fun e w'=>e=.returned (.int .u32 (great x 2 13 22:Int))/\w=w':=by
 have A1:=fun W=>rotl_2 x W hx
 have A2:=fun W=>rotl_13 x W hx
 have A3:=fun W=>rotl_22 x W hx
 have l1:=rot_lt x 2 (by decide) (by decide) hx
 have l2:=rot_lt x 13 (by decide) (by decide) hx
 have l3:=rot_lt x 22 (by decide) (by decide) hx
 have v1:=u32_xor_nat _ _ l1 l2
 have v2:=u32_xor_nat _ _ (xor_lt l1 l2) l3
 have HE:Hid (great x 2 13 22=(rotr x 2 ^^^ rotr x 13) ^^^ rotr x 22):=Hd rfl
 generalize great x 2 13 22=R at *
 generalize rotr x 2 ^^^ rotr x 13=z at *
 generalize rotr x 2=y1 at *
 generalize rotr x 13=y2 at *
 generalize rotr x 22=y3 at *
 clear l1 l2 l3
 go_enter Tryz.func208,Tryz.ntmps208
 go_wp2_with fail
 refine (A1 _).mono ?_
 rintro e w1 ⟨rfl,rfl⟩
 go_wp2_with fail
 refine (A2 _).mono ?_
 rintro e w1 ⟨rfl,rfl⟩
 go_wp2_with fail
 refine (A3 _).mono ?_
 rintro e w1 ⟨rfl,rfl⟩
 go_wp2_with fail
 go_ret
 exact ⟨by rw [HE.out];rfl,rfl⟩
theorem spread_7 (x:Nat) (w:World) (hx:x<4294967296):Calls Tryz.prog 251 #[.int .u32 (x:Int),.int .i64 7,.int .i64 18,.int .i64 3] w fun e w'=>e=.returned (.int .u32 (small x 7 18 3:Int))/\∃ n,w'=w.drewN n:=by
 have A1:=fun W=>rotl_7 x W hx
 have A2:=fun W=>rotl_18 x W hx
 have l1:=rot_lt x 7 (by decide) (by decide) hx
 have l2:=rot_lt x 18 (by decide) (by decide) hx
 have v1:=u32_xor_nat _ _ l1 l2
 have v2:=u32_xor_nat _ (x / 8) (xor_lt l1 l2) (by omega)
 rw [show ((x / 8:Nat):Int)=(x:Int) / 8 from rfl] at v2
 have HE:Hid (small x 7 18 3=(rotr x 7 ^^^ rotr x 18) ^^^ (x / 8)):=Hd rfl
 have Q1:=fun W=>(A1 W).mono (fun _ _ (h:_/\_)=>(⟨h.1,h.2.symm⟩:_/\_))
 have Q2:=fun W=>(A2 W).mono (fun _ _ (h:_/\_)=>(⟨h.1,h.2.symm⟩:_/\_))
 clear A1 A2
 generalize small x 7 18 3=R at *
 generalize rotr x 7 ^^^ rotr x 18=z at *
 generalize rotr x 7=y1 at *
 generalize rotr x 18=y2 at *
 clear l1 l2
 go_enter Tryz.func251,Tryz.ntmps251
 go_wp2_with fail
 go_quiet ((first
  | (go_at_call 252;with_reducible exact Calls.quiet_of_same (Q1 _))
  | (go_at_call 252;with_reducible exact Calls.quiet_of_same (Q2 _))))
 go_wp2_with fail
 go_ret
 exact ⟨by rw [HE.out];rfl,_,rfl⟩
theorem spread_17 (x:Nat) (w:World) (hx:x<4294967296):Calls Tryz.prog 251 #[.int .u32 (x:Int),.int .i64 17,.int .i64 19,.int .i64 10] w fun e w'=>e=.returned (.int .u32 (small x 17 19 10:Int))/\∃ n,w'=w.drewN n:=by
 have A1:=fun W=>rotl_17 x W hx
 have A2:=fun W=>rotl_19 x W hx
 have l1:=rot_lt x 17 (by decide) (by decide) hx
 have l2:=rot_lt x 19 (by decide) (by decide) hx
 have v1:=u32_xor_nat _ _ l1 l2
 have v2:=u32_xor_nat _ (x / 1024) (xor_lt l1 l2) (by omega)
 rw [show ((x / 1024:Nat):Int)=(x:Int) / 1024 from rfl] at v2
 have HE:Hid (small x 17 19 10=(rotr x 17 ^^^ rotr x 19) ^^^ (x / 1024)):=Hd rfl
 have Q1:=fun W=>(A1 W).mono (fun _ _ (h:_/\_)=>(⟨h.1,h.2.symm⟩:_/\_))
 have Q2:=fun W=>(A2 W).mono (fun _ _ (h:_/\_)=>(⟨h.1,h.2.symm⟩:_/\_))
 clear A1 A2
 generalize small x 17 19 10=R at *
 generalize rotr x 17 ^^^ rotr x 19=z at *
 generalize rotr x 17=y1 at *
 generalize rotr x 19=y2 at *
 clear l1 l2
 go_enter Tryz.func251,Tryz.ntmps251
 go_wp2_with fail
 go_quiet ((first
  | (go_at_call 252;with_reducible exact Calls.quiet_of_same (Q1 _))
  | (go_at_call 252;with_reducible exact Calls.quiet_of_same (Q2 _))))
 go_wp2_with fail
 go_ret
 exact ⟨by rw [HE.out];rfl,_,rfl⟩
def cubesL:List Nat:=[4794697085070296209,13096744586791213989,4131703405765792241,10538285296827260629,15566598207151758081,2608012711741390275,8268148720858477054,11230858888332702068,16472876343709550470,1135362055407968716,3308224257782482090,6679025011744409818,10970295157772109421,12683024718762704839,14330467156182405447,489312709404862823,2861767655337697592,5560940570391088403,7280758554198936251,9350256978237205637,11727347735703742027,14000437183109681571,15101387698198873636,17586052440550711408,1847814047869135880,2830643534987574453,4115178123771292234,6601373596217405427,8399075790807196527,9568029438005150216,10430055239000288491,13761210420988836082]
theorem cubes_at (i:Nat) (h:i<32) (w:World):(Instr.index 350 (.agg #[.int .u64 4794697085070296209,.int .u64 13096744586791213989,.int .u64 4131703405765792241,.int .u64 10538285296827260629,.int .u64 15566598207151758081,.int .u64 2608012711741390275,.int .u64 8268148720858477054,.int .u64 11230858888332702068,.int .u64 16472876343709550470,.int .u64 1135362055407968716,.int .u64 3308224257782482090,.int .u64 6679025011744409818,.int .u64 10970295157772109421,.int .u64 12683024718762704839,.int .u64 14330467156182405447,.int .u64 489312709404862823,.int .u64 2861767655337697592,.int .u64 5560940570391088403,.int .u64 7280758554198936251,.int .u64 9350256978237205637,.int .u64 11727347735703742027,.int .u64 14000437183109681571,.int .u64 15101387698198873636,.int .u64 17586052440550711408,.int .u64 1847814047869135880,.int .u64 2830643534987574453,.int .u64 4115178123771292234,.int .u64 6601373596217405427,.int .u64 8399075790807196527,.int .u64 9568029438005150216,.int .u64 10430055239000288491,.int .u64 13761210420988836082]) (.int .i64 (i:Int))).run Tryz.prog w=.ok (.int .u64 (cubesL.getD i 0:Nat)) w:=by
 have:i=0\/i=1\/i=2\/i=3\/i=4\/i=5\/i=6\/i=7\/i=8\/i=9\/i=10\/i=11\/i=12\/i=13\/i=14\/i=15\/i=16\/i=17\/i=18\/i=19\/i=20\/i=21\/i=22\/i=23\/i=24\/i=25\/i=26\/i=27\/i=28\/i=29\/i=30\/i=31:=by omega
 rcases this with rfl|rfl|rfl|rfl|rfl|rfl|rfl|rfl|rfl|rfl|rfl|rfl|rfl|rfl|rfl|rfl|rfl|rfl|rfl|rfl|rfl|rfl|rfl|rfl|rfl|rfl|rfl|rfl|rfl|rfl|rfl|rfl
 ·(show _=_;kernel_rfl)
 ·(show _=_;kernel_rfl)
 ·(show _=_;kernel_rfl)
 ·(show _=_;kernel_rfl)
 ·(show _=_;kernel_rfl)
 ·(show _=_;kernel_rfl)
 ·(show _=_;kernel_rfl)
 ·(show _=_;kernel_rfl)
 ·(show _=_;kernel_rfl)
 ·(show _=_;kernel_rfl)
 ·(show _=_;kernel_rfl)
 ·(show _=_;kernel_rfl)
 ·(show _=_;kernel_rfl)
 ·(show _=_;kernel_rfl)
 ·(show _=_;kernel_rfl)
 ·(show _=_;kernel_rfl)
 ·(show _=_;kernel_rfl)
 ·(show _=_;kernel_rfl)
 ·(show _=_;kernel_rfl)
 ·(show _=_;kernel_rfl)
 ·(show _=_;kernel_rfl)
 ·(show _=_;kernel_rfl)
 ·(show _=_;kernel_rfl)
 ·(show _=_;kernel_rfl)
 ·(show _=_;kernel_rfl)
 ·(show _=_;kernel_rfl)
 ·(show _=_;kernel_rfl)
 ·(show _=_;kernel_rfl)
 ·(show _=_;kernel_rfl)
 ·(show _=_;kernel_rfl)
 ·(show _=_;kernel_rfl)
 ·(show _=_;kernel_rfl)
theorem cubes_c (i:Nat) (h:i<32) (w:World):Calls Tryz.prog 253 #[.int .i64 (i:Int)] w fun e w'=>e=.returned (.int .u64 (cubesL.getD i 0:Nat))/\w=w':=by
 have IX:=fun W=>cubes_at i h W
 generalize cubesL.getD i 0=R at *
 go_enter Tryz.func253,Tryz.ntmps253
 go_wp2_with fail
 go_ret
 exact ⟨rfl,rfl⟩
theorem cubesL_lt (i:Nat):cubesL.getD i 0<18446744073709551616:=by
 by_cases h:i<32
 ·have:i=0\/i=1\/i=2\/i=3\/i=4\/i=5\/i=6\/i=7\/i=8\/i=9\/i=10\/i=11\/i=12\/i=13\/i=14\/i=15\/i=16\/i=17\/i=18\/i=19\/i=20\/i=21\/i=22\/i=23\/i=24\/i=25\/i=26\/i=27\/i=28\/i=29\/i=30\/i=31:=by omega
  rcases this with rfl|rfl|rfl|rfl|rfl|rfl|rfl|rfl|rfl|rfl|rfl|rfl|rfl|rfl|rfl|rfl|rfl|rfl|rfl|rfl|rfl|rfl|rfl|rfl|rfl|rfl|rfl|rfl|rfl|rfl|rfl|rfl <;> decide
 ·have:cubesL.getD i 0=0:=by unfold List.getD;rw [List.getElem?_eq_none (by have:cubesL.length=32:=rfl;omega)];rfl
  rw [this];decide
def kN (t:Nat):Nat:=if t%2=0 then cubesL.getD (t / 2) 0 / 4294967296%4294967296 else cubesL.getD (t / 2) 0%4294967296
theorem kN_lt (t:Nat):kN t<4294967296:=by unfold kN;split <;> exact Nat.mod_lt _ (by decide)
theorem k_c (t:Nat) (h:t<64) (w:World):Calls Tryz.prog 209 #[.int .i64 (t:Int)] w fun e w'=>e=.returned (.int .u32 (kN t:Nat))/\w=w':=by
 have CB:=fun W=>cubes_c (t / 2) (by omega) W
 rw [show ((t / 2:Nat):Int)=(t:Int) / 2 from rfl] at CB
 have hc:=cubesL_lt (t / 2)
 by_cases h0:t%2=0
 ·have h1:(t:Int)%2=0:=by omega
  have HE:Hid (kN t=cubesL.getD (t / 2) 0 / 4294967296):=Hd ((if_pos h0).trans (Nat.mod_eq_of_lt (by omega)))
  generalize cubesL.getD (t / 2) 0=c at *
  generalize kN t=R at *
  clear h0
  go_enter Tryz.func209,Tryz.ntmps209
  go_wp2_with fail
  refine (CB _).mono ?_
  rintro e w1 ⟨rfl,rfl⟩
  go_wp2_with fail
  go_ret
  exact ⟨by rw [HE.out];rfl,rfl⟩
 ·have h1:(t:Int)%2=1:=by omega
  have HE:Hid (kN t=cubesL.getD (t / 2) 0%4294967296):=Hd (if_neg h0)
  generalize cubesL.getD (t / 2) 0=c at *
  generalize kN t=R at *
  clear h0
  go_enter Tryz.func209,Tryz.ntmps209
  go_wp2_with fail
  refine (CB _).mono ?_
  rintro e w1 ⟨rfl,rfl⟩
  go_wp2_with fail
  go_ret
  exact ⟨by rw [HE.out];rfl,rfl⟩
def add32 (a b:Nat):Nat:=(a+b)%4294967296
theorem add32_lt (a b:Nat):add32 a b<4294967296:=Nat.mod_lt _ (by decide)
theorem add32_cast (a b:Nat):((a:Int)+(b:Int))%4294967296=((add32 a b:Nat):Int):=by unfold add32;omega
def All32 (l:List Nat):Prop:=∀ x∈l,x<4294967296
theorem All32.get {l:List Nat} (h:All32 l) (i:Nat):l.getD i 0<4294967296:=by
 unfold List.getD
 cases e:l[i]? with
 | none=>simp
 | some x=>simpa using h x (List.mem_of_getElem? e)
theorem All32.set {l:List Nat} (h:All32 l) (i:Nat) {x:Nat} (hx:x<4294967296):All32 (l.set i x):=fun y hy=>by
 rcases List.mem_or_eq_of_mem_set hy with hy|rfl
 ·exact h y hy
 ·exact hx
def laterX (W:List Nat) (t:Nat):Nat:=add32 (add32 (small (W.getD ((t+1)%16) 0) 7 18 3) (W.getD ((t+9)%16) 0)) (small (W.getD ((t+14)%16) 0) 17 19 10)
def laterN (W:List Nat) (t:Nat):Nat:=add32 (W.getD (t%16) 0) (laterX W t)
structure V8 where
 a:Nat
 b:Nat
 c:Nat
 d:Nat
 e:Nat
 f:Nat
 g:Nat
 h:Nat
structure V8.Ok (v:V8):Prop where
 a:v.a<4294967296
 b:v.b<4294967296
 c:v.c<4294967296
 d:v.d<4294967296
 e:v.e<4294967296
 f:v.f<4294967296
 g:v.g<4294967296
 h:v.h<4294967296
def V8.up (v:V8) (k w:Nat):Nat:=add32 (add32 (add32 (add32 v.h (great v.e 6 11 25)) (v.g ^^^ (v.e &&& (v.f ^^^ v.g)))) k) w
def V8.over (v:V8):Nat:=add32 (great v.a 2 13 22) ((v.a &&& v.b) ||| (v.c &&& (v.a ||| v.b)))
def V8.next (v:V8) (k w:Nat):V8:=⟨add32 (v.up k w) v.over,v.a,v.b,v.c,add32 v.d (v.up k w),v.e,v.f,v.g⟩
theorem V8.next_ok {v:V8} (h:v.Ok) (k w:Nat):(v.next k w).Ok:=⟨add32_lt _ _,h.a,h.b,h.c,add32_lt _ _,h.e,h.f,h.g⟩
def wAt (W:List Nat) (t:Nat):Nat:=if t<16 then W.getD (t%16) 0 else laterN W t
def wNext (W:List Nat) (t:Nat):List Nat:=if t<16 then W else W.set (t%16) (laterN W t)
def rndN (v:V8) (W:List Nat):Nat->V8 × List Nat
 | 0=>(v,W)
 | t+1=>((rndN v W t).1.next (kN t) (wAt (rndN v W t).2 t),wNext (rndN v W t).2 t)
theorem wNext_len (W:List Nat) (t:Nat):(wNext W t).length=W.length:=by unfold wNext;split <;> simp
theorem wNext_32 {W:List Nat} (h:All32 W) (t:Nat):All32 (wNext W t):=by
 unfold wNext;split
 ·exact h
 ·exact h.set _ (add32_lt _ _)
theorem wAt_lt {W:List Nat} (h:All32 W) (t:Nat):wAt W t<4294967296:=by
 unfold wAt;split
 ·exact h.get _
 ·exact add32_lt _ _
theorem rndN_ok {v:V8} {W:List Nat} (hv:v.Ok) (hW:All32 W):∀ t,(rndN v W t).1.Ok/\All32 (rndN v W t).2/\(rndN v W t).2.length=W.length
 | 0=>⟨hv,hW,rfl⟩
 | t+1=>by
   obtain ⟨h1,h2,h3⟩:=rndN_ok hv hW t
   exact ⟨V8.next_ok h1 _ _,wNext_32 h2 t,(wNext_len _ t).trans h3⟩
def V8.of (h:List Nat):V8:=⟨h.getD 0 0,h.getD 1 0,h.getD 2 0,h.getD 3 0,h.getD 4 0,h.getD 5 0,h.getD 6 0,h.getD 7 0⟩
def V8.list (v:V8):List Nat:=[v.a,v.b,v.c,v.d,v.e,v.f,v.g,v.h]
theorem V8.of_ok {h:List Nat} (hh:All32 h):(V8.of h).Ok:=⟨hh.get _,hh.get _,hh.get _,hh.get _,hh.get _,hh.get _,hh.get _,hh.get _⟩
def addTo (h v:List Nat):Nat->List Nat
 | 0=>h
 | i+1=>(addTo h v i).set i (add32 (h.getD i 0) (v.getD i 0))
theorem addTo_len (h v:List Nat):∀ i,(addTo h v i).length=h.length
 | 0=>rfl
 | i+1=>by simp only [addTo,List.length_set];exact addTo_len h v i
theorem addTo_32 {h:List Nat} (hh:All32 h) (v:List Nat):∀ i,All32 (addTo h v i)
 | 0=>hh
 | i+1=>(addTo_32 hh v i).set _ (add32_lt _ _)
theorem addTo_get (h v:List Nat):∀ i j,i<=j->(addTo h v i).getD j 0=h.getD j 0
 | 0,_,_=>rfl
 | i+1,j,hj=>by
   have ih:=addTo_get h v i j (by omega)
   unfold List.getD at *
   simp only [addTo]
   rw [List.getElem?_set_ne (by omega)]
   exact ih
structure Pn where
 h:List Nat
 W:List Nat
 n:Nat
structure Pn.Wk (p:Pn):Prop where
 h:p.h.length=8
 W:p.W.length=16
 h32:All32 p.h
 W32:All32 p.W
structure Pn.Ok (p:Pn):Prop where
 h:p.h.length=8
 W:p.W.length=16
 h32:All32 p.h
 W32:All32 p.W
 n:p.n<64
theorem Pn.Ok.wk {p:Pn} (h:p.Ok):p.Wk:=⟨h.h,h.W,h.h32,h.W32⟩
def Pn.stirM (p:Pn) (m:Nat):Pn:=⟨addTo p.h (rndN (V8.of p.h) p.W m).1.list 8,(rndN (V8.of p.h) p.W m).2,p.n⟩
def Pn.stir (p:Pn):Pn:=p.stirM 64
def Pn.zero (p:Pn):Pn:=⟨p.h,p.W,0⟩
theorem Pn.stirM_ok {p:Pn} (h8:p.h.length=8) (hW:p.W.length=16) (h32:All32 p.h) (w32:All32 p.W) (m:Nat):(p.stirM m).zero.Ok:=by
 obtain ⟨-,h2,h3⟩:=rndN_ok (V8.of_ok h32) w32 m
 exact ⟨(addTo_len _ _ _).trans h8,h3.trans hW,addTo_32 h32 _ _,h2,by show 0<64;decide⟩
theorem Pn.stir_ok {p:Pn} (h8:p.h.length=8) (hW:p.W.length=16) (h32:All32 p.h) (w32:All32 p.W):p.stir.zero.Ok:=Pn.stirM_ok h8 hW h32 w32 64
def more8 (x c:Nat):Nat:=x*256%4294967296+c
theorem more8_lt (x:Nat) {c:Nat} (h:c<256):more8 x c<4294967296:=by unfold more8;omega
def Pn.fed (p:Pn) (c:Nat):Pn:=⟨p.h,p.W.set (p.n / 4) (more8 (p.W.getD (p.n / 4) 0) c),p.n+1⟩
def Pn.put (p:Pn) (c:Nat):Pn:=if p.n+1=64 then (p.fed c).stir.zero else p.fed c
theorem Pn.fed_wk {p:Pn} (h:p.Ok) {c:Nat} (hc:c<256):(p.fed c).Wk:=⟨h.h,by simp [Pn.fed,h.W],h.h32,h.W32.set _ (more8_lt _ hc)⟩
theorem Pn.put_ok {p:Pn} (h:p.Ok) {c:Nat} (hc:c<256):(p.put c).Ok:=by
 have hW:All32 (p.fed c).W:=h.W32.set _ (more8_lt _ hc)
 have hl:(p.fed c).W.length=16:=by simp [Pn.fed,h.W]
 unfold Pn.put
 split
 ·exact Pn.stir_ok (p:=p.fed c) h.h hl h.h32 hW
 ·have:=h.n
  exact ⟨h.h,hl,h.h32,hW,by show p.n+1<64;omega⟩
theorem Pn.put_n (p:Pn) (c:Nat):(p.put c).n=if p.n+1=64 then 0 else p.n+1:=by
 unfold Pn.put;split <;> rfl
def Pn.puts (p:Pn) (l:List Nat):Pn:=l.foldl Pn.put p
theorem Pn.puts_ok:∀ {l:List Nat} {p:Pn},p.Ok->(∀ c∈l,c<256)->(p.puts l).Ok
 | [],_,h,_=>h
 | c::l,p,h,hl=>Pn.puts_ok (l:=l) (p:=p.put c) (Pn.put_ok h (hl c (by simp))) fun x hx=>hl x (by simp [hx])
theorem Pn.puts_snoc (p:Pn) (l:List Nat) (c:Nat):p.puts (l++[c])=(p.puts l).put c:=by simp [Pn.puts]
def pn0:Pn:=⟨[1779033703,3144134277,1013904242,2773480762,1359893119,2600822924,528734635,1541459225],List.replicate 16 0,0⟩
theorem pn0_ok:pn0.Ok:=⟨rfl,rfl,by unfold All32;decide,by unfold All32;decide,by decide⟩
theorem more8_or (x c:Nat) (hc:c<256):((x*256)%4294967296) ||| c=more8 x c:=by
 have h3:(x*256)%4294967296=(x%16777216) <<< 8:=by rw [show (4294967296:Nat)=16777216*256 from rfl,Nat.mul_mod_mul_right,Nat.shiftLeft_eq]
 unfold more8
 rw [h3,<-Nat.shiftLeft_add_eq_or_of_lt (i:=8) (show c<2 ^ 8 from hc)]
def zerosN (n:Nat):Nat:=(120-n)%64
def byteL (s:ByteArray):List Nat:=s.data.toList.map fun c=>c.toNat
theorem byteL_lt (s:ByteArray):∀ c∈byteL s,c<256:=by
 intro c hc
 obtain ⟨x,-,rfl⟩:=List.mem_map.1 hc
 exact x.toNat_lt
def pnA (s:ByteArray):Pn:=(pn0.puts (byteL s)).put 128
def pnB (s:ByteArray):Pn:=(pnA s).puts (List.replicate (zerosN (pnA s).n) 0)
def sizeL (n:Nat):List Nat:=(List.range 8).map fun i=>n*8 / 2 ^ (56-8*i)%256
def pnC (s:ByteArray):Pn:=(pnB s).puts (sizeL s.size)
theorem sizeL_lt (n:Nat):∀ c∈sizeL n,c<256:=by
 intro c hc
 obtain ⟨x,-,rfl⟩:=List.mem_map.1 hc
 exact Nat.mod_lt _ (by decide)
theorem pnA_ok (s:ByteArray):(pnA s).Ok:=Pn.put_ok (Pn.puts_ok pn0_ok (byteL_lt s)) (by decide)
theorem pnB_ok (s:ByteArray):(pnB s).Ok:=Pn.puts_ok (pnA_ok s) fun c hc=>by rw [List.eq_of_mem_replicate hc];decide
theorem pnC_ok (s:ByteArray):(pnC s).Ok:=Pn.puts_ok (pnB_ok s) (sizeL_lt _)
def outL (h:List Nat):List UInt8:=(List.range 32).map fun i=>UInt8.ofNat (h.getD (i / 4) 0 / 2 ^ (24-i%4*8))
def prB (s:ByteArray):ByteArray:=⟨(outL (pnC s).h).toArray⟩
theorem prB_size (s:ByteArray):(prB s).size=32:=by
 show (outL (pnC s).h).toArray.size=32
 simp [outL]
def pnCells (h W:List Nat) (n:Nat):List Value:=h.map (fun (x:Nat)=>Value.int .u32 (x:Int))++(W.map (fun (x:Nat)=>Value.int .u32 (x:Int))++[.int .i64 (n:Int)])
theorem pnCells_h {h W:List Nat} {n:Nat} (h8:h.length=8) {i:Nat} (hi:i<8):(pnCells h W n)[i]?=some (.int .u32 (h.getD i 0:Nat)):=by
 unfold pnCells List.getD
 rw [List.getElem?_append_left (by simp;omega),List.getElem?_map,List.getElem?_eq_getElem (by omega)];simp
theorem pnCells_w {h W:List Nat} {n:Nat} (h8:h.length=8) (hW:W.length=16) {i:Nat} (hi:i<16):(pnCells h W n)[8+i]?=some (.int .u32 (W.getD i 0:Nat)):=by
 unfold pnCells List.getD
 rw [List.getElem?_append_right (by simp;omega),List.length_map,h8,show 8+i-8=i by omega,List.getElem?_append_left (by simp;omega),List.getElem?_map,List.getElem?_eq_getElem (by omega)];simp
theorem pnCells_n {h W:List Nat} {n:Nat} (h8:h.length=8) (hW:W.length=16):(pnCells h W n)[24]?=some (.int .i64 (n:Int)):=by
 unfold pnCells
 rw [List.getElem?_append_right (by simp;omega),List.length_map,h8,List.getElem?_append_right (by simp;omega),List.length_map,hW];rfl
theorem pnCells_set_h {h W:List Nat} {n:Nat} (h8:h.length=8) {i:Nat} (hi:i<8) (x:Nat):(pnCells h W n).set i (.int .u32 (x:Int))=pnCells (h.set i x) W n:=by
 unfold pnCells
 rw [List.set_append_left _ _ (by simp;omega),List.map_set]
theorem pnCells_set_w {h W:List Nat} {n:Nat} (h8:h.length=8) (hW:W.length=16) {i:Nat} (hi:i<16) (x:Nat):(pnCells h W n).set (8+i) (.int .u32 (x:Int))=pnCells h (W.set i x) n:=by
 unfold pnCells
 rw [List.set_append_right _ _ (by simp;omega),List.length_map,h8,show 8+i-8=i by omega,List.set_append_left _ _ (by simp;omega),List.map_set]
theorem pnCells_set_n {h W:List Nat} {n:Nat} (h8:h.length=8) (hW:W.length=16) (m:Nat):(pnCells h W n).set 24 (.int .i64 (m:Int))=pnCells h W m:=by
 unfold pnCells
 rw [List.set_append_right _ _ (by simp;omega),List.length_map,h8,List.set_append_right _ _ (by simp;omega),List.length_map,hW];rfl
set_option maxHeartbeats 2000000
def PB (w:World) (b:Nat) (p:Pn):Prop:=w.heap[b]?=some (.cells (pnCells p.h p.W p.n).toArray 210 (0,0))
section
variable {w w':World} {b:Nat} {p:Pn}
theorem PB.lt (h:PB w b p):b<w.heap.size:=lt_of_heap h
theorem PB.frozen (h:PB w b p) (i:Nat):w.frozen? ⟨b,i,none⟩=false:=frozen_lit h i
theorem PB.ch (h:PB w b p) (hp:p.Wk) {i:Nat} (hi:i<8):w.cell? ⟨b,i,none⟩=some (.int .u32 (p.h.getD i 0:Nat)):=cell_lit h (by rw [List.getElem?_toArray];exact pnCells_h hp.h hi)
theorem PB.cw (h:PB w b p) (hp:p.Wk) {i:Nat} (hi:i<16):w.cell? ⟨b,8+i,none⟩=some (.int .u32 (p.W.getD i 0:Nat)):=cell_lit h (by rw [List.getElem?_toArray];exact pnCells_w hp.h hp.W hi)
theorem PB.cn (h:PB w b p) (hp:p.Wk):w.cell? ⟨b,24,none⟩=some (.int .i64 (p.n:Int)):=cell_lit h (by rw [List.getElem?_toArray];exact pnCells_n hp.h hp.W)
theorem PB.sh (h:PB w b p) (hp:p.Wk) {i:Nat} (hi:i<8) (x:Nat):PB (w.setCell ⟨b,i,none⟩ (.int .u32 (x:Int))) b ⟨p.h.set i x,p.W,p.n⟩:=by
 have:=heap_set_lit (i:=i) h (.int .u32 (x:Int))
 rw [List.setIfInBounds_toArray,pnCells_set_h hp.h hi] at this
 exact this
theorem PB.sw (h:PB w b p) (hp:p.Wk) {i:Nat} (hi:i<16) (x:Nat):PB (w.setCell ⟨b,8+i,none⟩ (.int .u32 (x:Int))) b ⟨p.h,p.W.set i x,p.n⟩:=by
 have:=heap_set_lit (i:=8+i) h (.int .u32 (x:Int))
 rw [List.setIfInBounds_toArray,pnCells_set_w hp.h hp.W hi] at this
 exact this
theorem PB.sn (h:PB w b p) (hp:p.Wk) (m:Nat):PB (w.setCell ⟨b,24,none⟩ (.int .i64 (m:Int))) b ⟨p.h,p.W,m⟩:=by
 have:=heap_set_lit (i:=24) h (.int .i64 (m:Int))
 rw [List.setIfInBounds_toArray,pnCells_set_n hp.h hp.W] at this
 exact this
theorem PB.of (h:PB w b p) (e:w'.heap[b]?=w.heap[b]?):PB w' b p:=e.trans h
end
theorem Upd.drewN' {S:Nat->Prop} {a w:World} (h:Upd S a w) (q:Nat):Upd S a (w.drewN q):=⟨h.os,h.tape,h.output,h.size,h.block⟩
theorem later_c (b:Nat) (p:Pn) (t:Nat) (w:World) (hp:p.Wk) (hb:PB w b p) (ht:t<64) :
 Calls Tryz.prog 207 #[.pointer (some ⟨b,0,none⟩),.int .i64 (t:Int)] w fun e w'=>e=.returned (.int .u32 (laterN p.W t:Nat))/\Hid (PB w' b ⟨p.h,p.W.set (t%16) (laterN p.W t),p.n⟩/\Upd (fun k=>k=b) w w'):=by
 obtain ⟨i0,hi0⟩:=exE (t%16)
 obtain ⟨i1,hi1⟩:=exE ((t+1)%16)
 obtain ⟨i2,hi2⟩:=exE ((t+9)%16)
 obtain ⟨i3,hi3⟩:=exE ((t+14)%16)
 have c0:=hb.cw hp (show i0<16 by omega)
 have c1:=hb.cw hp (show i1<16 by omega)
 have c2:=hb.cw hp (show i2<16 by omega)
 have c3:=hb.cw hp (show i3<16 by omega)
 have l0:=hp.W32.get i0
 have l1:=hp.W32.get i1
 have l3:=hp.W32.get i3
 have D:Hid ((i1<16/\i1≠i0)/\(i2<16/\i2≠i0)/\(i3<16/\i3≠i0)/\i0<16):=Hd (by omega)
 have e0:(t:Int)%16=(i0:Int):=by omega
 have e1:((t:Int)+1)%16=(i1:Int):=by omega
 have e2:((t:Int)+9)%16=(i2:Int):=by omega
 have e3:((t:Int)+14)%16=(i3:Int):=by omega
 have m0:Int.tmod (t:Int) 16=(i0:Int):=by rw [Int.tmod_eq_emod_of_nonneg (by omega)];exact e0
 have m1:Int.tmod ((t:Int)+1) 16=(i1:Int):=by rw [Int.tmod_eq_emod_of_nonneg (by omega)];exact e1
 have m2:Int.tmod ((t:Int)+9) 16=(i2:Int):=by rw [Int.tmod_eq_emod_of_nonneg (by omega)];exact e2
 have m3:Int.tmod ((t:Int)+14) 16=(i3:Int):=by rw [Int.tmod_eq_emod_of_nonneg (by omega)];exact e3
 have n1:IntKind.i64.wrap ((t:Int)+1)=(t:Int)+1:=by simp [IntKind.wrap,IntKind.bits,IntKind.signed];omega
 have n2:IntKind.i64.wrap ((t:Int)+9)=(t:Int)+9:=by simp [IntKind.wrap,IntKind.bits,IntKind.signed];omega
 have n3:IntKind.i64.wrap ((t:Int)+14)=(t:Int)+14:=by simp [IntKind.wrap,IntKind.bits,IntKind.signed];omega
 have k0:(i0:Int)<16:=by omega
 have k1:(i1:Int)<16:=by omega
 have k2:(i2:Int)<16:=by omega
 have k3:(i3:Int)<16:=by omega
 have hL:laterN p.W t=add32 (p.W.getD i0 0) (add32 (add32 (small (p.W.getD i1 0) 7 18 3) (p.W.getD i2 0)) (small (p.W.getD i3 0) 17 19 10)):=by
  unfold laterN laterX;rw [hi0,hi1,hi2,hi3]
 have HL:=Hd hL
 have HE:=Hd hb
 have HP:=Hd hp
 have HI0:Hid (i0<16):=Hd D.out.2.2.2
 rw [hi0]
 have fz:w.frozen? ⟨b,8+i0,none⟩=false:=hb.frozen _
 have lb:=hb.lt
 have U0:Hid (Upd (fun _=>False) w w.drew):=Hd (Upd.refl _ _).drew
 generalize hx0:p.W.getD i0 0=x0 at *
 generalize hx1:p.W.getD i1 0=x1 at *
 generalize hx2:p.W.getD i2 0=x2 at *
 generalize hx3:p.W.getD i3 0=x3 at *
 obtain ⟨y1,hy1⟩:=exE (small x1 7 18 3)
 obtain ⟨y3,hy3⟩:=exE (small x3 17 19 10)
 have HS:Hid (∀ (W:World),Upd (fun _=>False) w W->(W.cell? ⟨b,8+i1,none⟩=some (.int .u32 (x1:Int))/\W.cell? ⟨b,8+i2,none⟩=some (.int .u32 (x2:Int))/\W.cell? ⟨b,8+i3,none⟩=some (.int .u32 (x3:Int))/\W.frozen? ⟨b,8+i0,none⟩=false)/\W.cell? ⟨b,8+i0,none⟩=some (.int .u32 (x0:Int))/\b<W.heap.size):=Hd fun W hW=>by
  have e:W.heap[b]?=w.heap[b]?:=hW.block b lb fun h=>h
  exact ⟨⟨(World.cell?_of_block e).trans c1,(World.cell?_of_block e).trans c2,(World.cell?_of_block e).trans c3,(hb.of e).frozen _⟩,(World.cell?_of_block e).trans c0,(hb.of e).lt⟩
 have SP7:Hid (∀ (W:World),Upd (fun _=>False) w W->Calls Tryz.prog 251 #[.int .u32 (x1:Int),.int .i64 7,.int .i64 18,.int .i64 3] W fun e w'=>e=.returned (.int .u32 (small x1 7 18 3:Int))/\(w'.cell? ⟨b,8+i1,none⟩=some (.int .u32 (x1:Int))/\w'.cell? ⟨b,8+i2,none⟩=some (.int .u32 (x2:Int))/\w'.cell? ⟨b,8+i3,none⟩=some (.int .u32 (x3:Int))/\w'.frozen? ⟨b,8+i0,none⟩=false)/\(w'.cell? ⟨b,8+i0,none⟩=some (.int .u32 (x0:Int))/\b<w'.heap.size)/\Hid (Upd (fun _=>False) w w')):=Hd fun W hW=>by
  refine (spread_7 x1 _ l1).mono ?_
  rintro e w' ⟨rfl,k,rfl⟩
  obtain ⟨h1,h2,h3⟩:=HS.out _ (hW.drewN' k)
  exact ⟨rfl,h1,⟨h2,h3⟩,Hd (hW.drewN' k)⟩
 have SP17:Hid (∀ (W:World),Upd (fun _=>False) w W->Calls Tryz.prog 251 #[.int .u32 (x3:Int),.int .i64 17,.int .i64 19,.int .i64 10] W fun e w'=>e=.returned (.int .u32 (small x3 17 19 10:Int))/\(w'.cell? ⟨b,8+i1,none⟩=some (.int .u32 (x1:Int))/\w'.cell? ⟨b,8+i2,none⟩=some (.int .u32 (x2:Int))/\w'.cell? ⟨b,8+i3,none⟩=some (.int .u32 (x3:Int))/\w'.frozen? ⟨b,8+i0,none⟩=false)/\(w'.cell? ⟨b,8+i0,none⟩=some (.int .u32 (x0:Int))/\b<w'.heap.size)/\Hid (Upd (fun _=>False) w w')):=Hd fun W hW=>by
  refine (spread_17 x3 _ l3).mono ?_
  rintro e w' ⟨rfl,k,rfl⟩
  obtain ⟨h1,h2,h3⟩:=HS.out _ (hW.drewN' k)
  exact ⟨rfl,h1,⟨h2,h3⟩,Hd (hW.drewN' k)⟩
 rw [hy1] at SP7 HL
 rw [hy3] at SP17 HL
 have a1:=add32_cast y1 x2
 have a2:=add32_cast (add32 y1 x2) y3
 have a3:=add32_cast x0 (add32 (add32 y1 x2) y3)
 have b1:IntKind.u32.wrap ((y1:Int)+(x2:Int))=((add32 y1 x2:Nat):Int):=a1
 have b2:IntKind.u32.wrap ((add32 y1 x2:Nat)+(y3:Int))=((add32 (add32 y1 x2) y3:Nat):Int):=a2
 have b3:IntKind.u32.wrap ((x0:Int)+(add32 (add32 y1 x2) y3:Nat))=((add32 x0 (add32 (add32 y1 x2) y3):Nat):Int):=a3
 have HL2:=Hd HL.out
 generalize add32 y1 x2=z1 at *
 generalize add32 z1 y3=z2 at *
 have lz3:=add32_lt x0 z2
 generalize add32 x0 z2=z3 at *
 have HK:Hid (∀ (W:World),Upd (fun _=>False) w W->((W.setCell ⟨b,8+i0,none⟩ (.int .u32 (z3:Int))).cell? ⟨b,8+i1,none⟩=some (.int .u32 (x1:Int))/\(W.setCell ⟨b,8+i0,none⟩ (.int .u32 (z3:Int))).cell? ⟨b,8+i2,none⟩=some (.int .u32 (x2:Int))/\(W.setCell ⟨b,8+i0,none⟩ (.int .u32 (z3:Int))).cell? ⟨b,8+i3,none⟩=some (.int .u32 (x3:Int))/\(W.setCell ⟨b,8+i0,none⟩ (.int .u32 (z3:Int))).frozen? ⟨b,8+i0,none⟩=false)):=Hd fun W hW=>by
  have e:W.heap[b]?=w.heap[b]?:=hW.block b lb fun h=>h
  have h1:=(hb.of e).sw hp HI0.out z3
  have ok:Pn.Wk ⟨p.h,p.W.set i0 z3,p.n⟩:=⟨hp.h,by rw [List.length_set];exact hp.W,hp.h32,hp.W32.set _ lz3⟩
  have g:∀ i,i<16->i≠i0->(W.setCell ⟨b,8+i0,none⟩ (.int .u32 (z3:Int))).cell? ⟨b,8+i,none⟩=some (.int .u32 (p.W.getD i 0:Nat)):=fun i hi hne=>by
   have:=h1.cw ok hi
   simp only at this
   rwa [show (p.W.set i0 z3).getD i 0=p.W.getD i 0 by unfold List.getD;rw [List.getElem?_set_ne (Ne.symm hne)]] at this
  exact ⟨by rw [<-hx1];exact g i1 D.out.1.1 D.out.1.2,by rw [<-hx2];exact g i2 D.out.2.1.1 D.out.2.1.2,by rw [<-hx3];exact g i3 D.out.2.2.1.1 D.out.2.2.1.2,h1.frozen _⟩
 clear hb hp hL hx0 hx1 hx2 hx3 lz3 hi0 hi1 hi2 hi3 ht hy1 hy3 HL
 go_enter Tryz.func207,Tryz.ntmps207
 go_wp2_with fail
 refine wp_region_noPanic ?_
 refine wp_region_held_drew (S:=(fun (w':World)=>w'.cell? ⟨b,8+i1,none⟩=some (.int .u32 (x1:Int))/\w'.cell? ⟨b,8+i2,none⟩=some (.int .u32 (x2:Int))/\w'.cell? ⟨b,8+i3,none⟩=some (.int .u32 (x3:Int))/\w'.frozen? ⟨b,8+i0,none⟩=false)) (by kernel_rfl) ?_ (fun hHeld=>?_)
 ·exact (HS.out _ U0.out).1
 refine' tkH 0 rfl ?_
 try simp only [Act.put,List.setIfInBounds_toArray,List.set_cons_zero,List.set_cons_succ,List.getElem_toArray,List.getElem_cons_zero]
 refine' tkH 1 rfl ?_;try simp only [Act.put,awL]
 refine' tkH 2 rfl ?_;try simp only [Act.put,awL]
 refine' tkH 3 rfl ?_;try simp only [Act.put,awL]
 refine' tkH 4 rfl ?_;try simp only [Act.put,awL]
 refine' tkH 6 rfl ?_;try simp only [Act.put,awL]
 refine' tkH 7 rfl ?_;try simp only [Act.put,awL]
 refine' tkH 8 rfl ?_;try simp only [Act.put,awL]
 refine' tkH 9 rfl ?_;try simp only [Act.put,awL]
 refine' tkH 10 rfl ?_;try simp only [Act.put,awL]
 refine' tkH 11 rfl ?_;try simp only [Act.put,awL]
 refine' tkH 12 rfl ?_;try simp only [Act.put,awL]
 refine' tkH 14 rfl ?_;try simp only [Act.put,awL]
 refine' tkH 15 rfl ?_;try simp only [Act.put,awL]
 refine' tkH 16 rfl ?_;try simp only [Act.put,awL]
 refine' tkH 17 rfl ?_;try simp only [Act.put,awL]
 refine' tkH 18 rfl ?_;try simp only [Act.put,awL]
 refine' tkH 19 rfl ?_;try simp only [Act.put,awL]
 refine' tkH 20 rfl ?_;try simp only [Act.put,awL]
 refine' tkH 22 rfl ?_;try simp only [Act.put,awL]
 refine' tkH 23 rfl ?_;try simp only [Act.put,awL]
 refine' tkH 24 rfl ?_;try simp only [Act.put,awL]
 refine' tkH 25 rfl ?_;try simp only [Act.put,awL]
 refine' tkH 26 rfl ?_;try simp only [Act.put,awL]
 refine' tkH 27 rfl ?_;try simp only [Act.put,awL]
 refine' tkH 28 rfl ?_;try simp only [Act.put,awL]
 refine' tkH 32 rfl ?_;try simp only [Act.put,awL]
 refine wpAnyH_ready (rs:=[5,13]) (by kernel_rfl) (by simp) ?_
 refine AllReadyH.cons rfl (fun K hK=>?_) (AllReadyH.cons rfl (fun K hK=>?_) AllReadyH.nil)
 ·go_simp
  refine hK.out _ _ ?_ (fun hHeld=>?_)
  ·exact (HS.out _ U0.out).1
  clear hK K
  try simp only [Act.put,awL]
  refine wpAnyH_ready (rs:=[13]) (by kernel_rfl) (by simp) ?_
  refine AllReadyH.cons rfl (fun K hK=>?_) AllReadyH.nil
  go_simp
  go_at_call 251
  refine Calls.at_args (SP7.out _ U0.out) (by with_reducible rfl) ?_
  rintro e w3 ⟨rfl,hk3,h03,G3⟩
  refine hK.out _ _ ?_ (fun hHeld=>?_)
  ·exact hk3
  clear hK K
  try simp only [Act.put,awL]
  refine' tkH 21 rfl ?_;try simp only [Act.put,awL]
  refine wpAnyH_ready (rs:=[29]) (by kernel_rfl) (by simp) ?_
  refine AllReadyH.cons rfl (fun K hK=>?_) AllReadyH.nil
  go_simp
  go_at_call 251
  refine Calls.at_args (SP17.out _ G3.out) (by with_reducible rfl) ?_
  rintro e w4 ⟨rfl,hk4,h04,G4⟩
  refine hK.out _ _ ?_ (fun hHeld=>?_)
  ·exact hk4
  clear hK K
  try simp only [Act.put,awL]
  refine' tkH 30 rfl ?_;try simp only [Act.put,awL]
  refine' tkH 31 rfl ?_;try simp only [Act.put,awL]
  refine' tkH 33 rfl ?_;try simp only [Act.put,awL]
  refine wpAnyH_ready (rs:=[34]) (by kernel_rfl) (by simp) ?_
  refine AllReadyH.cons rfl (fun K hK=>?_) AllReadyH.nil
  go_simp
  refine hK.out _ _ ?_ (fun hHeld=>?_)
  ·exact HK.out _ G4.out
  clear hK K
  try simp only [Act.put,awL]
  refine wpAnyH_done (by kernel_rfl) ?_ _
  refine NoPanic.normal ?_
  have P4:PB w4 b p:=HE.out.of (G4.out.block b lb fun h=>h)
  have P5:=Hd (P4.sw HP.out HI0.out z3)
  have d0:(w4.setCell ⟨b,8+i0,none⟩ (.int .u32 (z3:Int))).cell? ⟨b,8+i0,none⟩=some (.int .u32 (z3:Int)):=cell_lit P5.out (by
   rw [List.getElem?_toArray,pnCells_w (W:=p.W.set i0 z3) HP.out.h (by rw [List.length_set];exact HP.out.W) HI0.out]
   unfold List.getD
   rw [List.getElem?_set_self (by rw [HP.out.W];exact HI0.out)];rfl)
  have U5:Hid (Upd (fun k=>k=b) w (w4.setCell ⟨b,8+i0,none⟩ (.int .u32 (z3:Int)))):=Hd (Upd.setCell (S:=fun k=>k=b) (p:=⟨b,8+i0,none⟩) (G4.out.mono fun _ _ h=>h.elim) (.inl rfl) _)
  have l5:b<(w4.setCell ⟨b,8+i0,none⟩ (.int .u32 (z3:Int))).heap.size:=P5.out.lt
  clear hk3 h03 G3 hk4 h04 G4 P4 c0 c1 c2 c3 SP7 SP17 HS HK
  go_wp2_with fail
  go_ret
  exact ⟨by rw [HL2.out];rfl,Hd ⟨by rw [HL2.out];exact P5.out,U5.out⟩⟩
 ·
   go_simp
   go_at_call 251
   refine Calls.at_args (SP7.out _ U0.out) (by with_reducible rfl) ?_
   rintro e w3 ⟨rfl,hk3,h03,G3⟩
   refine hK.out _ _ ?_ (fun hHeld=>?_)
   ·exact hk3
   clear hK K
   try simp only [Act.put,awL]
   refine' tkH 21 rfl ?_;try simp only [Act.put,awL]
   refine wpAnyH_ready (rs:=[5,29]) (by kernel_rfl) (by simp) ?_
   refine AllReadyH.cons rfl (fun K hK=>?_) (AllReadyH.cons rfl (fun K hK=>?_) AllReadyH.nil)
   ·
     go_simp
     refine hK.out _ _ ?_ (fun hHeld=>?_)
     ·exact hk3
     clear hK K
     try simp only [Act.put,awL]
     refine wpAnyH_ready (rs:=[29]) (by kernel_rfl) (by simp) ?_
     refine AllReadyH.cons rfl (fun K hK=>?_) AllReadyH.nil
     go_simp
     go_at_call 251
     refine Calls.at_args (SP17.out _ G3.out) (by with_reducible rfl) ?_
     rintro e w4 ⟨rfl,hk4,h04,G4⟩
     refine hK.out _ _ ?_ (fun hHeld=>?_)
     ·exact hk4
     clear hK K
     try simp only [Act.put,awL]
     refine' tkH 30 rfl ?_;try simp only [Act.put,awL]
     refine' tkH 31 rfl ?_;try simp only [Act.put,awL]
     refine' tkH 33 rfl ?_;try simp only [Act.put,awL]
     refine wpAnyH_ready (rs:=[34]) (by kernel_rfl) (by simp) ?_
     refine AllReadyH.cons rfl (fun K hK=>?_) AllReadyH.nil
     go_simp
     refine hK.out _ _ ?_ (fun hHeld=>?_)
     ·exact HK.out _ G4.out
     clear hK K
     try simp only [Act.put,awL]
     refine wpAnyH_done (by kernel_rfl) ?_ _
     refine NoPanic.normal ?_
     have P4:PB w4 b p:=HE.out.of (G4.out.block b lb fun h=>h)
     have P5:=Hd (P4.sw HP.out HI0.out z3)
     have d0:(w4.setCell ⟨b,8+i0,none⟩ (.int .u32 (z3:Int))).cell? ⟨b,8+i0,none⟩=some (.int .u32 (z3:Int)):=cell_lit P5.out (by
      rw [List.getElem?_toArray,pnCells_w (W:=p.W.set i0 z3) HP.out.h (by rw [List.length_set];exact HP.out.W) HI0.out]
      unfold List.getD
      rw [List.getElem?_set_self (by rw [HP.out.W];exact HI0.out)];rfl)
     have U5:Hid (Upd (fun k=>k=b) w (w4.setCell ⟨b,8+i0,none⟩ (.int .u32 (z3:Int)))):=Hd (Upd.setCell (S:=fun k=>k=b) (p:=⟨b,8+i0,none⟩) (G4.out.mono fun _ _ h=>h.elim) (.inl rfl) _)
     have l5:b<(w4.setCell ⟨b,8+i0,none⟩ (.int .u32 (z3:Int))).heap.size:=P5.out.lt
     clear hk3 h03 G3 hk4 h04 G4 P4 c0 c1 c2 c3 SP7 SP17 HS HK
     go_wp2_with fail
     go_ret
     exact ⟨by rw [HL2.out];rfl,Hd ⟨by rw [HL2.out];exact P5.out,U5.out⟩⟩
   ·
     go_simp
     go_at_call 251
     refine Calls.at_args (SP17.out _ G3.out) (by with_reducible rfl) ?_
     rintro e w4 ⟨rfl,hk4,h04,G4⟩
     refine hK.out _ _ ?_ (fun hHeld=>?_)
     ·exact hk4
     clear hK K
     try simp only [Act.put,awL]
     refine' tkH 30 rfl ?_;try simp only [Act.put,awL]
     refine wpAnyH_ready (rs:=[5]) (by kernel_rfl) (by simp) ?_
     refine AllReadyH.cons rfl (fun K hK=>?_) AllReadyH.nil
     go_simp
     refine hK.out _ _ ?_ (fun hHeld=>?_)
     ·exact hk4
     clear hK K
     try simp only [Act.put,awL]
     refine' tkH 31 rfl ?_;try simp only [Act.put,awL]
     refine' tkH 33 rfl ?_;try simp only [Act.put,awL]
     refine wpAnyH_ready (rs:=[34]) (by kernel_rfl) (by simp) ?_
     refine AllReadyH.cons rfl (fun K hK=>?_) AllReadyH.nil
     go_simp
     refine hK.out _ _ ?_ (fun hHeld=>?_)
     ·exact HK.out _ G4.out
     clear hK K
     try simp only [Act.put,awL]
     refine wpAnyH_done (by kernel_rfl) ?_ _
     refine NoPanic.normal ?_
     have P4:PB w4 b p:=HE.out.of (G4.out.block b lb fun h=>h)
     have P5:=Hd (P4.sw HP.out HI0.out z3)
     have d0:(w4.setCell ⟨b,8+i0,none⟩ (.int .u32 (z3:Int))).cell? ⟨b,8+i0,none⟩=some (.int .u32 (z3:Int)):=cell_lit P5.out (by
      rw [List.getElem?_toArray,pnCells_w (W:=p.W.set i0 z3) HP.out.h (by rw [List.length_set];exact HP.out.W) HI0.out]
      unfold List.getD
      rw [List.getElem?_set_self (by rw [HP.out.W];exact HI0.out)];rfl)
     have U5:Hid (Upd (fun k=>k=b) w (w4.setCell ⟨b,8+i0,none⟩ (.int .u32 (z3:Int)))):=Hd (Upd.setCell (S:=fun k=>k=b) (p:=⟨b,8+i0,none⟩) (G4.out.mono fun _ _ h=>h.elim) (.inl rfl) _)
     have l5:b<(w4.setCell ⟨b,8+i0,none⟩ (.int .u32 (z3:Int))).heap.size:=P5.out.lt
     clear hk3 h03 G3 hk4 h04 G4 P4 c0 c1 c2 c3 SP7 SP17 HS HK
     go_wp2_with fail
     go_ret
     exact ⟨by rw [HL2.out];rfl,Hd ⟨by rw [HL2.out];exact P5.out,U5.out⟩⟩
theorem idx8_0 (a b c d e f g h:Int) (w:World):(Instr.index 207 (.agg #[.int .u32 a,.int .u32 b,.int .u32 c,.int .u32 d,.int .u32 e,.int .u32 f,.int .u32 g,.int .u32 h]) (.int .i64 0)).run Tryz.prog w=.ok (.int .u32 a) w:=by kernel_rfl
theorem idx8_1 (a b c d e f g h:Int) (w:World):(Instr.index 207 (.agg #[.int .u32 a,.int .u32 b,.int .u32 c,.int .u32 d,.int .u32 e,.int .u32 f,.int .u32 g,.int .u32 h]) (.int .i64 1)).run Tryz.prog w=.ok (.int .u32 b) w:=by kernel_rfl
theorem idx8_2 (a b c d e f g h:Int) (w:World):(Instr.index 207 (.agg #[.int .u32 a,.int .u32 b,.int .u32 c,.int .u32 d,.int .u32 e,.int .u32 f,.int .u32 g,.int .u32 h]) (.int .i64 2)).run Tryz.prog w=.ok (.int .u32 c) w:=by kernel_rfl
theorem idx8_3 (a b c d e f g h:Int) (w:World):(Instr.index 207 (.agg #[.int .u32 a,.int .u32 b,.int .u32 c,.int .u32 d,.int .u32 e,.int .u32 f,.int .u32 g,.int .u32 h]) (.int .i64 3)).run Tryz.prog w=.ok (.int .u32 d) w:=by kernel_rfl
theorem idx8_4 (a b c d e f g h:Int) (w:World):(Instr.index 207 (.agg #[.int .u32 a,.int .u32 b,.int .u32 c,.int .u32 d,.int .u32 e,.int .u32 f,.int .u32 g,.int .u32 h]) (.int .i64 4)).run Tryz.prog w=.ok (.int .u32 e) w:=by kernel_rfl
theorem idx8_5 (a b c d e f g h:Int) (w:World):(Instr.index 207 (.agg #[.int .u32 a,.int .u32 b,.int .u32 c,.int .u32 d,.int .u32 e,.int .u32 f,.int .u32 g,.int .u32 h]) (.int .i64 5)).run Tryz.prog w=.ok (.int .u32 f) w:=by kernel_rfl
theorem idx8_6 (a b c d e f g h:Int) (w:World):(Instr.index 207 (.agg #[.int .u32 a,.int .u32 b,.int .u32 c,.int .u32 d,.int .u32 e,.int .u32 f,.int .u32 g,.int .u32 h]) (.int .i64 6)).run Tryz.prog w=.ok (.int .u32 g) w:=by kernel_rfl
theorem idx8_7 (a b c d e f g h:Int) (w:World):(Instr.index 207 (.agg #[.int .u32 a,.int .u32 b,.int .u32 c,.int .u32 d,.int .u32 e,.int .u32 f,.int .u32 g,.int .u32 h]) (.int .i64 7)).run Tryz.prog w=.ok (.int .u32 h) w:=by kernel_rfl
theorem idx8 (v:V8) (i:Nat) (hi:i<8) (w:World):(Instr.index 207 (.agg #[.int .u32 v.a,.int .u32 v.b,.int .u32 v.c,.int .u32 v.d,.int .u32 v.e,.int .u32 v.f,.int .u32 v.g,.int .u32 v.h]) (.int .i64 (i:Int))).run Tryz.prog w=.ok (.int .u32 (v.list.getD i 0:Nat)) w:=by
 have:i=0\/i=1\/i=2\/i=3\/i=4\/i=5\/i=6\/i=7:=by omega
 rcases this with rfl|rfl|rfl|rfl|rfl|rfl|rfl|rfl
 ·exact idx8_0 _ _ _ _ _ _ _ _ w
 ·exact idx8_1 _ _ _ _ _ _ _ _ w
 ·exact idx8_2 _ _ _ _ _ _ _ _ w
 ·exact idx8_3 _ _ _ _ _ _ _ _ w
 ·exact idx8_4 _ _ _ _ _ _ _ _ w
 ·exact idx8_5 _ _ _ _ _ _ _ _ w
 ·exact idx8_6 _ _ _ _ _ _ _ _ w
 ·exact idx8_7 _ _ _ _ _ _ _ _ w
theorem and_lt' {x y:Nat} (hx:x<4294967296):x &&& y<4294967296:=Nat.lt_of_le_of_lt Nat.and_le_left hx
theorem or_lt' {x y:Nat} (hx:x<4294967296) (hy:y<4294967296):x ||| y<4294967296:=Nat.or_lt_two_pow (n:=32) hx hy
theorem list_lt {v:V8} (h:v.Ok):All32 v.list:=fun x hx=>by
 simp only [V8.list,List.mem_cons,List.not_mem_nil,or_false] at hx
 rcases hx with rfl|rfl|rfl|rfl|rfl|rfl|rfl|rfl
 ·exact h.a
 ·exact h.b
 ·exact h.c
 ·exact h.d
 ·exact h.e
 ·exact h.f
 ·exact h.g
 ·exact h.h
def RndAt (w wr:World) (b:Nat) (p:Pn) (i:Nat) (v:V8) (W:List Nat):Prop:=rndN (V8.of p.h) p.W i=(v,W)/\PB wr b ⟨p.h,W,p.n⟩/\Upd (fun k=>k=b) w wr
theorem RndAt.ok {w wr:World} {b:Nat} {p:Pn} {i:Nat} {v:V8} {W:List Nat} (h:RndAt w wr b p i v W) (hp:p.Wk):v.Ok/\Pn.Wk ⟨p.h,W,p.n⟩:=by
 obtain ⟨h1,h2,h3⟩:=rndN_ok (V8.of_ok hp.h32) hp.W32 i
 rw [h.1] at h1 h2 h3
 exact ⟨h1,hp.h,h3.trans hp.W,hp.h32,h2⟩
theorem RndAt.step {w wr w':World} {b:Nat} {p:Pn} {i:Nat} {v v':V8} {W W':List Nat} (h:RndAt w wr b p i v W) (hv:v.next (kN i) (wAt W i)=v') (hW:wNext W i=W') (hb:PB w' b ⟨p.h,W',p.n⟩) (hu:Upd (fun k=>k=b) w w'):RndAt w w' b p (i+1) v' W':=by
 refine ⟨?_,hb,hu⟩
 show ((rndN (V8.of p.h) p.W i).1.next (kN i) (wAt (rndN (V8.of p.h) p.W i).2 i),wNext (rndN (V8.of p.h) p.W i).2 i)=_
 rw [h.1]
 show (v.next (kN i) (wAt W i),wNext W i)=_
 rw [hv,hW]
theorem stir_c (b:Nat) (p:Pn) (w:World) (hp:p.Wk) (hb:PB w b p) :
 Calls Tryz.prog 167 #[.pointer (some ⟨b,0,none⟩)] w fun e w'=>e=.returned (.tuple #[])/\Hid (PB w' b p.stir/\Upd (fun k=>k=b) w w'):=by
 have c0:=hb.ch hp (show 0<8 by decide)
 have c1:=hb.ch hp (show 1<8 by decide)
 have c2:=hb.ch hp (show 2<8 by decide)
 have c3:=hb.ch hp (show 3<8 by decide)
 have c4:=hb.ch hp (show 4<8 by decide)
 have c5:=hb.ch hp (show 5<8 by decide)
 have c6:=hb.ch hp (show 6<8 by decide)
 have c7:=hb.ch hp (show 7<8 by decide)
 have HP:=Hd hp
 have R0:Hid (∀ n,RndAt w (w.drewN n) b p 0 (V8.of p.h) p.W):=Hd fun n=>⟨rfl,hb.of rfl,(Upd.refl _ _).drewN' n⟩
 obtain ⟨v0,hv0⟩:=exE (V8.of p.h)
 rw [show p.h.getD 0 0=v0.a by rw [<-hv0];rfl] at c0
 rw [show p.h.getD 1 0=v0.b by rw [<-hv0];rfl] at c1
 rw [show p.h.getD 2 0=v0.c by rw [<-hv0];rfl] at c2
 rw [show p.h.getD 3 0=v0.d by rw [<-hv0];rfl] at c3
 rw [show p.h.getD 4 0=v0.e by rw [<-hv0];rfl] at c4
 rw [show p.h.getD 5 0=v0.f by rw [<-hv0];rfl] at c5
 rw [show p.h.getD 6 0=v0.g by rw [<-hv0];rfl] at c6
 rw [show p.h.getD 7 0=v0.h by rw [<-hv0];rfl] at c7
 rw [hv0] at R0
 clear hp hb hv0
 go_enter Tryz.func167,Tryz.ntmps167
 go_wp2_with fail
 go_quiet (fail)
 have R1:=Hd (R0.out nq)
 generalize w.drewN nq=wq at *
 go_wp2_with fail
 go_loopg [2,3,4,5,6,7,8,9,10,11,12,13,56] 64 (fun g s2 s3 s4 s5 s6 s7 s8 s9 s10 s11 s12 s13 s56 wr=>∃ (i:Nat) (v:V8) (W:List Nat),g=64-i/\i<=64/\s56=.int .i64 (i:Int)/\s2=.int .u32 (v.a:Int)/\s3=.int .u32 (v.b:Int)/\s4=.int .u32 (v.c:Int)/\s5=.int .u32 (v.d:Int)/\s6=.int .u32 (v.e:Int)/\s7=.int .u32 (v.f:Int)/\s8=.int .u32 (v.g:Int)/\s9=.int .u32 (v.h:Int)/\Hid (RndAt w wr b p i v W))
 case atStart=>exact ⟨0,v0,p.W,rfl,Nat.zero_le _,rfl,rfl,rfl,rfl,rfl,rfl,rfl,rfl,rfl,R1⟩
 case round =>
  obtain ⟨i,v,W,rfl,hi,rfl,rfl,rfl,rfl,rfl,rfl,rfl,rfl,rfl,HR⟩:=hrel
  clear R0 R1 c0 c1 c2 c3 c4 c5 c6 c7
  by_cases hlt:i<64
  ·obtain ⟨hv,hpw⟩:=HR.out.ok HP.out
   have hPB:=HR.out.2.1
   have cw:=hPB.cw hpw (show i%16<16 by omega)
   simp only at cw
   have LT:Hid (16<=i->Calls Tryz.prog 207 #[.pointer (some ⟨b,0,none⟩),.int .i64 (i:Int)] wr fun e w'=>e=.returned (.int .u32 (wAt W i:Nat))/\Hid (PB w' b ⟨p.h,wNext W i,p.n⟩/\Upd (fun k=>k=b) w w')):=Hd fun h16=>by
    refine (later_c b ⟨p.h,W,p.n⟩ i wr hpw hPB (by omega)).mono ?_
    rintro e w' ⟨rfl,hE⟩
    refine ⟨?_,Hd ⟨?_,HR.out.2.2.trans hE.out.2⟩⟩
    ·unfold wAt;rw [if_neg (by omega)]
    ·unfold wNext;rw [if_neg (by omega)];exact hE.out.1
   have HW16:Hid (i<16->wAt W i=W.getD (i%16) 0/\wNext W i=W):=Hd fun h=>⟨by unfold wAt;rw [if_pos h],by unfold wNext;rw [if_pos h]⟩
   have lw:=wAt_lt hpw.W32 i
   simp only at lw
   obtain ⟨j,hj⟩:=exE (i%16)
   have kj:(j:Int)<16:=by omega
   have ej:(i:Int)%16=(j:Int):=by omega
   rw [hj] at cw HW16
   have HN:Hid (v.next (kN i) (wAt W i)=⟨add32 (v.up (kN i) (wAt W i)) v.over,v.a,v.b,v.c,add32 v.d (v.up (kN i) (wAt W i)),v.e,v.f,v.g⟩):=Hd rfl
   have HU:Hid (v.up (kN i) (wAt W i)=add32 (add32 (add32 (add32 v.h (great v.e 6 11 25)) (v.g ^^^ (v.e &&& (v.f ^^^ v.g)))) (kN i)) (wAt W i)):=Hd rfl
   have HO:Hid (v.over=add32 (great v.a 2 13 22) ((v.a &&& v.b) ||| (v.c &&& (v.a ||| v.b)))):=Hd rfl
   have T6:=fun W=>turned_6 v.e W hv.e
   have T2:=fun W=>turned_2 v.a W hv.a
   have KC:=fun W=>k_c i hlt W
   have t1:=u32_xor_nat v.f v.g hv.f hv.g
   have l1:=xor_lt hv.f hv.g
   have t2:=u32_and_nat v.e (v.f ^^^ v.g) hv.e l1
   have l2:=and_lt' (y:=v.f ^^^ v.g) hv.e
   have t3:=u32_xor_nat v.g (v.e &&& (v.f ^^^ v.g)) hv.g l2
   have t4:=u32_and_nat v.a v.b hv.a hv.b
   have l4:=and_lt' (y:=v.b) hv.a
   have t5:=u32_or_nat v.a v.b hv.a hv.b
   have l5:=or_lt' hv.a hv.b
   have t6:=u32_and_nat v.c (v.a ||| v.b) hv.c l5
   have l6:=and_lt' (y:=v.a ||| v.b) hv.c
   have t7:=u32_or_nat _ _ l4 l6
   have s1:=add32_cast v.h (great v.e 6 11 25)
   have s2:=add32_cast (add32 v.h (great v.e 6 11 25)) (v.g ^^^ (v.e &&& (v.f ^^^ v.g)))
   have s3:=add32_cast (add32 (add32 v.h (great v.e 6 11 25)) (v.g ^^^ (v.e &&& (v.f ^^^ v.g)))) (kN i)
   have s4:=add32_cast (add32 (add32 (add32 v.h (great v.e 6 11 25)) (v.g ^^^ (v.e &&& (v.f ^^^ v.g)))) (kN i)) (wAt W i)
   have s5:=add32_cast (great v.a 2 13 22) ((v.a &&& v.b) ||| (v.c &&& (v.a ||| v.b)))
   have s6:=add32_cast v.d (v.up (kN i) (wAt W i))
   have s7:=add32_cast (v.up (kN i) (wAt W i)) v.over
   rw [<-HU.out] at s4
   rw [<-HO.out] at s5
   have HLT:=Hd hlt
   have HST:Hid (∀ w',PB w' b ⟨p.h,wNext W i,p.n⟩->Upd (fun k=>k=b) w w'->RndAt w w' b p (i+1) (v.next (kN i) (wAt W i)) (wNext W i)):=Hd fun w' h1 h2=>HR.out.step rfl rfl h1 h2
   have H0:Hid (wNext W i=W->PB wr b ⟨p.h,wNext W i,p.n⟩/\Upd (fun k=>k=b) w wr):=Hd fun h=>by rw [h];exact ⟨HR.out.2.1,HR.out.2.2⟩
   rw [HN.out] at HST
   clear hv hpw hPB hj l1 l2 l4 l5 l6 lw HU HO HN HR hi
   generalize v.up (kN i) (wAt W i)=up at *
   generalize v.over=over at *
   generalize great v.e 6 11 25=g6 at *
   generalize great v.a 2 13 22=g2 at *
   generalize v.g ^^^ (v.e &&& (v.f ^^^ v.g))=x3 at *
   generalize v.e &&& (v.f ^^^ v.g)=x2 at *
   generalize v.f ^^^ v.g=x1 at *
   generalize (v.a &&& v.b) ||| (v.c &&& (v.a ||| v.b))=y4 at *
   generalize v.c &&& (v.a ||| v.b)=y3 at *
   generalize v.a ||| v.b=y2 at *
   generalize v.a &&& v.b=y1 at *
   generalize add32 v.h g6=z1 at *
   generalize add32 z1 x3=z2 at *
   generalize kN i=kk at *
   generalize add32 z2 kk=z3 at *
   generalize add32 v.d up=nd at *
   generalize add32 up over=na at *
   by_cases h16:i<16
   ·obtain ⟨e1,e2⟩:=HW16.out h16
    obtain ⟨p1,p2⟩:=H0.out e2
    have HF:=Hd (HST.out _ p1 p2)
    have hq:¬(15:Int)<(i:Int):=by omega
    rw [e1] at s4
    clear e1 e2 p1 p2 h16 hlt HW16 H0 HST LT
    generalize W.getD j 0=xw at *
    go_wp2_with fail
    refine (T6 _).mono ?_
    rintro e wa ⟨rfl,rfl⟩
    go_wp2_with fail
    refine (KC _).mono ?_
    rintro e wa ⟨rfl,rfl⟩
    go_wp2_with fail
    refine (T2 _).mono ?_
    rintro e wa ⟨rfl,rfl⟩
    go_wp2_with fail
    go_roundg (64-(i+1))
    case measure=>have:=HLT.out;omega
    case rel=>exact ⟨i+1,_,_,rfl,HLT.out,by congr 1,by first|rfl|exact congrArg (Value.int IntKind.u32) s7,rfl,rfl,rfl,by first|rfl|exact congrArg (Value.int IntKind.u32) s6,rfl,rfl,rfl,HF⟩
   ·have hl64:(i:Int)<64:=by omega
    have hq:(15:Int)<(i:Int):=by omega
    have LTw:=LT.out (by omega)
    clear h16 hlt HW16 H0 LT
    generalize W.getD j 0=xw at *
    generalize wAt W i=xv at *
    go_wp2_with fail
    refine LTw.mono ?_
    rintro e wa ⟨rfl,hE⟩
    have HF:=Hd (HST.out _ hE.out.1 hE.out.2)
    clear hE LTw cw
    go_wp2_with fail
    refine (T6 _).mono ?_
    rintro e wb ⟨rfl,rfl⟩
    go_wp2_with fail
    refine (KC _).mono ?_
    rintro e wb ⟨rfl,rfl⟩
    go_wp2_with fail
    refine (T2 _).mono ?_
    rintro e wb ⟨rfl,rfl⟩
    go_wp2_with fail
    go_roundg (64-(i+1))
    case measure=>have:=HLT.out;omega
    case rel=>exact ⟨i+1,_,_,rfl,HLT.out,by congr 1,by first|rfl|exact congrArg (Value.int IntKind.u32) s7,rfl,rfl,rfl,by first|rfl|exact congrArg (Value.int IntKind.u32) s6,rfl,rfl,rfl,HF⟩
  ·obtain rfl:i=64:=by omega
   obtain ⟨hv,hpw⟩:=HR.out.ok HP.out
   have HLV:=Hd (list_lt hv)
   have IX:=fun (j:Nat) (hj:j<8) W=>idx8 v j hj W
   obtain ⟨l,hl⟩:=exE (v.list)
   have HW:Hid (W.length=16/\All32 W):=Hd ⟨hpw.W,hpw.W32⟩
   have HST:Hid (p.stir=⟨addTo p.h l 8,W,p.n⟩):=Hd (by
    show (⟨addTo p.h (rndN (V8.of p.h) p.W 64).1.list 8,(rndN (V8.of p.h) p.W 64).2,p.n⟩:Pn)=_
    rw [HR.out.1,hl])
   rw [hl] at IX HLV
   have Q0:Hid (PB wr b ⟨addTo p.h l 0,W,p.n⟩/\Upd (fun k=>k=b) w wr):=Hd ⟨HR.out.2.1,HR.out.2.2⟩
   have HIX:=Hd IX
   clear hv hpw HR hlt hi hl IX
   generalize v.a=va at *
   generalize v.b=vb at *
   generalize v.c=vc at *
   generalize v.d=vd at *
   generalize v.e=ve at *
   generalize v.f=vf at *
   generalize v.g=vg at *
   generalize v.h=vh at *
   go_wp2_with fail
   go_loopg [14,15,122] 8 (fun g s14 s15 s122 wr=>∃ (j:Nat),g=8-j/\j<=8/\s122=.int .i64 (j:Int)/\Hid (PB wr b ⟨addTo p.h l j,W,p.n⟩/\Upd (fun k=>k=b) w wr))
   case atStart=>exact ⟨0,rfl,Nat.zero_le _,rfl,Q0⟩
   case round =>
    obtain ⟨j,rfl,hj,rfl,HQ⟩:=hrel
    clear Q0
    by_cases hlt:j<8
    ·have hok:Pn.Wk ⟨addTo p.h l j,W,p.n⟩:=⟨(addTo_len _ _ _).trans HP.out.h,HW.out.1,addTo_32 HP.out.h32 _ _,HW.out.2⟩
     have cj:=HQ.out.1.ch hok hlt
     simp only at cj
     rw [addTo_get p.h l j j (Nat.le_refl _)] at cj
     have fz:=HQ.out.1.frozen j
     have lb:=HQ.out.1.lt
     have ix:=HIX.out j hlt
     have hj8:(j:Int)<8:=by omega
     have s1:=add32_cast (p.h.getD j 0) (l.getD j 0)
     have HN:Hid (∀ n,PB ((wr.drewN n).setCell ⟨b,j,none⟩ (.int .u32 (add32 (p.h.getD j 0) (l.getD j 0):Nat))) b ⟨addTo p.h l (j+1),W,p.n⟩/\Upd (fun k=>k=b) w ((wr.drewN n).setCell ⟨b,j,none⟩ (.int .u32 (add32 (p.h.getD j 0) (l.getD j 0):Nat)))):=Hd fun n=>⟨(HQ.out.1.of (w':=wr.drewN n) rfl).sh hok hlt _,Upd.setCell (S:=fun k=>k=b) (p:=⟨b,j,none⟩) (HQ.out.2.drewN' n) (.inl rfl) _⟩
     have HLT:=Hd hlt
     clear hok hlt hj HQ
     generalize p.h.getD j 0=x0 at *
     generalize l.getD j 0=x1 at *
     generalize add32 x0 x1=x2 at *
     go_wp2_with fail
     go_region
     all_goals go_wp2_with fail
     all_goals go_roundg (8-(j+1))
     all_goals (first
      | (case measure=>have:=HLT.out;omega)
      | (case rel=>exact ⟨j+1,rfl,HLT.out,by congr 1,Hd (HN.out _)⟩)
      | (case rel=>exact ⟨j+1,rfl,HLT.out,by congr 1,Hd (HN.out 1)⟩))
    ·obtain rfl:j=8:=by omega
     have HG:Hid (PB wr b p.stir/\Upd (fun k=>k=b) w wr):=Hd (by rw [HST.out];exact HQ.out)
     clear hlt hj HQ
     go_wp2_with fail
     go_end0
     exact ⟨rfl,HG⟩
theorem Pn.zero_wk {q:Pn} (h:q.zero.Ok):q.Wk:=⟨h.h,h.W,h.h32,h.W32⟩
theorem Pn.stir_wk {p:Pn} (h:p.Wk):p.stir.Wk:=Pn.zero_wk (Pn.stir_ok h.h h.W h.h32 h.W32)
theorem pput_c (b:Nat) (p:Pn) (c:Nat) (w:World) (hp:p.Ok) (hc:c<256) (hb:PB w b p) :
 Calls Tryz.prog 116 #[.pointer (some ⟨b,0,none⟩),.int .u8 (c:Int)] w fun e w'=>e=.returned (.tuple #[])/\Hid (PB w' b (p.put c)/\Upd (fun k=>k=b) w w'):=by
 obtain ⟨q,hq⟩:=exE (p.n / 4)
 have hn:=hp.n
 have hq16:q<16:=by omega
 have cn:=hb.cn hp.wk
 have hx:=more8_or (p.W.getD q 0) c hc
 have hxl:=more8_lt (p.W.getD q 0) hc
 have hv:=u32_or_nat (p.W.getD q 0*256%4294967296) c (Nat.mod_lt _ (by decide)) (by omega)
 rw [hx] at hv
 rw [show ((p.W.getD q 0*256%4294967296:Nat):Int)=((p.W.getD q 0:Nat):Int)*256%4294967296 from rfl] at hv
 have ec:(c:Int)%4294967296=(c:Int):=by omega
 have eq4:(p.n:Int) / 4=(q:Int):=by omega
 have kq:(q:Int)<16:=by omega
 have kn:IntKind.i64.wrap ((p.n:Int)+1)=(p.n:Int)+1:=by simp [IntKind.wrap,IntKind.bits,IntKind.signed];omega
 have HFW:Hid ((p.fed c).Wk):=Hd (Pn.fed_wk hp hc)
 have HF:Hid (p.fed c=⟨p.h,p.W.set q (more8 (p.W.getD q 0) c),p.n+1⟩):=Hd (by unfold Pn.fed;rw [hq])
 have HPUT:Hid (p.put c=if p.n+1=64 then (p.fed c).stir.zero else p.fed c):=Hd rfl
 have HP:=Hd hp.wk
 have HQ:=Hd hq16
 have P0:Hid (∀ n,PB (w.drewN n) b p/\Upd (fun k=>k=b) w (w.drewN n)):=Hd fun n=>⟨hb.of (w':=w.drewN n) rfl,(Upd.refl _ _).drewN' n⟩
 have lb:=hb.lt
 have hnn:Hid (p.n<64):=Hd hn
 clear hp hc hb hx hn hq hq16
 go_enter Tryz.func116,Tryz.ntmps116
 go_wp2_with fail
 go_quiet (fail)
 have P1:=Hd (P0.out nq)
 generalize w.drewN nq=w0 at *
 obtain ⟨w1,hw1⟩:=exE (w0.setCell ⟨b,8+q,none⟩ (.int .u32 (more8 (p.W.getD q 0) c:Nat)))
 obtain ⟨w2,hw2⟩:=exE (w1.setCell ⟨b,24,none⟩ (.int .i64 ((p.n:Int)+1)))
 have Q1:PB w1 b ⟨p.h,p.W.set q (more8 (p.W.getD q 0) c),p.n⟩:=by rw [<-hw1];exact P1.out.1.sw HP.out HQ.out _
 have W1:Pn.Wk ⟨p.h,p.W.set q (more8 (p.W.getD q 0) c),p.n⟩:=⟨HP.out.h,by rw [List.length_set];exact HP.out.W,HP.out.h32,HP.out.W32.set _ hxl⟩
 have Q2:PB w2 b (p.fed c):=by
  rw [<-hw2,HF.out]
  have:=Q1.sn W1 (p.n+1)
  simpa using this
 have U2:Hid (Upd (fun k=>k=b) w w2):=Hd (by
  rw [<-hw2,<-hw1]
  exact Upd.setCell (p:=⟨b,24,none⟩) (Upd.setCell (p:=⟨b,8+q,none⟩) P1.out.2 (.inl rfl) _) (.inl rfl) _)
 have d0:=P1.out.1.cw HP.out HQ.out
 have f0:=P1.out.1.frozen (8+q)
 have l0:=P1.out.1.lt
 have d1:w1.cell? ⟨b,24,none⟩=some (.int .i64 (p.n:Int)):=Q1.cn W1
 have f1:=Q1.frozen 24
 have l1:=Q1.lt
 have d2:w2.cell? ⟨b,24,none⟩=some (.int .i64 ((p.n:Int)+1)):=by
  have:=Q2.cn HFW.out
  rw [HF.out] at this
  simpa using this
 have f2:=Q2.frozen 24
 have l2:=Q2.lt
 have HQ2:=Hd Q2
 have ST:=stir_c b (p.fed c) w2 HFW.out Q2
 clear Q1 W1 Q2 P1 P0 hxl cn lb
 generalize more8 (p.W.getD q 0) c=xv at *
 generalize p.W.getD q 0=x0 at *
 by_cases h64:p.n+1=64
 ·have hk:((p.n:Int)+1 == 64)=true:=by simp;omega
  have hk2:(p.n:Int)+1=64:=by omega
  rw [hk2] at hw2 d2 hk kn
  rw [if_pos h64] at HPUT
  have SW:Hid ((p.fed c).stir.Wk):=Hd (Pn.stir_wk HFW.out)
  clear h64 HF HFW HQ2
  generalize (p.fed c).stir=ps at *
  go_wp2_with fail
  refine ST.mono ?_
  rintro e w3 ⟨rfl,hE⟩
  have f3:=hE.out.1.frozen 24
  have l3:=hE.out.1.lt
  have HG:Hid (PB (w3.setCell ⟨b,24,none⟩ (.int .i64 0)) b (p.put c)/\Upd (fun k=>k=b) w (w3.setCell ⟨b,24,none⟩ (.int .i64 0))):=Hd ⟨by rw [HPUT.out];exact hE.out.1.sn SW.out 0,Upd.setCell (S:=fun k=>k=b) (p:=⟨b,24,none⟩) (U2.out.trans hE.out.2) (.inl rfl) _⟩
  have d3:∃ v,w3.cell? ⟨b,24,none⟩=some v:=⟨_,hE.out.1.cn SW.out⟩
  obtain ⟨v3,d3⟩:=d3
  clear ST hE HPUT U2
  go_wp2_with fail
  go_end0
  exact ⟨rfl,HG⟩
 ·have hk:((p.n:Int)+1 == 64)=false:=by simp;omega
  rw [if_neg h64] at HPUT
  have HG:Hid (PB w2 b (p.put c)/\Upd (fun k=>k=b) w w2):=Hd ⟨by rw [HPUT.out];exact HQ2.out,U2.out⟩
  clear h64 ST HQ2 U2 HPUT HF HFW
  go_wp2_with fail
  go_end0
  exact ⟨rfl,HG⟩
theorem strIdx {P:Program} (t:TypeId) (s:ByteArray) (k:Nat) (d:UInt8) (ht:P.underlying t=some .string) (h:s[k]?=some d) (w:World) :
 (Instr.index t (.string s) (.int .i64 (k:Int))).run P w=.ok (.int .u8 (d.toNat:Int)) w:=by
 simp [Instr.index,asIntOf,run_underlying ht,h]
theorem byteL_at {s:ByteArray} {k:Nat} (h:k<s.size):∃ c:UInt8,s[k]?=some c/\(byteL s).take (k+1)=(byteL s).take k++[c.toNat]:=by
 have hl:k<s.data.toList.length:=by rw [<-Lib.size_eq];exact h
 refine ⟨s.data.toList[k],by rw [getElem?_pos _ k h];rfl,?_⟩
 unfold byteL
 rw [List.take_succ_eq_append_getElem (by simpa using hl)]
 simp
theorem rep_puts (p:Pn) (m:Nat):p.puts (List.replicate (m+1) 0)=(p.puts (List.replicate m 0)).put 0:=by
 rw [List.replicate_succ',Pn.puts_snoc]
theorem puts_n0:∀ (m:Nat) (p:Pn),p.n<64->(p.puts (List.replicate m 0)).n=(p.n+m)%64
 | 0,p,h=>by show p.n=_;rw [Nat.add_zero,Nat.mod_eq_of_lt h]
 | m+1,p,h=>by
   rw [rep_puts,Pn.put_n,puts_n0 m p h]
   split <;> omega
theorem zeros_stop {n m:Nat} (hn:n<64) (hm:m<=zerosN n):(n+m)%64=56 ↔ m=zerosN n:=by
 unfold zerosN at *;omega
theorem outL_len (h:List Nat):(outL h).length=32:=by simp [outL]
theorem outL_take (h:List Nat) (i:Nat) (hi:i<32):(outL h).take (i+1)=(outL h).take i++[UInt8.ofNat (h.getD (i / 4) 0 / 2 ^ (24-i%4*8))]:=by
 rw [List.take_succ_eq_append_getElem (by rw [outL_len];exact hi)]
 simp [outL]
theorem sizeL_take (n j:Nat) (hj:j<8):(sizeL n).take (j+1)=(sizeL n).take j++[n*8 / 2 ^ (56-8*j)%256]:=by
 rw [List.take_succ_eq_append_getElem (by simp [sizeL];omega)]
 simp [sizeL]
def PrAt (w wr:World) (b:Nat) (p:Pn):Prop:=p.Ok/\PB wr b p/\Below w.heap.size w wr/\b=w.heap.size
def outC (h:List Nat) (i:Nat):List Value:=bytesC ((outL h).take i)++List.replicate (32-i) (.int .u8 0)
theorem outC_len (h:List Nat) (i:Nat) (hi:i<=32):(outC h i).length=32:=by
 unfold outC bytesC
 rw [List.length_append,List.length_map,List.length_take,outL_len,List.length_replicate];omega
theorem outC_set (h:List Nat) (i:Nat) (hi:i<32):(outC h i).set i (.int .u8 ((UInt8.ofNat (h.getD (i / 4) 0 / 2 ^ (24-i%4*8))).toNat:Int))=outC h (i+1):=by
 have hl:(bytesC ((outL h).take i)).length=i:=by unfold bytesC;rw [List.length_map,List.length_take,outL_len];omega
 unfold outC
 rw [List.set_append_right _ _ (by omega),hl,Nat.sub_self,outL_take h i hi,bytesC_append,show 32-i=(32-(i+1))+1 by omega,List.replicate_succ,List.set_cons_zero]
 simp [bytesC]
theorem conv_out (h:List Nat) (W:World) (g:Nat) (hg:W.heap[g]?=some (.cells (outC h 32).toArray 212 (0,0))):(convert 91 9 (.slice (some ⟨g,0,none⟩) 32 32)).run Tryz.prog W=.ok (.string ⟨(outL h).toArray⟩) W:=by
 have:=run_convert_bytes_arg (P:=Tryz.prog) W 91 5 Tryz.underlying91 Tryz.underlying5 g 0 32 32 ((outL h).map fun c=>(c.toNat:Int)) (by rw [List.length_map,outL_len]) (fun i hi=>by
  rw [Nat.zero_add]
  refine cell_lit hg ?_
  have hi':i<(outL h).length:=by rw [outL_len];exact hi
  unfold outC bytesC
  rw [List.take_of_length_le (by rw [outL_len];exact Nat.le_refl _)]
  simp [hi']) 9 Tryz.underlying9
 rw [this]
 congr 2
 apply ByteArray.ext
 simp only [strOfNums,List.map_map]
 rw [show ((fun n:Int=>UInt8.ofNat n.toNat) ∘ fun c:UInt8=>(c.toNat:Int))=id from funext fun c=>by simp]
 simp
def OutAt (w wr:World) (b ob:Nat) (h:List Nat) (i:Nat) (W:World):Prop:=W.heap[ob]?=some (.cells (outC h i).toArray 212 (0,0))/\W.heap[b]?=wr.heap[b]?/\Below w.heap.size w W/\b≠ob/\w.heap.size<=ob
theorem OutAt.facts {w wr W:World} {b ob:Nat} {h:List Nat} {i:Nat} (g:OutAt w wr b ob h i W) (k:Nat):W.frozen? ⟨ob,k,none⟩=false/\ob<W.heap.size:=⟨frozen_lit g.1 k,lt_of_heap g.1⟩
theorem OutAt.has {w wr W:World} {b ob:Nat} {h:List Nat} {i:Nat} (g:OutAt w wr b ob h i W) (hi:i<32):∃ v,W.cell? ⟨ob,i,none⟩=some v:=by
 have hl:i<(outC h i).length:=by rw [outC_len h i (by omega)];exact hi
 exact ⟨(outC h i)[i],cell_lit g.1 (by rw [List.getElem?_toArray,List.getElem?_eq_getElem hl])⟩
theorem OutAt.bl {w wr W:World} {b ob:Nat} {h:List Nat} {i:Nat} (g:OutAt w wr b ob h i W) (hb:b<wr.heap.size):b<W.heap.size:=by
 have:=g.2.1
 rw [Array.getElem?_eq_getElem hb] at this
 exact lt_of_heap this
theorem OutAt.set {w wr W:World} {b ob:Nat} {h:List Nat} {i:Nat} (g:OutAt w wr b ob h i W) (hi:i<32) (z:Int) (hz:z=((UInt8.ofNat (h.getD (i / 4) 0 / 2 ^ (24-i%4*8))).toNat:Int)):OutAt w wr b ob h (i+1) (W.setCell ⟨ob,i,none⟩ (.int .u8 z)):=by
 subst hz
 have h1:=heap_set_lit (i:=i) g.1 (.int .u8 ((UInt8.ofNat (h.getD (i / 4) 0 / 2 ^ (24-i%4*8))).toNat:Int))
 rw [List.setIfInBounds_toArray,outC_set h i hi] at h1
 have hu:Upd (fun k=>k=ob) W (W.setCell ⟨ob,i,none⟩ (.int .u8 ((UInt8.ofNat (h.getD (i / 4) 0 / 2 ^ (24-i%4*8))).toNat:Int))):=Upd.setCell (S:=fun k=>k=ob) (p:=⟨ob,i,none⟩) (Upd.refl _ _) (.inl rfl) _
 exact ⟨h1,(heap_set_ne _ g.2.2.2.1).trans g.2.1,g.2.2.1.trans (hu.below g.2.2.1.size fun k hk e=>by have:=g.2.2.2.2;omega),g.2.2.2⟩
theorem PrAt.put {w wr w':World} {b:Nat} {p:Pn} {c:Nat} (h:PrAt w wr b p) (hc:c<256) (hb:PB w' b (p.put c)) (hu:Upd (fun k=>k=b) wr w'):PrAt w w' b (p.put c) :=
 ⟨Pn.put_ok h.1 hc,hb,h.2.2.1.trans (hu.below h.2.2.1.size fun k hk e=>by have:=h.2.2.2;omega),h.2.2.2⟩
theorem pr_put {w wr:World} {b:Nat} {p:Pn} (h:PrAt w wr b p) (c:Nat) (hc:c<256):Calls Tryz.prog 116 #[.pointer (some ⟨b,0,none⟩),.int .u8 (c:Int)] wr fun e w'=>e=.returned (.tuple #[])/\Hid (PrAt w w' b (p.put c)):=by
 refine (pput_c b p c wr h.1 hc h.2.1).mono ?_
 rintro e w' ⟨rfl,hE⟩
 exact ⟨rfl,Hd (h.put hc hE.out.1 hE.out.2)⟩
theorem Print_c (s:ByteArray) (w:World) (hs:s.size<=1000000) :
 Calls Tryz.prog 63 #[.string s] w fun e w'=>e=.returned (.string (prB s))/\Hid (Below w.heap.size w w'):=by
 obtain ⟨b,hb⟩:=exE (w.heap.size)
 have R0:Hid (∀ W,W=w.alloc (.cells (pnCells pn0.h pn0.W 0).toArray 210)->PrAt w W b (pn0.puts ((byteL s).take 0))):=Hd fun W hW=>by
  subst hW
  exact ⟨pn0_ok,by rw [<-hb];exact heap_alloc_new _ _,(Below.refl _ _).alloc (Nat.le_refl _) _,hb.symm⟩
 have HSL:=Hd hs
 go_enter Tryz.func63,Tryz.ntmps63
 go_wp2_with fail
 have R1:=Hd (R0.out _ rfl)
 rw [show (pnCells pn0.h pn0.W 0).toArray=#[Value.int IntKind.u32 1779033703,Value.int IntKind.u32 3144134277,Value.int IntKind.u32 1013904242,Value.int IntKind.u32 2773480762,Value.int IntKind.u32 1359893119,Value.int IntKind.u32 2600822924,Value.int IntKind.u32 528734635,Value.int IntKind.u32 1541459225,Value.int IntKind.u32 0,Value.int IntKind.u32 0,Value.int IntKind.u32 0,Value.int IntKind.u32 0,Value.int IntKind.u32 0,Value.int IntKind.u32 0,Value.int IntKind.u32 0,Value.int IntKind.u32 0,Value.int IntKind.u32 0,Value.int IntKind.u32 0,Value.int IntKind.u32 0,Value.int IntKind.u32 0,Value.int IntKind.u32 0,Value.int IntKind.u32 0,Value.int IntKind.u32 0,Value.int IntKind.u32 0,Value.int IntKind.i64 0] from rfl] at R1
 clear R0
 go_loopg [4,13] s.size (fun g s4 s13 wr=>∃ (i:Nat),g=s.size-i/\i<=s.size/\s13=.int .i64 (i:Int)/\Hid (PrAt w wr b (pn0.puts ((byteL s).take i))))
 case atStart=>exact ⟨0,rfl,Nat.zero_le _,rfl,R1⟩
 case round =>
  obtain ⟨i,rfl,hi,rfl,HR⟩:=hrel
  clear R1
  by_cases hlt:i<s.size
  ·obtain ⟨c,hc,htk⟩:=byteL_at hlt
   have hidx:=fun W=>strIdx (P:=Tryz.prog) 9 s i c Tryz.underlying9 hc W
   have PT:=pr_put HR.out c.toNat c.toNat_lt
   rw [<-Pn.puts_snoc,<-htk] at PT
   have HLT:=Hd hlt
   have hsm:i<=1000000:=by have:=HSL.out;omega
   clear hc htk HR hi
   go_wp2_with fail
   refine PT.mono ?_
   rintro e wa ⟨rfl,HE⟩
   clear PT hidx hlt
   go_wp2_with fail
   go_roundg (s.size-(i+1))
   case measure=>have:=HLT.out;omega
   case rel=>exact ⟨i+1,rfl,HLT.out,by congr 1,HE⟩
  ·obtain rfl:i=s.size:=by omega
   have hA:pn0.puts ((byteL s).take s.size)=pn0.puts (byteL s):=by rw [List.take_of_length_le (by unfold byteL;rw [List.length_map,<-Lib.size_eq];exact Nat.le_refl _)]
   rw [hA] at HR
   have PT:=pr_put HR.out 128 (by decide)
   rw [show (pn0.puts (byteL s)).put 128=pnA s from rfl,show ((128:Nat):Int)=128 from rfl] at PT
   clear hA HR hlt hi
   go_wp2_with fail
   refine PT.mono ?_
   rintro e wa ⟨rfl,HE⟩
   clear PT
   obtain ⟨z,hz⟩:=exE (zerosN (pnA s).n)
   have HZ:=Hd hz
   clear hz
   go_wp2_with fail
   go_loopg [] z (fun g wr=>∃ (m:Nat),g=z-m/\m<=z/\Hid (PrAt w wr b ((pnA s).puts (List.replicate m 0))))
   case atStart=>exact ⟨0,rfl,Nat.zero_le _,HE⟩
   case round =>
    obtain ⟨m,rfl,hm,HR⟩:=hrel
    clear HE
    have hnA:=(pnA_ok s).n
    have cn:=HR.out.2.1.cn HR.out.1.wk
    have lb:=HR.out.2.1.lt
    rw [puts_n0 m _ hnA] at cn
    have hst:=zeros_stop hnA (by rw [HZ.out];exact hm)
    rw [HZ.out] at hst
    have hP56:((((pnA s).n+m)%64:Nat):Int)=56 ↔ m=z:=by rw [<-hst];omega
    by_cases hlt:m<z
    ·have PT:=pr_put HR.out 0 (by decide)
     rw [<-rep_puts,show ((0:Nat):Int)=0 from rfl] at PT
     have hne:¬((((pnA s).n+m)%64:Nat):Int)=56:=fun h=>by have:=hP56.1 h;omega
     have HLT:=Hd hlt
     clear hP56 hst HR hm hnA hlt
     generalize ((pnA s).n+m)%64=nn at *
     go_wp2_with fail
     refine PT.mono ?_
     rintro e wc ⟨rfl,HE⟩
     clear PT cn hne lb
     go_wp2_with fail
     go_roundg (z-(m+1))
     case measure=>have:=HLT.out;omega
     case rel=>exact ⟨m+1,rfl,HLT.out,HE⟩
    ·obtain rfl:m=z:=by omega
     have heq:=hP56.2 rfl
     have hB:(pnA s).puts (List.replicate m 0)=pnB s:=by rw [<-HZ.out];rfl
     rw [hB] at HR
     have R2:Hid (PrAt w wr b ((pnB s).puts ((sizeL s.size).take 0))):=Hd HR.out
     clear hP56 hst hB hm hnA hlt HR HZ
     generalize ((pnA s).n+m)%64=nn at *
     go_wp2_with fail
     go_loopg [5] 8 (fun g s5 wr=>∃ (j:Nat),g=8-j/\j<=8/\s5=.int .i64 (56-8*(j:Int))/\Hid (PrAt w wr b ((pnB s).puts ((sizeL s.size).take j))))
     case atStart=>exact ⟨0,rfl,Nat.zero_le _,rfl,R2⟩
     case round =>
      obtain ⟨j,rfl,hj,rfl,HR⟩:=hrel
      clear R2 cn lb heq
      have kc:(s.size:Int)%18446744073709551616=(s.size:Int):=by have:=HSL.out;omega
      have km:(s.size:Int)*8%18446744073709551616=(s.size:Int)*8:=by have:=HSL.out;omega
      by_cases hlt:j<8
      ·have PT:=pr_put HR.out (s.size*8 / 2 ^ (56-8*j)%256) (Nat.mod_lt _ (by decide))
       rw [<-Pn.puts_snoc,<-sizeL_take _ _ hlt] at PT
       clear HR hj
       have h8:j=0\/j=1\/j=2\/j=3\/j=4\/j=5\/j=6\/j=7:=by omega
       clear hlt
       obtain ⟨m,hm⟩:=exE (8-(j+1))
       rcases h8 with rfl|rfl|rfl|rfl|rfl|rfl|rfl|rfl
       all_goals (
        go_wp2_with fail
        refine Calls.at_args PT ?_ ?_
        ·refine congrArg (fun z:Int=>(#[Value.pointer (some ⟨b,0,none⟩),Value.int .u8 z]:Array Value)) ?_
         have:=HSL.out
         simp only [Nat.reduceMul,Nat.reduceSub,Nat.reducePow,Nat.reduceAdd]
         omega
        ·rintro e wa ⟨rfl,HE⟩
         clear PT kc km
         go_wp2_with fail
         go_roundg m
         case measure=>omega
         case rel=>exact ⟨_,hm.symm,by decide,rfl,HE⟩)
      ·obtain rfl:j=8:=by omega
       have hC:(pnB s).puts ((sizeL s.size).take 8)=pnC s:=by rw [List.take_of_length_le (by simp [sizeL])];rfl
       rw [hC] at HR
       obtain ⟨ob,hob⟩:=exE (wr.heap.size)
       obtain ⟨hh,hhh⟩:=exE ((pnC s).h)
       have HPR:Hid (prB s=⟨(outL hh).toArray⟩):=Hd (by unfold prB;rw [hhh])
       have HX:Hid (∀ k,hh.getD k 0<4294967296):=Hd fun k=>by rw [<-hhh];exact (pnC_ok s).h32.get k
       have hbo:b<wr.heap.size:=HR.out.2.1.lt
       have HCH:Hid (∀ (W:World) k,k<8->W.heap[b]?=wr.heap[b]?->W.cell? ⟨b,k,none⟩=some (.int .u32 (hh.getD k 0:Nat))):=Hd fun W k hk hW=>by
        have:=(HR.out.2.1.of hW).ch HR.out.1.wk hk
        rwa [hhh] at this
       have R3:Hid (∀ W,W=wr.alloc (.cells (outC hh 0).toArray 212)->OutAt w wr b ob hh 0 W):=Hd fun W hW=>by
        subst hW
        exact ⟨by rw [<-hob];exact heap_alloc_new _ _,heap_alloc_lt _ hbo,HR.out.2.2.1.alloc HR.out.2.2.1.size _,by omega,by have:=HR.out.2.2.1.size;omega⟩
       have HBB:Hid (ob=wr.heap.size/\b<wr.heap.size/\w.heap.size<=wr.heap.size):=Hd ⟨hob.symm,hbo,HR.out.2.2.1.size⟩
       clear HR hC hhh hj hlt kc km hbo
       go_wp2_with fail
       have R4:=Hd (R3.out _ rfl)
       rw [show (outC hh 0).toArray=#[Value.int IntKind.u8 0,Value.int IntKind.u8 0,Value.int IntKind.u8 0,Value.int IntKind.u8 0,Value.int IntKind.u8 0,Value.int IntKind.u8 0,Value.int IntKind.u8 0,Value.int IntKind.u8 0,Value.int IntKind.u8 0,Value.int IntKind.u8 0,Value.int IntKind.u8 0,Value.int IntKind.u8 0,Value.int IntKind.u8 0,Value.int IntKind.u8 0,Value.int IntKind.u8 0,Value.int IntKind.u8 0,Value.int IntKind.u8 0,Value.int IntKind.u8 0,Value.int IntKind.u8 0,Value.int IntKind.u8 0,Value.int IntKind.u8 0,Value.int IntKind.u8 0,Value.int IntKind.u8 0,Value.int IntKind.u8 0,Value.int IntKind.u8 0,Value.int IntKind.u8 0,Value.int IntKind.u8 0,Value.int IntKind.u8 0,Value.int IntKind.u8 0,Value.int IntKind.u8 0,Value.int IntKind.u8 0,Value.int IntKind.u8 0] from rfl] at R4
       clear R3
       go_loopg [7,44] 32 (fun g s7 s44 wq=>∃ (i:Nat),g=32-i/\i<=32/\s44=.int .i64 (i:Int)/\Hid (OutAt w wr b ob hh i wq))
       case atStart=>exact ⟨0,rfl,Nat.zero_le _,rfl,R4⟩
       case round =>
        obtain ⟨i,rfl,hi,rfl,HO⟩:=hrel
        clear R4
        by_cases hlt:i<32
        ·have cc:=HCH.out _ (i / 4) (by omega) HO.out.2.1
         have hx:=HX.out (i / 4)
         have HN:=HO.out.set hlt
         obtain ⟨f1,f2⟩:=HO.out.facts i
         obtain ⟨v9,f3⟩:=HO.out.has hlt
         have lb:=HO.out.bl HBB.out.2.1
         clear hi HO
         generalize hh.getD (i / 4) 0=x at *
         obtain ⟨m,hm⟩:=exE (32-(i+1))
         have h32:i=0\/i=1\/i=2\/i=3\/i=4\/i=5\/i=6\/i=7\/i=8\/i=9\/i=10\/i=11\/i=12\/i=13\/i=14\/i=15\/i=16\/i=17\/i=18\/i=19\/i=20\/i=21\/i=22\/i=23\/i=24\/i=25\/i=26\/i=27\/i=28\/i=29\/i=30\/i=31:=by omega
         clear hlt
         rcases h32 with rfl|rfl|rfl|rfl|rfl|rfl|rfl|rfl|rfl|rfl|rfl|rfl|rfl|rfl|rfl|rfl|rfl|rfl|rfl|rfl|rfl|rfl|rfl|rfl|rfl|rfl|rfl|rfl|rfl|rfl|rfl|rfl
         all_goals (
          simp only [Nat.reduceDiv,Nat.zero_div] at cc
          have HN2:=Hd HN
          clear HN
          go_wp2_with fail
          go_roundg m
          case measure=>omega
          case rel =>
           refine ⟨_,hm.symm,by decide,rfl,Hd (HN2.out _ ?_)⟩
           rw [UInt8.toNat_ofNat']
           simp only [Nat.reduceMul,Nat.reduceSub,Nat.reducePow,Nat.reduceMod,Nat.reduceDiv]
           omega)
        ·obtain rfl:i=32:=by omega
         have hg:=HO.out.1
         have cv:=fun W (hW:W.heap[ob]?=some (.cells (outC hh 32).toArray 212 (0,0)))=>conv_out hh W ob hW
         have cv2:=cv _ hg
         have HB:=Hd HO.out.2.2.1
         have lo:=lt_of_heap hg
         clear hi hlt HO cv hg HCH
         go_wp2_with fail
         go_ret
         exact ⟨by rw [HPR.out];rfl,HB⟩
set_option maxHeartbeats 1000000
def pgB (s:ByteArray):ByteArray:=⟨#[0,0,0,0,0,UInt8.ofNat s.size]⟩++s
theorem pgB_size (s:ByteArray):(pgB s).size=6+s.size:=by
 unfold pgB;rw [ByteArray.size_append];rfl
theorem strSix (x:UInt8):strOfNums [0,0,0,0,0,(x.toNat:Int)]=⟨#[0,0,0,0,0,x]⟩:=by
 apply ByteArray.ext
 simp [strOfNums]
theorem conv_six (x:UInt8) (g:Nat) (W:World) (h0:W.cell? ⟨g,0,none⟩=some (.int .u8 0)) (h1:W.cell? ⟨g,1,none⟩=some (.int .u8 0)) (h2:W.cell? ⟨g,2,none⟩=some (.int .u8 0)) (h3:W.cell? ⟨g,3,none⟩=some (.int .u8 0)) (h4:W.cell? ⟨g,4,none⟩=some (.int .u8 0)) (h5:W.cell? ⟨g,5,none⟩=some (.int .u8 (x.toNat:Int))) :
 (convert 91 9 (.slice (some ⟨g,0,none⟩) 6 6)).run Tryz.prog W=.ok (.string ⟨#[0,0,0,0,0,x]⟩) W:=by
 have:=run_convert_bytes_arg (P:=Tryz.prog) W 91 5 Tryz.underlying91 Tryz.underlying5 g 0 6 6 [0,0,0,0,0,(x.toNat:Int)] rfl (fun i hi=>by
  have:i=0\/i=1\/i=2\/i=3\/i=4\/i=5:=by omega
  rcases this with rfl|rfl|rfl|rfl|rfl|rfl
  ·exact h0
  ·exact h1
  ·exact h2
  ·exact h3
  ·exact h4
  ·exact h5) 9 Tryz.underlying9
 rwa [strSix] at this
theorem page_c (s:ByteArray) (w:World) (hs:s.size<=128) :
 Calls Tryz.prog 173 #[.int .i64 0,.string s] w fun e w'=>e=.returned (.string (pgB s))/\Hid (Below w.heap.size w w'):=by
 have u1:(UInt8.ofNat s.size).toNat=s.size:=by rw [UInt8.toNat_ofNat'];omega
 have hcv:=conv_six (UInt8.ofNat s.size) w.heap.size (w.alloc (.cells #[.int .u8 0,.int .u8 0,.int .u8 0,.int .u8 0,.int .u8 0,.int .u8 ((UInt8.ofNat s.size).toNat:Int)] 5)) (cell_lit (heap_alloc_new _ _) rfl) (cell_lit (heap_alloc_new _ _) rfl) (cell_lit (heap_alloc_new _ _) rfl) (cell_lit (heap_alloc_new _ _) rfl) (cell_lit (heap_alloc_new _ _) rfl) (cell_lit (heap_alloc_new _ _) rfl)
 rw [u1] at hcv
 have HB:Hid (∀ o:Obj,Below w.heap.size w (w.alloc o)):=Hd fun o=>(Below.refl w.heap.size w).alloc (Nat.le_refl _) o
 have HE:Hid (pgB s=(⟨#[0,0,0,0,0,UInt8.ofNat s.size]⟩:ByteArray)++s):=Hd rfl
 have hz:(⟨#[0,0,0,0,0,UInt8.ofNat s.size]⟩:ByteArray).size=6:=rfl
 generalize (⟨#[0,0,0,0,0,UInt8.ofNat s.size]⟩:ByteArray)=hd at *
 have ha:(hd.size+s.size > 9223372036854775807)=False:=by simp;omega
 have ha2:(9223372036854775807<hd.size+s.size)=False:=ha
 have d1:(s.size:Int) / 256=0:=by omega
 have d2:(s.size:Int)%256=(s.size:Int):=by omega
 have b0:(0:Int)<=(s.size:Int):=by omega
 have b1:(s.size:Int)<=128:=by omega
 generalize pgB s=R at *
 clear u1 hz hs
 go_enter Tryz.func173,Tryz.ntmps173
 go_wp2_with fail
 go_ret
 exact ⟨by rw [HE.out];rfl,HB.out _⟩
theorem pg_get (s:ByteArray) (hs:s.size<=128):(∀ k,k<5->(pad (pgB s))[k]?=some 0)/\(pad (pgB s))[5]?=some (UInt8.ofNat s.size)/\(pad (pgB s)).extract 6 (6+s.size)=s/\(pad (pgB s)).size=512:=by
 have hl:(pad (pgB s)).data.toList=[0,0,0,0,0,UInt8.ofNat s.size]++(s.data.toList++List.replicate (512-(pgB s).size) 0):=by
  unfold pad pgB;simp
 have hsz:(pad (pgB s)).size=512:=pad_size (by rw [pgB_size];omega)
 have hg:∀ k,(h:k<512)->(pad (pgB s))[k]?=(pad (pgB s)).data.toList[k]?:=fun k h=>by
  rw [getElem?_pos _ k (by rw [hsz];exact h),List.getElem?_eq_getElem (by rw [<-Lib.size_eq,hsz];exact h)]
  rfl
 refine ⟨fun k hk=>?_,?_,?_,hsz⟩
 ·rw [hg k (by omega),hl]
  have:k=0\/k=1\/k=2\/k=3\/k=4:=by omega
  rcases this with rfl|rfl|rfl|rfl|rfl <;> rfl
 ·rw [hg 5 (by omega),hl];rfl
 ·apply ByteArray.ext
  apply Array.ext'
  rw [ByteArray.data_extract,Array.toList_extract,List.extract,hl]
  rw [Lib.size_eq]
  simp
theorem read_b (G:Nat->Prop) (rb n m:Nat) (S:RS) (p:Nat) (s:ByteArray) (w:World) (h:RmS w G rb n m S) (hm:m<=4000000) (hs:s.size<=128) (hu:S.used p=true) (hc:S.cont p=pad (pgB s)) :
 Calls Tryz.prog 168 #[.pointer (some ⟨rb,0,none⟩),.int .i64 (p:Int)] w fun e w'=>e=.returned (.tuple #[.int .i64 0,.string s,.int .i64 0])/\Hid (Below w.heap.size w w'):=by
 obtain ⟨puts,h1,h2,h3⟩:=h
 have RD:=PRead_c G rb n puts S p w h2 h3 (by omega) hu
 rw [hc] at RD
 obtain ⟨g0,g5,hex,hz⟩:=pg_get s hs
 generalize pad (pgB s)=z at *
 have i0:=fun W=>run_idx_str (P:=Tryz.prog) 9 z 0 0 Tryz.underlying9 (g0 0 (by decide)) W
 have i1:=fun W=>run_idx_str (P:=Tryz.prog) 9 z 1 0 Tryz.underlying9 (g0 1 (by decide)) W
 have i2:=fun W=>run_idx_str (P:=Tryz.prog) 9 z 2 0 Tryz.underlying9 (g0 2 (by decide)) W
 have i3:=fun W=>run_idx_str (P:=Tryz.prog) 9 z 3 0 Tryz.underlying9 (g0 3 (by decide)) W
 have i4:=fun W=>run_idx_str (P:=Tryz.prog) 9 z 4 0 Tryz.underlying9 (g0 4 (by decide)) W
 have i5:=fun W=>run_idx_str (P:=Tryz.prog) 9 z 5 _ Tryz.underlying9 g5 W
 rw [show (UInt8.ofNat s.size).toNat=s.size by rw [UInt8.toNat_ofNat'];omega] at i5
 simp only [show ((0:Nat):Int)=0 from rfl,show ((1:Nat):Int)=1 from rfl,show ((2:Nat):Int)=2 from rfl,show ((3:Nat):Int)=3 from rfl,show ((4:Nat):Int)=4 from rfl,show ((5:Nat):Int)=5 from rfl,show (0:UInt8).toNat=0 from rfl] at i0 i1 i2 i3 i4 i5
 have o0:bits .or .i64 0 0=0:=by decide
 have oo:∀ k:Fin 129,bits .or .i64 0 (k.val:Int)=(k.val:Int):=by decide +kernel
 have o1:bits .or .i64 0 (s.size:Int)=(s.size:Int):=oo ⟨s.size,by omega⟩
 have HEX:=Hd hex
 obtain ⟨k,hk⟩:=exE (s.size)
 rw [hk] at i5 o1 hex hs
 have b1:(k:Int)<=128:=by omega
 have t1:(6+(k:Int)).toNat=6+k:=by omega
 have l1:¬(506:Int)<(k:Int):=by omega
 clear h2 h3 hu hc g0 g5 hk oo
 go_enter Tryz.func168,Tryz.ntmps168
 go_wp2_with fail
 refine RD.mono ?_
 rintro e w1 ⟨rfl,hb⟩
 have HB:=Hd hb
 clear RD hb
 go_wp2_with fail
 go_quiet (fail)
 go_wp2_with fail
 go_quiet (fail)
 go_wp2_with fail
 go_quiet (fail)
 go_wp2_with fail
 go_ret3
 exact ⟨rfl,Hd (Below.drewN (Below.drewN HB.out _) _)⟩
theorem own_le9 {w:World} {base base' size n:Nat} {e:TypeId} {v:Value} {xs:List Value} (h:w.ownsRow base e size v n xs) (hb:base'<=base):w.ownsRow base' e size v n xs :=
 ⟨h.1,h.2.imp id (fun ⟨g,cap,cur,a,b,c⟩=>⟨g,cap,cur,a,Nat.le_trans hb b,c⟩)⟩
theorem rowi_kept {w w':World} {base n b:Nat} {v:Value} {xs:List Value} (h:w.ownsRow base 3 1 v n xs) (hk:Lib.OthersKept 5 (some b) w w') (hb:v.ownBlock≠some b):w'.ownsRow base 3 1 v n xs:=by
 refine ⟨h.1,?_⟩
 rcases h.2 with h0|⟨g,cap,cur,rfl,hbg,hg,rest⟩
 ·exact .inl h0
 ·exact .inr ⟨g,cap,cur,rfl,hbg,hk g _ hg (fun e=>hb e) (fun c fz e=>by cases e),rest⟩
theorem bld_blank {w w':World} (h:w'.heap[w.heap.size]?=some (.cells #[.pointer none,.slice none 0 0] 156 (0,0))):Bld w.heap.size w.heap.size [] w' :=
 .inl ⟨Nat.le_refl _,_,h,World.ownsRowF_of (World.ownsRow_nil _ _ _ _),by simp [Value.ownBlock]⟩
theorem bld_strK (B b:Nat) (l:List UInt8) (S:ByteArray) (w:World) (h:Bld B b l w) (hB:B<=w.heap.size) (hl:l.length+S.size<=100000000000) :
 Calls Tryz.prog 82 #[.pointer (some ⟨b,0,none⟩),.string S] w fun e w'=>e=.returned (.tuple #[.int .i64 S.size,.nilIface])/\Hid (Bld B b (l++S.data.toList) w'/\Below B w w'/\Lib.OthersKept 5 (some b) w w'):=by
 refine (Tryz.Builder_WriteString_k B b (Lib.byteCells l) S w h (by rw [byteCells_length];omega) hB).mono ?_
 rintro e w' ⟨rfl,h1,h2,h3⟩
 refine ⟨rfl,Hd ⟨?_,h2,h3⟩⟩
 have:=Bld.of (l:=l++S.data.toList) (by simpa [Lib.byteCells,Lib.strCells] using h1)
 exact this
theorem walk_b (G:Nat->Prop) (rb n m:Nat) (S:RS) (p:Nat) (s:ByteArray) (w:World) (h:RmS w G rb n m S) (hm:m<=4000000) (hs:s.size<=128) (hu:S.used p=true) (hc:S.cont p=pad (pgB s)) :
 Calls Tryz.prog 117 #[.pointer (some ⟨rb,0,none⟩),.int .i64 (p:Int)] w fun e w'=>∃ v,e=.returned (.tuple #[v,.string s,.int .i64 0])/\Hid (w'.ownsRow w.heap.size 3 1 v 1 [.int .i64 (p:Int)]/\Below w.heap.size w w'):=by
 obtain ⟨jI,hjI,hI0,hI1,hI2⟩:=info_parts infoI
 obtain ⟨w0,hw0⟩:=exE (w.alloc (.cells #[.pointer none,.slice none 0 0] 156))
 have hb0:Below w.heap.size w w0:=by rw [<-hw0];exact (Below.refl w.heap.size w).alloc (Nat.le_refl _) _
 have hk0:w0.heap[w.heap.size]?=some (.cells #[.pointer none,.slice none 0 0] 156 (0,0)):=by rw [<-hw0];exact heap_alloc_new _ _
 have RD:=read_b G rb n m S p s w0 (h.below hb0) hm hs hu hc
 have HB0:=Hd hb0
 have HK0:=Hd hk0
 have HS:=Hd hs
 have HL:Hid (([]:List Nat).length+1<=maxLen/\(([]:List Nat).length+1)*8<=140737488355328):=Hd (by unfold maxLen;decide)
 clear h hm hs hu hc hb0 hk0
 go_enter Tryz.func117,Tryz.ntmps117
 go_wp2_with fail
 clear hw0
 first
  | (refine wp_loop_rounds 1 ?_;rw [rounds_succ])
  | skip
 go_wp2_with fail
 refine RD.mono ?_
 rintro e w1 ⟨rfl,H1⟩
 have B1:=Hd (HB0.out.trans (H1.out.mono HB0.out.size))
 have K1:=Hd ((H1.out.block _ (lt_of_heap HK0.out)).trans HK0.out)
 have HO6:=Hd ((World.ownsRow_nil w1 w1.heap.size 3 1).alloc (.cells #[.int .i64 (p:Int)] 3))
 have HS6:Hid (w1.heap.size<=(w1.alloc (.cells #[.int .i64 (p:Int)] 3)).heap.size):=Hd (by simp)
 clear RD H1
 go_wp2_with (
  (refine chkA 191 191 ⟨_,_,by with_reducible rfl⟩ ?_
   refine wpList_append_y (by rfl) _ _ _ rfl w1.heap.size 3 jI _ 1 8 Tryz.underlying191 hjI hI0 hI1 hI2 rfl (by decide) _ _ _ (by rfl) HO6.out _ 1 _ (by rfl) (yields_boxL _ #[.int .i64 (p:Int)] _ 1 1) rfl (one1 _ rfl) HL.out.1 HL.out.2 HS6.out ?_
   intro v5 W5 ho5 hg5 ha5
   have R5:Hid (W5.ownsRow w1.heap.size 3 1 v5 1 [.int .i64 (p:Int)]):=Hd (by simpa using ho5)
   have B5:Hid (Below w1.heap.size w1 W5):=Hd (((Below.refl w1.heap.size w1).alloc (Nat.le_refl _) _).grown hg5 HS6.out (fun k e=>(HO6.out.lt k e).1))
   clear ho5 hg5 ha5))
 have K5:=(B5.out.block _ (lt_of_heap K1.out)).trans K1.out
 have hsz1:w.heap.size<=w1.heap.size:=B1.out.size
 have hsz5:w1.heap.size<=W5.heap.size:=B5.out.size
 have hne:v5.ownBlock≠some w.heap.size:=fun e=>by
  have h1:=(R5.out.lt _ e).1
  have h2:=lt_of_heap K1.out
  omega
 have WS:=bld_strK w.heap.size w.heap.size [] s W5 (bld_blank K5) (by omega) (by have:=HS.out;simp;omega)
 have HNE:=Hd hne
 have HZ:=Hd (And.intro hsz1 hsz5)
 clear K5 hsz1 hsz5 hne
 refine WS.mono ?_
 rintro e w6 ⟨rfl,H6⟩
 have ST:=Tryz.Builder_String_any_k w.heap.size w.heap.size ([]++s.data.toList) w6 H6.out.1 (by have:=H6.out.2.1.size;have:=HZ.out;omega)
 have eS:(⟨(([]++s.data.toList:List UInt8)).toArray⟩:ByteArray)=s:=by apply ByteArray.ext;simp
 rw [eS] at ST
 clear eS
 have R6:Hid (w6.ownsRow w1.heap.size 3 1 v5 1 [.int .i64 (p:Int)]):=Hd (rowi_kept R5.out H6.out.2.2 HNE.out)
 have B6:Hid (Below w.heap.size w w6):=Hd ((B1.out.trans (B5.out.mono B1.out.size)).trans H6.out.2.1)
 obtain ⟨va5,vc5,hv5⟩:∃ a c,v5=.slice a 1 c:=by
  rcases R6.out.2 with ⟨rfl,h0⟩|⟨g,cap,cur,rfl,-⟩
  ·cases h0
  ·exact ⟨_,_,rfl⟩
 subst hv5
 clear WS H6 R5 B5
 go_wp2_with fail
 refine ST.mono ?_
 rintro e w7 ⟨rfl,h71,h72,h73⟩
 have HE:Hid (w7.ownsRow w.heap.size 3 1 (.slice va5 1 vc5) 1 [.int .i64 (p:Int)]/\Below w.heap.size w w7):=Hd ⟨own_le9 (rowi_kept R6.out h73 HNE.out) HZ.out.1,B6.out.trans h72⟩
 clear ST h71 h72 h73
 go_wp2_with fail
 go_ret3
 exact ⟨_,rfl,HE⟩
theorem Get_b (G:Nat->Prop) (rb n m:Nat) (S:RS) (p:Nat) (s:ByteArray) (w:World) (h:RmS w G rb n m S) (hm:m<=4000000) (hs:s.size<=128) (hu:S.used p=true) (hc:S.cont p=pad (pgB s)) :
 Calls Tryz.prog 66 #[.pointer (some ⟨rb,0,none⟩),.int .i64 (p:Int)] w fun e w'=>e=.returned (.tuple #[.string s,.int .i64 0])/\Hid (Below w.heap.size w w'):=by
 have WK:=walk_b G rb n m S p s w h hm hs hu hc
 clear h hm hs hu hc
 go_enter Tryz.func66,Tryz.ntmps66
 go_wp2_with fail
 refine WK.mono ?_
 rintro e w1 ⟨v,rfl,H1⟩
 have HB:=Hd H1.out.2
 clear WK H1
 go_wp2_with fail
 go_ret2
 exact ⟨rfl,Hd HB.out⟩
def wrP (S:RS) (p:Nat) (s:ByteArray):RS:=⟨S.root,S.used,fun q=>if q=p then pad s else S.cont q,S.base⟩
theorem write_s (G:Nat->Prop) (rb n m:Nat) (S:RS) (p:Nat) (s:ByteArray) (w:World) (h:RmS w G rb n m S) (hm:m<=3999000) (hs:s.size<=512) (hu:S.used p=true) :
 Calls Tryz.prog 172 #[.pointer (some ⟨rb,0,none⟩),.int .i64 (p:Int),.string s] w fun e w'=>e=.returned (.int .i64 0)/\Hid (StGo w w' G rb n (m+1) (wrP S p s)):=by
 obtain ⟨puts,h1,h2,h3⟩:=h
 refine (PWrite_c G rb n puts S p s w h2 h3 (by omega) hu hs).mono ?_
 rintro e w' ⟨rfl,hg⟩
 exact ⟨rfl,Hd (StGo.of_room hg.out h1)⟩
theorem Pages_one (n:Nat) (w:World) (h:n<=506):Calls Tryz.prog 171 #[.int .i64 (n:Int)] w fun e w'=>e=.returned (.int .i64 1)/\w=w':=by
 have h1:(n:Int)<=506:=by omega
 clear h
 go_enter Tryz.func171,Tryz.ntmps171
 go_wp2_with fail
 go_ret
 exact ⟨rfl,rfl⟩
def blobS (S:RS) (p:Nat) (s:ByteArray):RS:=wrP (allocS S p) p (pgB s)
theorem put_b0 (G:Nat->Prop) (rb n m:Nat) (S:RS) (s:ByteArray) (w:World) (h:RmS w G rb n m S) (hm:m<=3900000) (hs:s.size<=128) (hf:∃ q,q<pagesN n/\S.used q=false) :
 Calls Tryz.prog 118 #[.pointer (some ⟨rb,0,none⟩),.string s] w fun e w'=>∃ p:Nat,e=.returned (.tuple #[.int .i64 (p:Int),.int .i64 0])/\Hid (p<pagesN n/\S.used p=false/\StGo w w' G rb n (m+3) (blobS S p s)):=by
 obtain ⟨jI,hjI,hI0,hI1,hI2⟩:=info_parts infoI
 have PG:=Pages_one s.size w (by omega)
 have AL:=alloc_c G rb n m S w h (by omega) hf
 have HS:=Hd hs
 have HM:=Hd hm
 have HL:Hid (([]:List Nat).length+1<=maxLen/\(([]:List Nat).length+1)*8<=140737488355328):=Hd (by unfold maxLen;decide)
 have b1:(s.size:Int)<=128:=by omega
 have m1:min (s.size:Int) 506=(s.size:Int):=by omega
 have x1:s.extract 0 s.size=s:=by apply ByteArray.ext;simp
 clear h hm hs hf
 go_enter Tryz.func118,Tryz.ntmps118
 go_wp2_with fail
 refine PG.mono ?_
 rintro e w0 ⟨rfl,rfl⟩
 clear PG
 go_wp2_with fail
 refine wp_loop_rounds 2 ?_
 rw [rounds_succ]
 go_wp2_with fail
 refine AL.mono ?_
 rintro e w1 ⟨p,rfl,H1⟩
 have P1:=Hd (And.intro H1.out.1 H1.out.2.1)
 have G1:=Hd H1.out.2.2
 have HO6:=Hd ((World.ownsRow_nil w1 w1.heap.size 3 1).alloc (.cells #[.int .i64 (p:Int)] 3))
 have HS6:Hid (w1.heap.size<=(w1.alloc (.cells #[.int .i64 (p:Int)] 3)).heap.size):=Hd (by simp)
 clear AL H1
 go_wp2_with (
  (refine chkA 191 191 ⟨_,_,by with_reducible rfl⟩ ?_
   refine wpList_append_y (by rfl) _ _ _ rfl w1.heap.size 3 jI _ 1 8 Tryz.underlying191 hjI hI0 hI1 hI2 rfl (by decide) _ _ _ (by rfl) HO6.out _ 1 _ (by rfl) (yields_boxL _ #[.int .i64 (p:Int)] _ 1 1) rfl (one1 _ rfl) HL.out.1 HL.out.2 HS6.out ?_
   intro v5 W5 ho5 hg5 ha5
   have R5:Hid (W5.ownsRow w1.heap.size 3 1 v5 1 [.int .i64 (p:Int)]):=Hd (by simpa using ho5)
   have B5:Hid (Below w1.heap.size w1 W5):=Hd (((Below.refl w1.heap.size w1).alloc (Nat.le_refl _) _).grown hg5 HS6.out (fun k e=>(HO6.out.lt k e).1))
   clear ho5 hg5 ha5))
 obtain ⟨G',r1,t1⟩:=G1.out
 have HR1:=Hd r1
 have HT1:=Hd t1
 obtain ⟨g5,vc5,hv5,hg5,hcell⟩:∃ g c,v5=.slice (some ⟨g,0,none⟩) 1 c/\w1.heap.size<=g/\W5.cell? ⟨g,0,none⟩=some (.int .i64 (p:Int)):=by
  have hr:=R5.out
  rcases hr.2 with ⟨e,h0⟩|⟨g,cap,cur,e,hb,hg,-⟩
  ·cases h0
  ·subst e
   exact ⟨g,cap,rfl,hb,(hr.cellAt 0 (by simp)).trans rfl⟩
 subst hv5
 have PC:=page_c s W5 HS.out
 have HG5:=Hd hg5
 have hgl:g5<W5.heap.size:=World.block_lt_of_cell? W5 _ hcell
 have HCELL:=Hd hcell
 have HGL:=Hd hgl
 clear G1 r1 t1 R5 hg5
 rw [rounds_succ]
 go_wp2_with fail
 refine wp_loop_rounds 2 ?_
 rw [rounds_succ]
 go_wp2_with fail
 refine PC.mono ?_
 rintro e w7 ⟨rfl,hb7⟩
 have B7:=Hd (B5.out.trans (hb7.out.mono B5.out.size))
 have C7:w7.cell? ⟨g5,0,none⟩=some (.int .i64 (p:Int)):=(hb7.out.cell (p:=⟨g5,0,none⟩) HGL.out).trans HCELL.out
 have hu:(allocS S p).used p=true:=by
  show flip S.used p p=true
  unfold flip;rw [if_pos rfl,P1.out.2];rfl
 have WR:=write_s G' rb n (m+2) (allocS S p) p (pgB s) w7 (HR1.out.below B7.out) (by have:=HM.out;omega) (by rw [pgB_size];have:=HS.out;omega) hu
 have HC7:=Hd C7
 clear PC hb7 hcell hgl hu C7
 go_wp2_with fail
 refine WR.mono ?_
 rintro e w8 ⟨rfl,H8⟩
 have GO:Hid (StGo w w8 G rb n (m+3) (blobS S p s)):=Hd (by
  obtain ⟨G2,r2,t2⟩:=H8.out
  exact ⟨G2,r2,HT1.out.trans (t2.below_left B7.out)⟩)
 have c8:w8.cell? ⟨g5,0,none⟩=some (.int .i64 (p:Int)):=by
  have hb:=H8.out.upd
  have hn:¬G' g5:=fun e=>by have:=HR1.out.lt g5 e;have:=HG5.out;omega
  exact (World.cell?_of_block (hb.block g5 (World.block_lt_of_cell? w7 _ HC7.out) hn)).trans HC7.out
 clear WR H8
 go_wp2_with fail
 rw [rounds_succ]
 go_wp2_with fail
 go_ret2
 exact ⟨p,rfl,Hd ⟨P1.out.1,P1.out.2,GO.out⟩⟩
theorem Put_b (G:Nat->Prop) (rb n m:Nat) (S:RS) (s:ByteArray) (w:World) (h:RmS w G rb n m S) (hm:m<=3900000) (hs:s.size<=128) (hf:∃ q,q<pagesN n/\S.used q=false) :
 Calls Tryz.prog 67 #[.pointer (some ⟨rb,0,none⟩),.string s] w fun e w'=>∃ p:Nat,e=.returned (.tuple #[.int .i64 (p:Int),.int .i64 0])/\Hid (p<pagesN n/\S.used p=false/\StGo w w' G rb n (m+3) (blobS S p s)):=by
 have PT:=put_b0 G rb n m S s w h hm hs hf
 have MK:∃ k:Nat,Calls Tryz.prog 114 #[.pointer (some ⟨rb,0,none⟩)] w fun e w'=>e=.returned (.int .i64 (k:Int))/\w=w':=by
  obtain ⟨puts,h1,h2,h3⟩:=h
  exact ⟨_,RMark_c G rb n puts w h2⟩
 obtain ⟨k,MK⟩:=MK
 have l1:¬(131072:Int)<(s.size:Int):=by omega
 clear h hm hs hf
 go_enter Tryz.func67,Tryz.ntmps67
 go_wp2_with fail
 refine MK.mono ?_
 rintro e w1 ⟨rfl,rfl⟩
 go_wp2_with fail
 refine PT.mono ?_
 rintro e w2 ⟨p,rfl,H2⟩
 clear PT MK
 go_wp2_with fail
 go_ret2
 exact ⟨p,rfl,H2⟩
def kindB (c:UInt8):Bool:=c == 110 || c == 104 || c == 98 || c == 116
def rightL:List UInt8->Bool
 | []=>true
 | [c]=>kindB c || c == 114
 | c::d::r=>kindB c && rightL (d::r)
theorem rightL_cons {c:UInt8} {r:List UInt8} (h:r≠[]):rightL (c::r)=(kindB c && rightL r):=by
 cases r with
 | nil=>exact absurd rfl h
 | cons d r=>rfl
theorem rightL_snoc (m:List UInt8) (c:UInt8):rightL (m++[c])=(m.all kindB && (kindB c || c == 114)):=by
 induction m with
 | nil=>simp [rightL]
 | cons a m ih =>
   rw [List.cons_append,rightL_cons (by simp),ih,List.all_cons,Bool.and_assoc]
theorem dropWhile_nil {α:Type} (p:α->Bool) (l:List α):l.dropWhile p=[] ↔ ∀ x∈l,p x=true:=by
 induction l with
 | nil=>simp
 | cons a l ih =>
   by_cases h:p a=true
   ·simp [h,ih]
   ·simp [h]
theorem trimS_nil (l cs:List UInt8):Lib.trimS l cs=[] ↔ ∀ x∈l,cs.contains x=true:=by
 unfold Lib.trimS Lib.trimLeftS Lib.trimRightS
 rw [dropWhile_nil]
 constructor
 ·intro h x hx
  have h1:x∈l.reverse:=by simpa using hx
  rw [<-List.takeWhile_append_dropWhile (p:=(cs.contains ·)) (l:=l.reverse)] at h1
  rcases List.mem_append.1 h1 with h2|h2
  ·have h4:∀ (q:UInt8->Bool) (m:List UInt8),∀ y∈m.takeWhile q,q y=true:=by
    intro q m
    induction m with
    | nil=>simp
    | cons a m ih =>
      intro y hy
      rw [List.takeWhile_cons] at hy
      split at hy
      ·rcases List.mem_cons.1 hy with rfl|hy
       ·assumption
       ·exact ih y hy
      ·simp at hy
   exact h4 _ _ x h2
  ·exact h x (by simpa using h2)
 ·intro h x hx
  exact h x (by have:=List.dropWhile_sublist (cs.contains ·) (l:=l.reverse);exact List.mem_reverse.1 (this.subset (by simpa using hx)))
theorem contains_kind (x:UInt8):[(110:UInt8),104,98,116].contains x=kindB x:=by
 simp only [List.contains_cons,List.contains_nil,Bool.or_false,kindB,Bool.or_assoc]
theorem right_trim (l:List UInt8):(Lib.trimS (Lib.trimSuffix l [114]) [110,104,98,116]=[]) ↔ rightL l=true:=by
 rw [trimS_nil]
 simp only [contains_kind]
 have hall:∀ m:List UInt8,(∀ x∈m,kindB x=true) ↔ m.all kindB=true:=fun m=>by simp [List.all_eq_true]
 rw [hall]
 rcases List.eq_nil_or_concat l with rfl|⟨m,c,rfl⟩
 ·simp [Lib.trimSuffix,Lib.hasSuffix,rightL]
 ·simp only [List.concat_eq_append]
  rw [rightL_snoc]
  by_cases hc:c=114
  ·subst hc
   have h1:Lib.trimSuffix (m++[114]) [114]=m:=by
    simp [Lib.trimSuffix,Lib.hasSuffix,List.isSuffixOf]
   rw [h1];simp
  ·have h1:Lib.trimSuffix (m++[c]) [114]=m++[c]:=by
    simp [Lib.trimSuffix,Lib.hasSuffix,List.isSuffixOf,Ne.symm hc]
   rw [h1,List.all_append]
   simp [hc]
theorem right_trim' (l:List UInt8):(Lib.trimS (Lib.trimSuffix l [114]) [110,104,98,116]).isEmpty=rightL l:=by
 rw [Bool.eq_iff_iff,List.isEmpty_iff];exact right_trim l
theorem ret_bool {a b:Bool} (h:a=b):Ending.returned (.bool a)=.returned (.bool b):=by rw [h]
set_option maxHeartbeats 400000 in
theorem Right_c (s:ByteArray) (w:World) (hs:s.size<=1000000000) :
 Calls Tryz.prog 120 #[.string s] w fun e w'=>e=.returned (.bool (rightL s.data.toList))/\Below w.heap.size w w':=by
 go_enter Tryz.func120,Tryz.ntmps120
 go_wp2_with fail
 refine (Tryz.strings_TrimSuffix s _ w (by omega)).mono ?_
 rintro e w1 ⟨rfl,rfl⟩
 have hts:(ByteArray.mk (Lib.trimSuffix s.data.toList [114]).toArray).size<=s.size:=by
  show (Lib.trimSuffix s.data.toList [114]).toArray.size<=s.size
  unfold Lib.trimSuffix
  rw [List.size_toArray]
  have:s.data.toList.length=s.size:=by simp
  split
  ·have:=List.length_take_le (s.data.toList.length-[(114:UInt8)].length) s.data.toList;omega
  ·omega
 have e1:(ByteArray.mk (Lib.trimSuffix s.data.toList [114]).toArray).data.toList=Lib.trimSuffix s.data.toList [114]:=by simp
 have HE:=Hd e1
 clear e1
 generalize hx:ByteArray.mk (Lib.trimSuffix s.data.toList _).toArray=x
 rw [show (ByteArray.mk (Lib.trimSuffix s.data.toList [114]).toArray)=x from hx] at HE hts
 clear hx
 go_wp2_with fail
 refine (Any.strings_Trim_laid Tryz.lays160 (by kernel_rfl) x ⟨#[110,104,98,116]⟩ _ (by omega) (by decide) (ascii_of_all (by decide))).mono ?_
 rintro e w2 ⟨rfl,hb⟩
 rw [HE.out]
 have Hb:=Hd hb
 clear hb
 go_wp2_with fail
 go_ret
 exact ⟨ret_bool (right_trim' _),Hb.out⟩
theorem bld_new (w:World):Bld w.heap.size w.heap.size [] (w.alloc (.cells #[.pointer none,.slice none 0 0] 156)) :=
 .inl ⟨Nat.le_refl _,_,heap_alloc_new _ _,World.ownsRowF_of (World.ownsRow_nil _ _ _ _),by simp [Value.ownBlock]⟩
theorem extract_take (s:ByteArray) (k:Nat):s.extract 0 k=⟨(s.data.toList.take k).toArray⟩:=by
 apply ByteArray.ext;apply Array.ext';simp [ByteArray.data_extract]
theorem extract_drop (s:ByteArray) (k:Nat):s.extract k s.size=⟨(s.data.toList.drop k).toArray⟩:=by
 apply ByteArray.ext;apply Array.ext'
 rw [Lib.extract_data,List.take_of_length_le (by simp)]
theorem u8_eq_toNat (c:UInt8) (n:Nat) (hn:n<256):((c.toNat:Int) == (n:Int))=(c == UInt8.ofNat n):=by
 rw [Bool.eq_iff_iff];simp only [beq_iff_eq]
 constructor
 ·intro h
  have:c.toNat=n:=by omega
  rw [<-this,UInt8.ofNat_toNat]
 ·intro h;rw [h,UInt8.toNat_ofNat'];omega
abbrev Fld:=Nat × ByteArray
def fcells (l:List Fld):List Value:=l.flatMap fun p=>[.int .u64 p.1,.string p.2]
def FldsAt (w:World) (v:Value) (l:List Fld):Prop :=
 (∃ a cap,v=.slice a l.length cap/\∀ k,(h:k<l.length)->∃ b off,a=some ⟨b,off,none⟩/\w.cell? ⟨b,off+k*2,none⟩=some (.int .u64 l[k].1)/\w.cell? ⟨b,off+k*2+1,none⟩=some (.string l[k].2)/\b<w.heap.size) /\
   ∀ p∈l,p.1<18446744073709551616
theorem FldsAt.get {w:World} {a:Option Addr} {n cap:Nat} {l:List Fld} (h:FldsAt w (.slice a n cap) l) (k:Nat) (hk:k<l.length) :
 ∃ b off,a=some ⟨b,off,none⟩/\w.cell? ⟨b,off+k*2,none⟩=some (.int .u64 l[k].1)/\w.cell? ⟨b,off+k*2+1,none⟩=some (.string l[k].2)/\b<w.heap.size:=by
 obtain ⟨⟨a',c',e,hc⟩,_⟩:=h
 cases e
 exact hc k hk
theorem FldsAt.form {w:World} {v:Value} {l:List Fld} (h:FldsAt w v l):∃ a cap,v=.slice a l.length cap:=by
 obtain ⟨⟨a,c,e,_⟩,_⟩:=h;exact ⟨a,c,e⟩
theorem FldsAt.below {w w':World} {v:Value} {l:List Fld} (h:FldsAt w v l) (hb:Below w.heap.size w w'):FldsAt w' v l:=by
 obtain ⟨⟨a,c,rfl,hc⟩,hn⟩:=h
 refine ⟨⟨a,c,rfl,fun k hk=>?_⟩,hn⟩
 obtain ⟨b,off,e,h1,h2,h3⟩:=hc k hk
 exact ⟨b,off,e,(hb.cell (p:=⟨b,off+k*2,none⟩) h3).trans h1,(hb.cell (p:=⟨b,off+k*2+1,none⟩) h3).trans h2,Nat.lt_of_lt_of_le h3 hb.size⟩
end Go.Proofs.YtdcjhpafipbpkaaGreatDoor
