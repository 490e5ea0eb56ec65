/- Parts of the proof of ChunksRuns,joined: DelG,MapC,MapD,CutA,SumA,SumB. No condition. -/
import Derived.Test.YtdcjhpafipbpkaaGreatDoorCx7
import Derived.StillTailTactics
import Derived.Laws.BitsAllLaws
import Derived.BigQuiet
import Derived.Deep.QuietTactic
set_option linter.unusedSimpArgs false
set_option linter.unusedVariables false
set_option linter.unusedSectionVars false
namespace Go.Proofs.YtdcjhpafipbpkaaGreatDoor
set_option maxRecDepth 100000
set_option maxHeartbeats 1000000
open Go.RowKit
theorem Delete_none (G:Nat -> Prop) (tb rb place n m:Nat) (S:RS) (key:ByteArray) (w:World) (h:RmS w G rb n m S) (ht:TB w tb rb place) (hg:¬ G tb) (hp:place < 16) (hm:m <= 3900000) (hr:S.root place=0) :
 Calls Tryz.prog 74 #[.pointer (some ⟨tb,0,none⟩),.string key] w fun e w'=>∃ was:Bool,e=.returned (.tuple #[.bool was,.int .i64 0]) /\ Hid (DelEnd w w' G rb n m place S none key was):=by
 have hmf:∀ (fn:Fn) (first cap:Array Value) (w:World),(Instr.makeFunc fn first cap).run Tryz.prog w=.ok (.func fn first cap) w:=fun _ _ _ _=>rfl
 have hnot:∀ (x:Bool) (w:World),(Op.unary .not (.bool x)).run Tryz.prog w=.ok (.bool (!x)) w:=fun _ _=>rfl
 have htl:=lt_of_heap ht
 obtain ⟨c0,c1⟩:=ht.cells
 have hb3:=fun k=>delW_below w tb k
 have d0:((((w.alloc (.cells #[.pointer (some ⟨tb,0,none⟩)] 103)).alloc (.cells #[.bool false] 4)).alloc (.cells #[.int .i64 0] 34)).alloc (.cells #[.int .i64 0] 3)).cell? ⟨tb,0,none⟩=some (.pointer (some ⟨rb,0,none⟩)):=(World.cell?_of_block ((hb3 0).block tb htl)).trans c0
 have M3:Hid (Calls Tryz.prog 114 #[.pointer (some ⟨rb,0,none⟩)] ((((w.alloc (.cells #[.pointer (some ⟨tb,0,none⟩)] 103)).alloc (.cells #[.bool false] 4)).alloc (.cells #[.int .i64 0] 34)).alloc (.cells #[.int .i64 0] 3)) fun e w'=>∃ k:Nat,e=.returned (.int .i64 (k:Int)) /\ w'=((((w.alloc (.cells #[.pointer (some ⟨tb,0,none⟩)] 103)).alloc (.cells #[.bool false] 4)).alloc (.cells #[.int .i64 0] 34)).alloc (.cells #[.int .i64 0] 3))):=Hd (mark_s G rb n m S _ (h.below (hb3 0)))
 have HG:=Hd h.lt
 have B0:Hid (∀ k:Int,TBase (delW w tb k) (delW w tb k) G G tb rb place n m S):=Hd fun k=>TBase.start (h.below (hb3 k)) (ht.below (hb3 k)) hg
 have HP:=Hd hp
 have HM:=Hd hm
 have HR:=Hd hr
 clear h ht hg hp hm hr hb3 c1
 go_enter_defers Tryz.func74,Tryz.ntmps74
 go_wp2_with fail
 refine M3.out.mono ?_
 rintro e w1 ⟨k,rfl,rfl⟩
 clear M3 d0
 go_wp2_with fail
 have BW:=Hd (B0.out (k:Int))
 have LW:=Hd (delW_loc w tb (k:Int))
 have SW:=Hd (delW_size w tb (k:Int))
 have BB:=Hd (delW_below w tb (k:Int))
 change Calls Tryz.prog 125 #[.pointer (some ⟨tb,0,none⟩)] (delW w tb (k:Int)) _
 generalize delW w tb (k:Int)=W0 at *
 have RT:=root_c G tb rb place n m S W0 BW.out.room BW.out.blk HP.out (by have:=HM.out; omega) (by rw [HR.out]; omega)
 rw [HR.out] at RT
 refine RT.mono ?_
 rintro e w2 ⟨rfl,hb⟩
 have B2:=Hd (BW.out.below hb.out)
 have L2:=Hd (LW.out.below hb.out)
 obtain ⟨x0,x1,x2,x3,x4,x5⟩:=L2.out.cells
 have hloc:∀ x,w.heap.size <= x -> ¬ G x:=fun x hx e=>by have:=HG.out x e; omega
 have L3:=(L2.out.setW false).setE
 have hfe:((w2.setCell ⟨w.heap.size + 1,0,none⟩ (.bool false)).setCell ⟨w.heap.size + 1 + 1,0,none⟩ (.int .i64 0)).cell? ⟨w.heap.size + 1 + 1,0,none⟩=some (.int .i64 0):=L3.cells.2.2.1
 have hfw:((w2.setCell ⟨w.heap.size + 1,0,none⟩ (.bool false)).setCell ⟨w.heap.size + 1 + 1,0,none⟩ (.int .i64 0)).cell? ⟨w.heap.size + 1,0,none⟩=some (.bool false):=L3.cells.2.1
 have HGO:Hid (DelEnd w ((w2.setCell ⟨w.heap.size + 1,0,none⟩ (.bool false)).setCell ⟨w.heap.size + 1 + 1,0,none⟩ (.int .i64 0)) G rb n m place S none key false):=Hd (by
  unfold DelEnd
  rw [if_neg (by simp)]
  exact ⟨((((StG.of B2.out BB.out).loc (by omega) (hloc _ (by omega)) 0 _).loc (by omega) (hloc _ (by omega)) 0 _).more (by omega)).go,by simp [entsO]⟩)
 clear RT hb L3
 go_wp2_with fail
 refine leaves_cons (f:=124) (args:=#[.pointer (some ⟨w.heap.size + 1 + 1,0,none⟩)]) (by simp) (by simp [go_sem]) ?_
 refine (guard_idle _ _).mono ?_
 rintro e u' wa ⟨rfl,rfl,rfl⟩
 refine leaves_cons (f:=129) (args:=#[.pointer (some ⟨w.heap.size + 1 + 1,0,none⟩),.pointer (some ⟨w.heap.size,0,none⟩),.pointer (some ⟨w.heap.size + 1,0,none⟩),.pointer (some ⟨w.heap.size + 1 + 1 + 1,0,none⟩)]) (by simp [settle]) (by simp [go_sem]) ?_
 refine (del1_idle _ _ _ _ _ _ hfe).mono ?_
 rintro e u' wb ⟨rfl,rfl,rfl⟩
 simp [Leaves,settle,results,Tryz.results74,go_sem,hfe,hfw]
 exact HGO
theorem Delete_some (G:Nat -> Prop) (tb rb place n m:Nat) (S:RS) (hh p:Nat) (t:PT hh) (key:ByteArray) (w:World) (h:RmS w G rb n m S) (ht:TB w tb rb place) (hg:¬ G tb) (hp:place < 16) (hm:m <= 3900000) (hr:S.root place=p + 1) (hT:Tr S hh p t) (hh20:hh <= 20) :
 Calls Tryz.prog 74 #[.pointer (some ⟨tb,0,none⟩),.string key] w fun e w'=>∃ was:Bool,e=.returned (.tuple #[.bool was,.int .i64 0]) /\ Hid (DelEnd w w' G rb n m place S (some ⟨hh,p,t⟩) key was):=by
 have hp65:p < 65536:=by
  have:=h.lim p hT.on.top.1
  have:=h.bounds
  unfold pagesN at *; omega
 have hmf:∀ (fn:Fn) (first cap:Array Value) (w:World),(Instr.makeFunc fn first cap).run Tryz.prog w=.ok (.func fn first cap) w:=fun _ _ _ _=>rfl
 have hnot:∀ (x:Bool) (w:World),(Op.unary .not (.bool x)).run Tryz.prog w=.ok (.bool (!x)) w:=fun _ _=>rfl
 have htl:=lt_of_heap ht
 obtain ⟨c0,c1⟩:=ht.cells
 have hb3:=fun k=>delW_below w tb k
 have d0:((((w.alloc (.cells #[.pointer (some ⟨tb,0,none⟩)] 103)).alloc (.cells #[.bool false] 4)).alloc (.cells #[.int .i64 0] 34)).alloc (.cells #[.int .i64 0] 3)).cell? ⟨tb,0,none⟩=some (.pointer (some ⟨rb,0,none⟩)):=(World.cell?_of_block ((hb3 0).block tb htl)).trans c0
 have M3:Hid (Calls Tryz.prog 114 #[.pointer (some ⟨rb,0,none⟩)] ((((w.alloc (.cells #[.pointer (some ⟨tb,0,none⟩)] 103)).alloc (.cells #[.bool false] 4)).alloc (.cells #[.int .i64 0] 34)).alloc (.cells #[.int .i64 0] 3)) fun e w'=>∃ k:Nat,e=.returned (.int .i64 (k:Int)) /\ w'=((((w.alloc (.cells #[.pointer (some ⟨tb,0,none⟩)] 103)).alloc (.cells #[.bool false] 4)).alloc (.cells #[.int .i64 0] 34)).alloc (.cells #[.int .i64 0] 3))):=Hd (mark_s G rb n m S _ (h.below (hb3 0)))
 have HG:=Hd h.lt
 have B0:Hid (∀ k:Int,TBase (delW w tb k) (delW w tb k) G G tb rb place n m S):=Hd fun k=>TBase.start (h.below (hb3 k)) (ht.below (hb3 k)) hg
 have HP:=Hd hp
 have HM:=Hd hm
 have HR:=Hd hr
 have HT:=Hd hT
 have HH:=Hd hh20
 have HP65:=Hd hp65
 clear h ht hg hp hm hr hb3 c1 hT hh20 hp65
 go_enter_defers Tryz.func74,Tryz.ntmps74
 go_wp2_with fail
 refine M3.out.mono ?_
 rintro e w1 ⟨k,rfl,rfl⟩
 clear M3 d0
 go_wp2_with fail
 have BW:=Hd (B0.out (k:Int))
 have LW:=Hd (delW_loc w tb (k:Int))
 have SW:=Hd (delW_size w tb (k:Int))
 have BB:=Hd (delW_below w tb (k:Int))
 change Calls Tryz.prog 125 #[.pointer (some ⟨tb,0,none⟩)] (delW w tb (k:Int)) _
 generalize delW w tb (k:Int)=W0 at *
 have RT:=root_c G tb rb place n m S W0 BW.out.room BW.out.blk HP.out (by have:=HM.out; omega) (by have:=HP65.out; rw [HR.out]; omega)
 rw [HR.out,show (((p + 1:Nat):Int) - 1)=(p:Int) by omega] at RT
 refine RT.mono ?_
 rintro e w2 ⟨rfl,hb⟩
 have B2:=Hd (BW.out.below hb.out)
 have L2:=Hd (LW.out.below hb.out)
 obtain ⟨x0,x1,x2,x3,x4,x5⟩:=L2.out.cells
 have hp0:¬ (p:Int) < 0:=by omega
 have RM0:=remove_c hh G tb rb place n m S p t key 0 w2 B2.out.room B2.out.blk B2.out.gt HT.out (by have:=HH.out; omega) (by have:=HM.out; have:=HH.out; omega)
 rw [show ((0:Nat):Int)=0 from rfl] at RM0
 have RM:=Hd RM0
 clear RT hb RM0
 go_wp2_with fail
 refine RM.out.mono ?_
 rintro e w3 ⟨was,q,rfl,HE⟩
 clear RM
 have he:=HE.out
 unfold RemEnd at he
 cases was with
 | false =>
   rw [if_neg (by simp)] at he
   have B3:=B2.out.trans he.1
   have hloc:∀ x,w.heap.size <= x -> ¬ G x:=fun x hx e=>by have:=HG.out x e; omega
   have L3:=LW.out.upd B3.up fun k h1 _=>hloc k h1
   obtain ⟨y0,y1,y2,y3,y4,y5⟩:=L3.cells
   have L5:=((L3.setW false).setW false).setE
   have hfe:(((w3.setCell ⟨w.heap.size + 1,0,none⟩ (.bool false)).setCell ⟨w.heap.size + 1,0,none⟩ (.bool false)).setCell ⟨w.heap.size + 1 + 1,0,none⟩ (.int .i64 0)).cell? ⟨w.heap.size + 1 + 1,0,none⟩=some (.int .i64 0):=L5.cells.2.2.1
   have hfw:(((w3.setCell ⟨w.heap.size + 1,0,none⟩ (.bool false)).setCell ⟨w.heap.size + 1,0,none⟩ (.bool false)).setCell ⟨w.heap.size + 1 + 1,0,none⟩ (.int .i64 0)).cell? ⟨w.heap.size + 1,0,none⟩=some (.bool false):=L5.cells.2.1
   have HGO:Hid (DelEnd w (((w3.setCell ⟨w.heap.size + 1,0,none⟩ (.bool false)).setCell ⟨w.heap.size + 1,0,none⟩ (.bool false)).setCell ⟨w.heap.size + 1 + 1,0,none⟩ (.int .i64 0)) G rb n m place S (some ⟨hh,p,t⟩) key false):=Hd (by
    unfold DelEnd
    rw [if_neg (by simp)]
    exact ⟨(((((StG.of B3 BB.out).loc (by omega) (hloc _ (by omega)) 0 _).loc (by omega) (hloc _ (by omega)) 0 _).loc (by omega) (hloc _ (by omega)) 0 _).more (by omega)).go,he.2⟩)
   have z1:=(L3.setW false).cells
   have z2:=z1.2.1
   have z3:=z1.2.2.2.1
   clear he HE L3 L5 B3 z1 x0 x1 x2 x3 x4 x5
   go_wp2_with fail
   refine leaves_cons (f:=124) (args:=#[.pointer (some ⟨w.heap.size + 1 + 1,0,none⟩)]) (by simp) (by simp [go_sem]) ?_
   refine (guard_idle _ _).mono ?_
   rintro e u' wa ⟨rfl,rfl,rfl⟩
   refine leaves_cons (f:=129) (args:=#[.pointer (some ⟨w.heap.size + 1 + 1,0,none⟩),.pointer (some ⟨w.heap.size,0,none⟩),.pointer (some ⟨w.heap.size + 1,0,none⟩),.pointer (some ⟨w.heap.size + 1 + 1 + 1,0,none⟩)]) (by simp [settle]) (by simp [go_sem]) ?_
   refine (del1_idle _ _ _ _ _ _ hfe).mono ?_
   rintro e u' wb ⟨rfl,rfl,rfl⟩
   simp [Leaves,settle,results,Tryz.results74,go_sem,hfe,hfw]
   exact HGO
 | true =>
   rw [if_pos rfl] at he
   obtain ⟨S3,G3,u,b3,n3,r3⟩:=he
   have B3:=B2.out.trans b3
   have hloc:∀ x,w.heap.size <= x -> x < w.heap.size + 4 -> ¬ G3 x:=fun x hx hx2 e=>by
    rcases B3.sub x e with e | e
    ·have:=HG.out x e; omega
    ·have:=SW.out; omega
   have L3:=LW.out.upd B3.up fun k h1 _ e=>by have:=HG.out k e; omega
   have N3:RdN W0 w3 G3 q (nd hh u):=(n3.base B2.out.up.size).rd
   have SG:=Hd ((StG.of B3 BB.out).loc (x:=w.heap.size + 1) (by omega) (hloc _ (by omega) (by omega)) 0 (.bool true))
   have hlu:Upd (fun k=>k=w.heap.size + 1) w3 (w3.setCell ⟨w.heap.size + 1,0,none⟩ (.bool true)):=Upd.setCell (S:=fun k=>k=w.heap.size + 1) (Upd.refl _ _) (p:=⟨w.heap.size + 1,0,none⟩) (.inl rfl) (.bool true)
   have BL:TBase (w3.setCell ⟨w.heap.size + 1,0,none⟩ (.bool true)) (w3.setCell ⟨w.heap.size + 1,0,none⟩ (.bool true)) G3 G3 tb rb place n (m + 8 * (hh + 1)) S3:=TBase.start (B3.room.frame hlu fun k hk e=>hloc k (by omega) (by omega) hk) (B3.blk.upd hlu fun e=>by have:=htl; omega) B3.gt
   have L4:=L3.setW true
   have N4:=N3.loc (x:=w.heap.size + 1) (by have:=SW.out; omega) 0 (.bool true)
   have RS:=RootSt.start (n:=n) r3 HR.out HT.out.pos
   have HDEL:=Hd r3.op.del
   obtain ⟨y0,y1,y2,y3,y4,y5⟩:=L3.cells
   obtain ⟨v0,v1,v2,v3,v4,v5⟩:=L4.cells
   have HBL:=Hd BL
   have HL4:=Hd L4
   have HN4:=Hd N4
   have HRS:=Hd RS
   have HLOC:=Hd hloc
   have HW01:Hid (W0.heap.size <= (w3.setCell ⟨w.heap.size + 1,0,none⟩ (.bool true)).heap.size):=Hd (by rw [World.size_setCell]; exact B3.up.size)
   clear BL L4 N4 RS hloc hlu L3 N3 B3 b3 n3 r3 HE x0 x1 x2 x3 x4 x5
   go_wp2_with fail
   generalize w3.setCell ⟨w.heap.size + 1,0,none⟩ (.bool true)=W1 at *
   go_loopg [8,9] hh (fun gg s8 s9 wr=>∃ (h' p' q':Nat) (u':PT h') (S':RS) (G':Nat -> Prop),gg=h' /\ h' <= hh /\ s8=.pointer (some ⟨q',0,none⟩) /\ s9=.int .i64 (p':Int) /\ Hid (TBase W1 wr G3 G' tb rb place n (m + 8 * (hh + 1) + 2 * (hh - h')) S' /\ RdN W0 wr G' q' (nd h' u') /\ RootSt place n (crO (some ⟨hh,p,t⟩)) (wtO (some ⟨hh,p,t⟩)) S S' (pgsO (some ⟨hh,p,t⟩)) (ents hh u) h' p' u'))
   case atStart=>exact ⟨hh,p,q,u,S3,G3,rfl,Nat.le_refl _,rfl,rfl,Hd ⟨HBL.out.more (by omega),HN4.out,HRS.out⟩⟩
   case round =>
    obtain ⟨h',p',q',u',S',G',hgk,hle,rfl,rfl,HI⟩:=hrel
    have HGK:=Hd hgk
    clear hgk
    have L5:=Hd (HL4.out.upd HI.out.1.up fun k h1 h2=>HLOC.out k h1 (by omega))
    obtain ⟨e0,e1,e2,e3,e4,e5⟩:=L5.out.cells
    obtain ⟨ka,kc,k1⟩:=HI.out.2.1.keys
    clear v0 v1 v2 v3 v4 v5 y0 y1 y2 y3 y4 y5
    have HMM:Hid (m + 8 * (hh + 1) + 2 * (hh - h') <= 3998000):=Hd (by have:=HM.out; have:=HH.out; omega)
    obtain ⟨t0,t1⟩:=HI.out.1.blk.cells
    have HLOC2:Hid (∀ (wx:World) (Gx:Nat -> Prop) (mx:Nat) (Sx:RS),TBase W1 wx G3 Gx tb rb place n mx Sx -> ∀ x,w.heap.size <= x -> x < w.heap.size + 4 -> ¬ Gx x):=Hd fun wx Gx mx Sx hb x hx hx2 e=>by
     rcases hb.sub x e with e | e
     ·exact HLOC.out x hx hx2 e
     ·have:=HW01.out; have:=SW.out; omega
    by_cases hz:(nd h' u').len=0
    ·rw [hz] at k1
     have FR:=Hd (tail_free HI.out.1 (by have:=HMM.out; omega) HI.out.2.2.use)
     obtain ⟨mg,me⟩:=HI.out.2.2.none (o:=some ⟨hh,p,t⟩) hz
     have HMG:=Hd mg
     have HME:=Hd me
     have MU:=must_c
     clear hz mg me
     go_wp2_with fail
     refine FR.out.mono ?_
     rintro e w5 ⟨rfl,HF⟩
     obtain ⟨G5,b5,tn5⟩:=HF.out
     have L6:=HL4.out.upd b5.up fun k h1 h2=>HLOC.out k h1 (by omega)
     obtain ⟨f0,f1,f2,f3,f4,f5⟩:=L6.cells
     have SR:=setRoot_c G5 tb rb place n _ _ 0 w5 b5.room b5.blk b5.gt HP.out (by have:=HMM.out; omega) (by omega)
     rw [show (((0:Nat):Int) - 1)=-1 from rfl] at SR
     have SR2:=Hd SR
     have B5:=Hd b5
     clear SR b5 tn5 HF FR e0 e1 e2 e3 e4 e5 t0 t1 k1 L6
     go_wp2_with (first
      | (go_at_call 131; refine (MU _).mono ?_; rintro e w6 ⟨rfl,rfl⟩)
      | (go_at_call 126; refine SR2.out.mono ?_; rintro e w7 ⟨rfl,HS⟩
         obtain ⟨G7,b7,tn7⟩:=B5.out.step HS.out
         have L7:=HL4.out.upd b7.up fun k h1 h2=>HLOC.out k h1 (by omega)
         obtain ⟨g0,g1,g2,g3,g4,g5⟩:=L7.cells
         have L9:=(L7.setW true).setE
         have hfe:((w7.setCell ⟨w.heap.size + 1,0,none⟩ (.bool true)).setCell ⟨w.heap.size + 1 + 1,0,none⟩ (.int .i64 0)).cell? ⟨w.heap.size + 1 + 1,0,none⟩=some (.int .i64 0):=L9.cells.2.2.1
         have hfw:((w7.setCell ⟨w.heap.size + 1,0,none⟩ (.bool true)).setCell ⟨w.heap.size + 1 + 1,0,none⟩ (.int .i64 0)).cell? ⟨w.heap.size + 1,0,none⟩=some (.bool true):=L9.cells.2.1
         have HGO:Hid (DelEnd w ((w7.setCell ⟨w.heap.size + 1,0,none⟩ (.bool true)).setCell ⟨w.heap.size + 1 + 1,0,none⟩ (.int .i64 0)) G rb n m place S (some ⟨hh,p,t⟩) key true):=Hd (by
          unfold DelEnd
          rw [if_pos rfl]
          refine ⟨_,none,(((((SG.out.then b7).loc (x:=w.heap.size + 1) (by omega) (HLOC2.out _ _ _ _ b7 _ (by omega) (by omega)) 0 (.bool true)).loc (x:=w.heap.size + 1 + 1) (by omega) (HLOC2.out _ _ _ _ b7 _ (by omega) (by omega)) 0 (.int .i64 0)).more (by have:=HH.out; omega)).go),HMG.out,?_,Nat.zero_le _,fun c hc=>(HI.out.2.2.spr c hc).freeS HI.out.2.2.use,Nat.succ_le_succ HI.out.2.2.crp,Nat.zero_le _⟩
          have:=HDEL.out
          rw [HME.out] at this; exact this)
         clear b7 tn7 L7 L9 HS))
     refine leaves_cons (f:=124) (args:=#[.pointer (some ⟨w.heap.size + 1 + 1,0,none⟩)]) (by simp) (by simp [go_sem]) ?_
     refine (guard_idle _ _).mono ?_
     rintro e u' wa ⟨rfl,rfl,rfl⟩
     refine leaves_cons (f:=129) (args:=#[.pointer (some ⟨w.heap.size + 1 + 1,0,none⟩),.pointer (some ⟨w.heap.size,0,none⟩),.pointer (some ⟨w.heap.size + 1,0,none⟩),.pointer (some ⟨w.heap.size + 1 + 1 + 1,0,none⟩)]) (by simp [settle]) (by simp [go_sem]) ?_
     refine (del1_idle _ _ _ _ _ _ hfe).mono ?_
     rintro e u' wb ⟨rfl,rfl,rfl⟩
     simp [Leaves,settle,results,Tryz.results74,go_sem,hfe,hfw]
     exact HGO
    ·have hzp:0 < (nd h' u').len:=by omega
     have HZ:=Hd hzp
     have k1n:¬ (((nd h' u').len:Nat):Int)=0:=by omega
     have k1m:¬ (nd h' u').len=0:=hz
     by_cases hone:∃ (h2:Nat) (x:Kid h2) (e:h'=h2 + 1),e ▸ u'=(show PT (h2 + 1) from [x])
     ·obtain ⟨h2,x,e,hu⟩:=hone
      subst e
      have hu':u'=(show PT (h2 + 1) from [x]):=hu
      subst hu'
      clear hu k1n k1m hz hzp HZ
      obtain ⟨d1,d2,d3⟩:=HI.out.2.2.down
      have HD:=Hd d3
      have hlf:wr.cell? ⟨q',0,none⟩=some (.bool false):=by
       obtain ⟨vk,vv,vi,a⟩:=HI.out.2.1.view
       exact cell_lit a.blk rfl
      have k1':wr.cell? ⟨q',1,none⟩=some (.slice ka 1 kc):=k1
      have k3':∃ g o c,wr.cell? ⟨q',3,none⟩=some (.slice (some ⟨g,o,none⟩) 1 c):=by
       obtain ⟨g1,o1,c1,g2,o2,c2,-,e3,-⟩:=RdN.at (l:=[(x.1,x.2.1)]) HI.out.2.1 (by simp)
       exact ⟨g2,o2,c2,e3⟩
      obtain ⟨ga,oa,ca,k3'⟩:=k3'
      have FR:=Hd (tail_free HI.out.1 (by have:=HMM.out; omega) HI.out.2.2.use)
      have MU:=must_c
      clear d1 d3 k1
      go_wp2_with fail
      refine FR.out.mono ?_
      rintro e w5 ⟨rfl,HF⟩
      obtain ⟨G5,b5,tn5⟩:=HF.out
      have L6:=HL4.out.upd b5.up fun k h1 h2=>HLOC.out k h1 (by omega)
      obtain ⟨f0,f1,f2,f3,f4,f5⟩:=L6.cells
      obtain ⟨g1,o1,c1,g2,o2,c2,-,m3,mc⟩:=RdN.at (l:=[(x.1,x.2.1)]) (HI.out.2.1.turn tn5) (by simp)
      have mx:=(mc 0 (by simp)).2
      have m3':w5.cell? ⟨q',3,none⟩=some (.slice (some ⟨g2,o2,none⟩) 1 c2):=m3
      have mx':w5.cell? ⟨g2,o2,none⟩=some (.int .i64 (x.2.1:Int)):=mx
      have SR:=Hd (setRoot_t b5 HP.out (by have:=HMM.out; omega) x.2.1 d2)
      clear b5 tn5 HF FR e0 e1 e2 e3 e4 e5 t0 t1 L6 m3 mx mc hlf k1' k3'
      go_wp2_with (first
       | (go_at_call 131; refine (MU _).mono ?_; rintro e w6 ⟨rfl,rfl⟩)
       | (go_at_call 126; refine SR.out.mono ?_; rintro e w7 ⟨rfl,HS⟩
          obtain ⟨G7,b7,tn7⟩:=HS.out
          have L7:=HL4.out.upd b7.up fun k h1 h2=>HLOC.out k h1 (by omega)
          obtain ⟨i0,i1,i2,i3,i4,i5⟩:=L7.cells
          have hxs:=(HI.out.2.2.wf.1 x (by simp))
          have ONX:On (setRootS (frS S' p') place (x.2.1 + 1)) h2 x.2.1 x.2.2:=on_iff.2 ⟨⟨HD.out.use,HD.out.cont hxs.2.2.1⟩,HD.out.kid⟩
          have RDX:=Hd (tail_read b7 (by have:=HMM.out; omega) ONX hxs.2.2.2.1 (hxs.2.2.2.2.ok hxs.2.2.1 (Nat.le_trans hxs.2.2.2.1 (by decide))))
          have B7:=Hd b7
          clear b7 tn7 L7 HS hxs ONX)
       | (go_at_call 133; refine RDX.out.mono ?_; rintro e w8 ⟨q1,rfl,HO⟩))
      go_roundg h2
      case measure=>have:=HGK.out; omega
      case rel =>
       obtain ⟨F,a,b,c⟩:=HO.out
       refine ⟨h2,x.2.1,q1,x.2.2,_,G7,rfl,by omega,rfl,rfl,Hd ⟨(B7.out.below c).more (by omega),⟨F,a.rdIn,fun k hk=>⟨?_,fun e=>?_⟩⟩,HD.out⟩⟩
       ·have:=b k hk; have:=B7.out.up.size; have:=HW01.out; omega
       ·have:=b k hk; have:=B7.out.room.lt k e; omega
     ·have hdone:(nd h' u').isLeaf=true \/ ((nd h' u').isLeaf=false /\ ∃ a c,wr.cell? ⟨q',3,none⟩=some (.slice a (nd h' u').len c) /\ 1 < (nd h' u').len):=by
       cases h' with
       | zero=>exact .inl rfl
       | succ h2 =>
         refine .inr ⟨rfl,?_⟩
         obtain ⟨vk,vv,vi,a⟩:=HI.out.2.1.view
         obtain ⟨ai,ci,rfl⟩:=a.is.form
         have e3':=cell_lit (i:=3) a.blk rfl
         rw [List.length_map,Nd.kids_len (d:=nd (h2 + 1) u') rfl] at e3'
         refine ⟨ai,ci,e3',?_⟩
         rw [nd_lenS] at hzp ⊢
         cases u' with
         | nil=>simp at hzp
         | cons x r =>
           cases r with
           | nil=>exact absurd ⟨h2,x,rfl,rfl⟩ hone
           | cons y r=>simp
      have hlf:wr.cell? ⟨q',0,none⟩=some (.bool (nd h' u').isLeaf):=by
       obtain ⟨vk,vv,vi,a⟩:=HI.out.2.1.view
       exact cell_lit a.blk rfl
      have b7:=HI.out.1
      have L9:=(L5.out.setW true).setE
      have hfe:((wr.setCell ⟨w.heap.size + 1,0,none⟩ (.bool true)).setCell ⟨w.heap.size + 1 + 1,0,none⟩ (.int .i64 0)).cell? ⟨w.heap.size + 1 + 1,0,none⟩=some (.int .i64 0):=L9.cells.2.2.1
      have hfw:((wr.setCell ⟨w.heap.size + 1,0,none⟩ (.bool true)).setCell ⟨w.heap.size + 1 + 1,0,none⟩ (.int .i64 0)).cell? ⟨w.heap.size + 1,0,none⟩=some (.bool true):=L9.cells.2.1
      have HGO:Hid (DelEnd w ((wr.setCell ⟨w.heap.size + 1,0,none⟩ (.bool true)).setCell ⟨w.heap.size + 1 + 1,0,none⟩ (.int .i64 0)) G rb n m place S (some ⟨hh,p,t⟩) key true):=Hd (by
       unfold DelEnd
       rw [if_pos rfl]
       refine ⟨_,some ⟨h',p',u'⟩,(((((SG.out.then b7).loc (x:=w.heap.size + 1) (by omega) (HLOC2.out _ _ _ _ b7 _ (by omega) (by omega)) 0 (.bool true)).loc (x:=w.heap.size + 1 + 1) (by omega) (HLOC2.out _ _ _ _ b7 _ (by omega) (by omega)) 0 (.int .i64 0)).more (by have:=HH.out; omega)).go),(HI.out.2.2.done (o:=some ⟨hh,p,t⟩) HZ.out).1,?_,hle,HI.out.2.2.spr,(HI.out.2.2.done (o:=some ⟨hh,p,t⟩) HZ.out).2,HI.out.2.2.wtl⟩
       have:=HDEL.out
       rw [<- HI.out.2.2.ents] at this; exact this)
      clear b7 L9 hone hz hzp
      rcases hdone with hl | ⟨hl,ai,ci,k3,hl2⟩
      ·rw [hl] at hlf
       clear hl
       generalize (nd h' u').len=kl at *
       go_wp2_with fail
       refine leaves_cons (f:=124) (args:=#[.pointer (some ⟨w.heap.size + 1 + 1,0,none⟩)]) (by simp) (by simp [go_sem]) ?_
       refine (guard_idle _ _).mono ?_
       rintro e u' wa ⟨rfl,rfl,rfl⟩
       refine leaves_cons (f:=129) (args:=#[.pointer (some ⟨w.heap.size + 1 + 1,0,none⟩),.pointer (some ⟨w.heap.size,0,none⟩),.pointer (some ⟨w.heap.size + 1,0,none⟩),.pointer (some ⟨w.heap.size + 1 + 1 + 1,0,none⟩)]) (by simp [settle]) (by simp [go_sem]) ?_
       refine (del1_idle _ _ _ _ _ _ hfe).mono ?_
       rintro e u' wb ⟨rfl,rfl,rfl⟩
       simp [Leaves,settle,results,Tryz.results74,go_sem,hfe,hfw]
       exact HGO
      ·rw [hl] at hlf
       have hl3:(1:Int) < (((nd h' u').len:Nat):Int):=by omega
       clear hl hl2
       generalize (nd h' u').len=kl at *
       go_wp2_with fail
       refine leaves_cons (f:=124) (args:=#[.pointer (some ⟨w.heap.size + 1 + 1,0,none⟩)]) (by simp) (by simp [go_sem]) ?_
       refine (guard_idle _ _).mono ?_
       rintro e u' wa ⟨rfl,rfl,rfl⟩
       refine leaves_cons (f:=129) (args:=#[.pointer (some ⟨w.heap.size + 1 + 1,0,none⟩),.pointer (some ⟨w.heap.size,0,none⟩),.pointer (some ⟨w.heap.size + 1,0,none⟩),.pointer (some ⟨w.heap.size + 1 + 1 + 1,0,none⟩)]) (by simp [settle]) (by simp [go_sem]) ?_
       refine (del1_idle _ _ _ _ _ _ hfe).mono ?_
       rintro e u' wb ⟨rfl,rfl,rfl⟩
       simp [Leaves,settle,results,Tryz.results74,go_sem,hfe,hfw]
       exact HGO
def Got (key:ByteArray) (E:List (ByteArray × ByteArray)) (v:ByteArray) (ok:Bool):Prop:=(ok=true /\ (key,v) ∈ E) \/ (ok=false /\ v=⟨#[]⟩ /\ ∀ e ∈ E,e.1 ≠ key)
theorem Got.lift {key:ByteArray} {h:Nat} {A B:List (Kid h)} {x:Kid h} {v:ByteArray} {ok:Bool} (H:Seps h (A ++ x :: B)) (W:Way key A x B) (g:Got key (ents h x.2.2) v ok):Got key (ents (h + 1) (A ++ x :: B:List (Kid h))) v ok:=by
 obtain ⟨w1,w2⟩:=H.way W
 rw [ents_mid]
 rcases g with ⟨rfl,hm⟩ | ⟨rfl,rfl,hn⟩
 ·exact .inl ⟨rfl,by simp [hm]⟩
 ·refine .inr ⟨rfl,rfl,fun e he=>?_⟩
  rcases List.mem_append.1 he with he | he
  ·obtain ⟨y,hy,he⟩:=(ents_mem h A e).1 he
   exact kless_ne (w1 y hy e he)
  ·rcases List.mem_append.1 he with he | he
   ·exact hn e he
   ·obtain ⟨y,hy,he⟩:=(ents_mem h B e).1 he
    exact fun e'=>kless_ne (w2 y hy e he) e'.symm
theorem Get_none (G:Nat -> Prop) (tb rb place n m:Nat) (S:RS) (key:ByteArray) (w:World) (h:RmS w G rb n m S) (ht:TB w tb rb place) (hg:¬ G tb) (hp:place < 16) (hm:m <= 3900000) (hr:S.root place=0) :
 Calls Tryz.prog 115 #[.pointer (some ⟨tb,0,none⟩),.string key] w fun e w'=>∃ v ok,e=.returned (.tuple #[.string v,.bool ok,.int .i64 0]) /\ Got key [] v ok /\ Hid (StGo w w' G rb n m S):=by
 have hb0:Below w.heap.size w (w.alloc (.cells #[.int .i64 0] 34)):=(Below.refl _ _).alloc (Nat.le_refl _) _
 have B0:=Hd (TBase.start (h.below hb0) (ht.below hb0) hg)
 have HG:=Hd h.lt
 have RT:=root_c G tb rb place n m S _ B0.out.room B0.out.blk hp (by omega) (by rw [hr]; omega)
 rw [hr] at RT
 have HB0:=Hd hb0
 have l0:(w.alloc (.cells #[.int .i64 0] 34)).heap[w.heap.size]?=some (.cells #[.int .i64 0] 34 (0,0)):=heap_alloc_new _ _
 clear h ht hg hp hm hr hb0
 go_enter_defers Tryz.func115,Tryz.ntmps115
 go_wp2_with fail
 refine RT.mono ?_
 rintro e w2 ⟨rfl,hb⟩
 have B2:=B0.out.below hb.out
 have l2:=(hb.out.block _ (lt_of_heap l0)).trans l0
 have x1:w2.cell? ⟨w.heap.size,0,none⟩=some (.int .i64 0):=cell_lit l2 rfl
 have x2:w2.frozen? ⟨w.heap.size,0,none⟩=false:=frozen_lit l2 0
 have hfe:(w2.setCell ⟨w.heap.size,0,none⟩ (.int .i64 0)).cell? ⟨w.heap.size,0,none⟩=some (.int .i64 0):=cell_lit (heap_set_lit l2 _) rfl
 have HGO:=Hd ((StG.of B2 HB0.out).loc (x:=w.heap.size) (Nat.le_refl _) (fun e=>by have:=HG.out _ e; omega) 0 (.int .i64 0)).go
 clear B2 l2 l0 B0 hb RT
 go_wp2_with fail
 go_loopg [7,13] 1 (fun gg s7 s13 wr=>s7=.int .i64 (-1) /\ s13=.int .i64 0 /\ wr=w2)
 case atStart=>exact ⟨rfl,rfl,rfl⟩
 case round =>
  obtain ⟨rfl,rfl,rfl⟩:=hrel
  go_wp2_with fail
  refine leaves_cons (f:=124) (args:=#[.pointer (some ⟨w.heap.size,0,none⟩)]) (by simp) (by simp [go_sem]) ?_
  refine (guard_idle _ _).mono ?_
  rintro e u' wa ⟨rfl,rfl,rfl⟩
  simp [Leaves,settle,results,Tryz.results115,go_sem,hfe]
  exact ⟨.inr ⟨rfl,rfl,by simp⟩,HGO⟩
theorem vals_at {w0 W:World} {G:Nat -> Prop} {q:Nat} {A B:List (ByteArray × ByteArray)} {x:ByteArray × ByteArray} (h:RdN w0 W G q (.leaf (A ++ x :: B))) :
 ∃ g o c,W.cell? ⟨q,2,none⟩=some (.slice (some ⟨g,o,none⟩) (A.length + 1 + B.length) c) /\ W.cell? ⟨g,o + A.length,none⟩=some (.string x.2):=by
 obtain ⟨vk,vv,vi,a⟩:=h.view
 have hl:((Nd.leaf (A ++ x :: B)).vals.map Value.string).length=A.length + 1 + B.length:=by simp [Nd.vals]; omega
 obtain ⟨g,off,cap,rfl,hcap,hc⟩:=a.vs.lit (by simp [Nd.vals]; omega)
 refine ⟨g,off,cap,?_,?_⟩
 ·have:=cell_lit (i:=2) a.blk rfl
  rw [<- hl]; exact this
 ·have:=hc A.length (by simp [Nd.vals])
  rw [this]; simp [Nd.vals]
theorem OneNd.rdN {w0 W W':World} {G:Nat -> Prop} {p:Nat} {d:Nd} (h:OneNd W W' p d) (hs:w0.heap.size <= W.heap.size) (hG:∀ k,G k -> k < W.heap.size):RdN w0 W' G p d:=by
 obtain ⟨F,a,b,c⟩:=h
 exact ⟨F,a.rdIn,fun k hk=>⟨Nat.le_trans hs (b k hk),fun e=>by have:=b k hk; have:=hG k e; omega⟩⟩
theorem OneNd.below {W W':World} {p:Nat} {d:Nd} (h:OneNd W W' p d):Below W.heap.size W W':=by obtain ⟨F,a,b,c⟩:=h; exact c
theorem Get_some (G:Nat -> Prop) (tb rb place n m:Nat) (S:RS) (hh p:Nat) (t:PT hh) (key:ByteArray) (w:World) (h:RmS w G rb n m S) (ht:TB w tb rb place) (hg:¬ G tb) (hp:place < 16) (hm:m <= 3900000) (hr:S.root place=p + 1) (hT:Tr S hh p t) (hh20:hh <= 19) :
 Calls Tryz.prog 115 #[.pointer (some ⟨tb,0,none⟩),.string key] w fun e w'=>∃ v ok,e=.returned (.tuple #[.string v,.bool ok,.int .i64 0]) /\ Got key (ents hh t) v ok /\ Hid (StGo w w' G rb n m S):=by
 have hp65:p < 65536:=by
  have:=h.lim p hT.on.top.1
  have:=h.bounds
  unfold pagesN at *; omega
 have hb0:Below w.heap.size w (w.alloc (.cells #[.int .i64 0] 34)):=(Below.refl _ _).alloc (Nat.le_refl _) _
 have B0:=Hd (TBase.start (h.below hb0) (ht.below hb0) hg)
 have HG:=Hd h.lt
 have RT:=root_c G tb rb place n m S _ B0.out.room B0.out.blk hp (by omega) (by rw [hr]; omega)
 rw [hr,show (((p + 1:Nat):Int) - 1)=(p:Int) by omega] at RT
 have HB0:=Hd hb0
 have l0:Hid ((w.alloc (.cells #[.int .i64 0] 34)).heap[w.heap.size]?=some (.cells #[.int .i64 0] 34 (0,0))):=Hd (heap_alloc_new _ _)
 have HGW:Hid (¬ G w.heap.size):=Hd fun e=>by have:=HG.out _ e; omega
 have HT:=Hd hT
 have HM:=Hd hm
 have HH:=Hd hh20
 have hsz0:Hid ((w.alloc (.cells #[.int .i64 0] 34)).heap.size=w.heap.size + 1):=Hd (by simp)
 clear h ht hg hp hm hr hb0 hT hh20 hp65
 go_enter_defers Tryz.func115,Tryz.ntmps115
 go_wp2_with fail
 generalize w.alloc (.cells #[.int .i64 0] 34)=W0 at *
 refine RT.mono ?_
 rintro e w2 ⟨rfl,hb⟩
 have B2:=Hd (B0.out.below hb.out)
 clear hb RT
 go_wp2_with fail
 go_loopg [7,13] hh (fun gg s7 s13 wr=>∃ (h' p' c:Nat) (t':PT h'),gg=h' /\ c + h' <= 19 /\ s7=.int .i64 (p':Int) /\ s13=.int .i64 (c:Int) /\ Hid (TBase W0 wr G G tb rb place n m S /\ Tr S h' p' t' /\ ∀ v ok,Got key (ents h' t') v ok -> Got key (ents hh t) v ok))
 case atStart=>exact ⟨hh,p,0,t,rfl,by have:=HH.out; omega,rfl,rfl,Hd ⟨B2.out,HT.out,fun _ _ g=>g⟩⟩
 case round =>
  obtain ⟨h',p',c,t',hgk,hc19,rfl,rfl,HI⟩:=hrel
  have HGK:=Hd hgk
  clear hgk
  have hc20:(c:Int) < 20:=by omega
  have hp0:¬ (p':Int) < 0:=by omega
  have RD:=Hd (tail_read HI.out.1 (by have:=HM.out; omega) HI.out.2.1.on HI.out.2.1.fit HI.out.2.1.ok)
  go_wp2_with fail
  refine RD.out.mono ?_
  rintro e w3 ⟨q,rfl,HO⟩
  have B3:=Hd (HI.out.1.below HO.out.below)
  have N3:Hid (RdN W0 w3 G q (nd h' t')):=Hd (HO.out.rdN HI.out.1.up.size HI.out.1.room.lt)
  have l3:Hid (w3.heap[w.heap.size]?=some (.cells #[.int .i64 0] 34 (0,0))):=Hd (B3.out.up.at l0.out HGW.out)
  obtain ⟨vk,vv,vi,hv⟩:=N3.out.view
  clear RD HO
  cases h' with
  | zero =>
    have c0:w3.cell? ⟨q,0,none⟩=some (.bool true):=cell_lit hv.blk rfl
    obtain ⟨A,B,e1,hA,hB,hor⟩:=lb_split t' key HI.out.2.1.wf.srt
    subst e1
    have hpos:0 < (Nd.leaf (A ++ B)).len:=HI.out.2.1.pos
    have hl6:(Nd.leaf (A ++ B)).len <= 1000000:=Nat.le_of_lt (Nat.lt_trans HI.out.2.1.ok.few (by decide))
    have hAB:∀ a ∈ A.map Prod.fst,kless a key=true:=fun a ha=>by obtain ⟨e,he,rfl⟩:=List.mem_map.1 ha; exact hA e he
    rcases hor with ⟨v,B',rfl,hB'⟩ | hB'
    ·have FD:=find_c true q (.leaf (A ++ (key,v) :: B')) vk vv vi (A.map Prod.fst) (key :: B'.map Prod.fst) key w3 hv (by simp [Nd.keys]) hpos hl6 hAB (fun b hb=>by
      rcases List.mem_cons.1 hb with rfl | hb
      ·exact kless_irrefl _
      ·obtain ⟨e,he,rfl⟩:=List.mem_map.1 hb; exact hB e (by simp [he])) ⟨fun _=>⟨_,rfl⟩,fun _=>rfl⟩
     rw [List.length_map] at FD
     have FD2:=Hd FD
     have HGOT:=Hd (HI.out.2.2 v true (.inl ⟨rfl,by simp [ents]⟩))
     clear FD hA hB hB' hpos hl6 hAB hv hc19
     go_wp2_with fail
     refine FD2.out.mono ?_
     rintro e w4 ⟨rfl,qn,rfl⟩
     have B4:=Hd (B3.out.below (drewN_below w3 qn))
     have N4:=Hd (N3.out.below (drewN_below w3 qn))
     have l4:(w3.drewN qn).heap[w.heap.size]?=some (.cells #[.int .i64 0] 34 (0,0)):=l3.out
     generalize w3.drewN qn=w4 at *
     obtain ⟨g,o,cp,k1,k2⟩:=vals_at N4.out
     have x1:w4.cell? ⟨w.heap.size,0,none⟩=some (.int .i64 0):=cell_lit l4 rfl
     have x2:w4.frozen? ⟨w.heap.size,0,none⟩=false:=frozen_lit l4 0
     have hfe:(w4.setCell ⟨w.heap.size,0,none⟩ (.int .i64 0)).cell? ⟨w.heap.size,0,none⟩=some (.int .i64 0):=cell_lit (heap_set_lit l4 _) rfl
     have HGO:=Hd ((StG.of B4.out HB0.out).loc (x:=w.heap.size) (Nat.le_refl _) HGW.out 0 (.int .i64 0)).go
     have hlt:(A.length:Int) < ((A.length + 1 + B'.length:Nat):Int):=by omega
     clear l4 N4 B4 N3 B3 FD2 c0
     go_wp2_with fail
     refine leaves_cons (f:=124) (args:=#[.pointer (some ⟨w.heap.size,0,none⟩)]) (by simp) (by simp [go_sem]) ?_
     refine (guard_idle _ _).mono ?_
     rintro e u' wa ⟨rfl,rfl,rfl⟩
     simp [Leaves,settle,results,Tryz.results115,go_sem,hfe]
     exact ⟨HGOT.out,HGO⟩
    ·have FD:=find_c false q (.leaf (A ++ B)) vk vv vi (A.map Prod.fst) (B.map Prod.fst) key w3 hv (by simp [Nd.keys]) hpos hl6 hAB (fun b hb=>by obtain ⟨e,he,rfl⟩:=List.mem_map.1 hb; exact hB e he) ⟨(fun e=>by cases e),(fun ⟨B',e⟩=>by
      have hm:key ∈ B.map Prod.fst:=by rw [e]; simp
      obtain ⟨e',he,he2⟩:=List.mem_map.1 hm
      have:=hB' e' he
      rw [he2,kless_irrefl] at this; cases this)⟩
     rw [List.length_map] at FD
     have FD2:=Hd FD
     have HGOT:=Hd (HI.out.2.2 ⟨#[]⟩ false (.inr ⟨rfl,rfl,fun e he=>by
      rcases List.mem_append.1 (show e ∈ A ++ B from he) with he | he
      ·exact kless_ne (hA e he)
      ·exact fun e'=>kless_ne (hB' e he) e'.symm⟩))
     clear FD hA hB hB' hpos hl6 hAB hv hc19
     go_wp2_with fail
     refine FD2.out.mono ?_
     rintro e w4 ⟨rfl,qn,rfl⟩
     have B4:=Hd (B3.out.below (drewN_below w3 qn))
     have l4:(w3.drewN qn).heap[w.heap.size]?=some (.cells #[.int .i64 0] 34 (0,0)):=l3.out
     generalize w3.drewN qn=w4 at *
     have x1:w4.cell? ⟨w.heap.size,0,none⟩=some (.int .i64 0):=cell_lit l4 rfl
     have x2:w4.frozen? ⟨w.heap.size,0,none⟩=false:=frozen_lit l4 0
     have hfe:(w4.setCell ⟨w.heap.size,0,none⟩ (.int .i64 0)).cell? ⟨w.heap.size,0,none⟩=some (.int .i64 0):=cell_lit (heap_set_lit l4 _) rfl
     have HGO:=Hd ((StG.of B4.out HB0.out).loc (x:=w.heap.size) (Nat.le_refl _) HGW.out 0 (.int .i64 0)).go
     clear l4 B4 N3 B3 FD2 c0
     go_wp2_with fail
     refine leaves_cons (f:=124) (args:=#[.pointer (some ⟨w.heap.size,0,none⟩)]) (by simp) (by simp [go_sem]) ?_
     refine (guard_idle _ _).mono ?_
     rintro e u' wa ⟨rfl,rfl,rfl⟩
     simp [Leaves,settle,results,Tryz.results115,go_sem,hfe]
     exact ⟨HGOT.out,HGO⟩
  | succ h2 =>
    have c0:w3.cell? ⟨q,0,none⟩=some (.bool false):=cell_lit hv.blk rfl
    have hpos:=HI.out.2.1.pos
    rw [nd_lenS] at hpos
    have hwf:=HI.out.2.1.wf
    obtain ⟨A,x,B,e1,hW,hA⟩:=way_split t' key (hwf.2.keys fun x hx=>ents_pos (hwf.1 x hx).2.2.2.2 (hwf.1 x hx).2.2.1) hpos
    subst e1
    have hN3:=N3.out
    rw [show nd (h2 + 1) (A ++ x :: B:List (Kid h2))=.inner (A.map (fun x:Kid h2=>(x.1,x.2.1)) ++ (x.1,x.2.1) :: B.map (fun x:Kid h2=>(x.1,x.2.1))) by simp [nd]] at hN3
    obtain ⟨g3,off,cap3,k1,k2⟩:=kids_at hN3
    rw [List.length_map,List.length_map] at k1
    rw [List.length_map] at k2
    have hlt:(A.length:Int) < ((A.length + 1 + B.length:Nat):Int):=by omega
    have hd:=(Below.refl w3.heap.size w3).drew
    have WN:Hid (Calls Tryz.prog 166 #[.pointer (some ⟨q,0,none⟩),.string key] w3.drew fun e w'=>e=.returned (.int .i64 (A.length:Nat)) /\ (w'.cell? ⟨q,3,none⟩=some (.slice (some ⟨g3,off,none⟩) (A.length + 1 + B.length) cap3) /\ w'.cell? ⟨g3,off + A.length,none⟩=some (.int .i64 (x.2.1:Int))) /\ Hid (Below w3.heap.size w3 w')):=Hd (by
     refine (way_nd (N3.out.below hd) (Nat.le_of_lt (Nat.lt_trans HI.out.2.1.ok.few (by decide))) hW hA).mono ?_
     rintro e w' ⟨rfl,hb⟩
     have hb':Below w3.heap.size w3 w':=hd.trans hb.out
     exact ⟨rfl,⟨(World.cell?_of_block (hb'.block _ (World.block_lt_of_cell? _ _ k1))).trans k1,(World.cell?_of_block (hb'.block _ (World.block_lt_of_cell? _ _ k2))).trans k2⟩,hb'⟩)
    have HW:=Hd hW
    generalize A.length + 1 + B.length=NN at *
    clear hN3 hv hwf hpos hA hW hd
    go_wp2_with fail
    go_region_held3 (fun w'=>w'.cell? ⟨q,3,none⟩=some (.slice (some ⟨g3,off,none⟩) NN cap3) /\ w'.cell? ⟨g3,off + A.length,none⟩=some (.int .i64 (x.2.1:Int))) (go_keep) ((go_at_call 166; refine Calls.at_args WN.out (by with_reducible rfl) ?_; rintro e w4 ⟨rfl,hkk,HB4⟩))
    all_goals (
     go_wp2_with fail
     go_roundg h2)
    all_goals (first
     | (case measure=>have:=HGK.out; omega)
     | (case rel=>exact ⟨h2,x.2.1,c + 1,x.2.2,rfl,by omega,rfl,by congr 1,Hd ⟨B3.out.below HB4.out,HI.out.2.1.kid (by simp),fun v ok g=>HI.out.2.2 v ok (g.lift HI.out.2.1.wf.2 HW.out)⟩⟩))
def sRun (tt:ByteArray) (limit:Nat):List (ByteArray × ByteArray) -> List (ByteArray × ByteArray) -> List (ByteArray × ByteArray) × Bool
 | [],L=>(L,true)
 | e :: r,L=>if L.length=limit \/ (tt.size ≠ 0 /\ kless e.1 tt=false) then (L,false) else sRun tt limit r (L ++ [e])
theorem sRun_cons (tt:ByteArray) (limit:Nat) (e:ByteArray × ByteArray) (r L:List (ByteArray × ByteArray)):sRun tt limit (e :: r) L=if L.length=limit \/ (tt.size ≠ 0 /\ kless e.1 tt=false) then (L,false) else sRun tt limit r (L ++ [e]):=rfl
theorem sRun_true {tt:ByteArray} {limit:Nat} {F1 F2 L L1:List (ByteArray × ByteArray)} (h:sRun tt limit F1 L=(L1,true)):sRun tt limit (F1 ++ F2) L=sRun tt limit F2 L1:=by
 induction F1 generalizing L with
 | nil=>cases h; rfl
 | cons e r ih =>
   rw [List.cons_append,sRun_cons]
   rw [sRun_cons] at h
   by_cases hc:L.length=limit \/ (tt.size ≠ 0 /\ kless e.1 tt=false)
   ·rw [if_pos hc] at h; cases h
   ·rw [if_neg hc] at h ⊢; exact ih h
theorem sRun_false {tt:ByteArray} {limit:Nat} {F1 F2 L L1:List (ByteArray × ByteArray)} (h:sRun tt limit F1 L=(L1,false)):sRun tt limit (F1 ++ F2) L=(L1,false):=by
 induction F1 generalizing L with
 | nil=>cases h
 | cons e r ih =>
   rw [List.cons_append,sRun_cons]
   rw [sRun_cons] at h
   by_cases hc:L.length=limit \/ (tt.size ≠ 0 /\ kless e.1 tt=false)
   ·rw [if_pos hc] at h ⊢; exact h
   ·rw [if_neg hc] at h ⊢; exact ih h
theorem sRun_len {tt:ByteArray} {limit:Nat} {F L L1:List (ByteArray × ByteArray)} {ok:Bool} (h:sRun tt limit F L=(L1,ok)):L1.length <= L.length + F.length:=by
 induction F generalizing L with
 | nil=>cases h; simp
 | cons e r ih =>
   rw [sRun_cons] at h
   by_cases hc:L.length=limit \/ (tt.size ≠ 0 /\ kless e.1 tt=false)
   ·rw [if_pos hc] at h; cases h; simp
   ·rw [if_neg hc] at h; have:=ih h; simp at this ⊢; omega
def from_ (key:ByteArray) (E:List (ByteArray × ByteArray)):List (ByteArray × ByteArray):=E.filter fun e=>!kless e.1 key
theorem from_none {key:ByteArray} {E:List (ByteArray × ByteArray)} (h:∀ e ∈ E,kless e.1 key=true):from_ key E=[]:=by
 unfold from_
 rw [List.filter_eq_nil_iff]
 intro e he; simp [h e he]
theorem from_all {key:ByteArray} {E:List (ByteArray × ByteArray)} (h:∀ e ∈ E,kless e.1 key=false):from_ key E=E:=by
 unfold from_
 rw [List.filter_eq_self]
 intro e he; simp [h e he]
theorem from_app (key:ByteArray) (A B:List (ByteArray × ByteArray)):from_ key (A ++ B)=from_ key A ++ from_ key B:=by simp [from_]
def pairC (L:List (ByteArray × ByteArray)):List Value:=L.flatMap fun e=>[.string e.1,.string e.2]
theorem pairC_snoc (L:List (ByteArray × ByteArray)) (e:ByteArray × ByteArray):pairC (L ++ [e])=pairC L ++ [.string e.1,.string e.2]:=by simp [pairC]
structure Acc (base:Nat) (W:World) (lb:Nat) (L:List (ByteArray × ByteArray)) (v:Value):Prop where
 blk:W.heap[lb]?=some (.cells #[v] 166 (0,0))
 row:W.ownsRow base 170 2 v L.length (pairC L)
 ne:v.ownBlock ≠ some lb
 few:L.length <= 40000000
structure AccGo (base:Nat) (W W':World) (lb:Nat) (v:Value) (L':List (ByteArray × ByteArray)):Prop where
 acc:∃ v',Acc base W' lb L' v' /\ ∀ k,v'.ownBlock=some k -> v.ownBlock=some k \/ W.heap.size <= k
 up:Upd (fun k=>k=lb \/ v.ownBlock=some k) W W'
theorem ownsRow_of2 {w w':World} {base:Nat} {e:TypeId} {s:Nat} {v:Value} {n:Nat} {xs:List Value} (h:w.ownsRow base e s v n xs) (hk:∀ k,v.ownBlock=some k -> w'.heap[k]?=w.heap[k]?):w'.ownsRow base e s v n xs:=by
 refine ⟨h.1,?_⟩
 rcases h.2 with hn | ⟨g,cap,cur,rfl,hb,hg,rest⟩
 ·exact .inl hn
 ·exact .inr ⟨g,cap,cur,rfl,hb,(hk g rfl).trans hg,rest⟩
theorem Acc.below {base:Nat} {W W':World} {lb:Nat} {L:List (ByteArray × ByteArray)} {v:Value} (h:Acc base W lb L v) (hb:Below W.heap.size W W'):Acc base W' lb L v :=
 ⟨(hb.block lb (lt_of_heap h.blk)).trans h.blk,ownsRow_of2 h.row fun k e=>hb.block k (h.row.lt k e).2,h.ne,h.few⟩
theorem AccGo.trans {base:Nat} {W W1 W2:World} {lb:Nat} {L2:List (ByteArray × ByteArray)} {v v1:Value} (hu:Upd (fun k=>k=lb \/ v.ownBlock=some k) W W1) (hn:∀ k,v1.ownBlock=some k -> v.ownBlock=some k \/ W.heap.size <= k) (h:AccGo base W1 W2 lb v1 L2):AccGo base W W2 lb v L2:=by
 obtain ⟨⟨v2,a,b⟩,c⟩:=h
 refine ⟨⟨v2,a,fun k hk=>?_⟩,hu.trans' c fun j hj e=>?_⟩
 ·rcases b k hk with e | e
  ·exact hn k e
  ·have:=hu.size; exact .inr (by omega)
 ·rcases e with e | e
  ·exact .inl e
  ·exact .inr ((hn j e).resolve_right (by omega))
theorem AccGo.below_left {base:Nat} {W W1 W2:World} {lb:Nat} {L2:List (ByteArray × ByteArray)} {v:Value} (hb:Below W.heap.size W W1) (h:AccGo base W1 W2 lb v L2):AccGo base W W2 lb v L2 :=
 AccGo.trans ((hb.upd' (Nat.le_refl _)).mono fun _ _ e=>False.elim e) (fun k e=>.inl e) h
theorem TBase.acc {w0 W W':World} {G0 G:Nat -> Prop} {tb rb place n m:Nat} {S:RS} (h:TBase w0 W G0 G tb rb place n m S) {lb base:Nat} {v:Value} {L L':List (ByteArray × ByteArray)} (ha:Acc base W lb L v) (hl:w0.heap.size <= lb) (hb:w0.heap.size <= base) (hG:∀ k,G k -> k < w0.heap.size) (hg:AccGo base W W' lb v L'):TBase w0 W' G0 G tb rb place n m S:=by
 refine h.node hg.up fun k hk=>?_
 rcases hk with e | e
 ·exact ⟨by omega,fun e'=>by have:=hG k e'; omega⟩
 ·have:=(ha.row.lt k e).1
  exact ⟨by omega,fun e'=>by have:=hG k e'; omega⟩
theorem acc_push {base:Nat} {wr Wb W5:World} {lb:Nat} {Lj:List (ByteArray × ByteArray)} {vj v':Value} {e:ByteArray × ByteArray} (ha:Acc base wr lb Lj vj) (hb:Below wr.heap.size wr Wb) (ho:W5.ownsRow base 170 2 v' (Lj.length + 1) (pairC Lj ++ [.string e.1,.string e.2])) (hg:Wb.grownBy W5 vj.ownBlock) (hv:v'.ownBlock=vj.ownBlock \/ v'.ownBlock=some Wb.heap.size) (hf:Lj.length + 1 <= 40000000) :
 (W5.cell? ⟨lb,0,none⟩=some vj /\ W5.frozen? ⟨lb,0,none⟩=false) /\ Acc base (W5.setCell ⟨lb,0,none⟩ v') lb (Lj ++ [e]) v' /\ (∀ k,v'.ownBlock=some k -> vj.ownBlock=some k \/ wr.heap.size <= k) /\ Upd (fun k=>k=lb \/ vj.ownBlock=some k) wr (W5.setCell ⟨lb,0,none⟩ v'):=by
 have hA:=ha.below hb
 have hu:Upd (fun k=>vj.ownBlock=some k) Wb W5:=(Upd.refl _ _).grown hg fun k e=>.inl e
 have h5:=hu.at hA.blk ha.ne
 have hs:=hb.size
 have hlt:=lt_of_heap ha.blk
 have hne:v'.ownBlock ≠ some lb:=fun e=>by
  rcases hv with h | h
  ·exact ha.ne (by rw [<- h]; exact e)
  ·rw [h] at e; cases e; omega
 refine ⟨⟨cell_lit h5 rfl,frozen_lit h5 0⟩,⟨heap_set_lit h5 v',?_,hne,by simp; omega⟩,fun k hk=>?_,?_⟩
 ·rw [pairC_snoc,List.length_append]
  exact ownsRow_of2 ho fun k hk=>heap_set_ne _ fun e=>hne (by rw [<- e]; exact hk)
 ·rcases hv with h | h
  ·exact .inl (by rw [<- h]; exact hk)
  ·rw [h] at hk; cases hk; exact .inr hs
 ·have u1:Upd (fun k=>k=lb \/ vj.ownBlock=some k) wr Wb:=(hb.upd' (Nat.le_refl _)).mono fun _ _ e=>False.elim e
  exact (u1.trans (hu.mono fun k _ e=>.inr e)).setCell (p:=⟨lb,0,none⟩) (.inl (.inl rfl)) v'
set_option maxHeartbeats 2000000
set_option maxHeartbeats 1000000
def rotr (x k:Nat):Nat:=(x * 2 ^ (32 - k)) % 4294967296 + x / 2 ^ k
theorem rot_or (x k:Nat) (h1:1 <= k) (h2:k <= 31) (hx:x < 4294967296):((x * 2 ^ (32 - k)) % 4294967296) ||| (x / 2 ^ k)=rotr x k:=by
 have e:(4294967296:Nat)=2 ^ k * 2 ^ (32 - k):=by rw [<- Nat.pow_add,show k + (32 - k)=32 by omega]
 have h3:(x * 2 ^ (32 - k)) % 4294967296=(x % 2 ^ k) <<< (32 - k):=by
  rw [e,Nat.mul_mod_mul_right,Nat.shiftLeft_eq]
 have h4:x / 2 ^ k < 2 ^ (32 - k):=by
  rw [Nat.div_lt_iff_lt_mul (Nat.two_pow_pos k),Nat.mul_comm,<- e]; exact hx
 unfold rotr
 rw [h3,<- Nat.shiftLeft_add_eq_or_of_lt h4]
theorem rot_lt (x k:Nat) (h1:1 <= k) (h2:k <= 31) (hx:x < 4294967296):rotr x k < 4294967296:=by
 rw [<- rot_or x k h1 h2 hx]
 exact Nat.or_lt_two_pow (n:=32) (Nat.mod_lt _ (by decide)) (Nat.lt_of_le_of_lt (Nat.div_le_self _ _) hx)
theorem rotl_2 (x:Nat) (w:World) (hx:x < 4294967296):Calls Tryz.prog 252 #[.int .u32 (x:Int),.int .i64 (-2)] w fun e w'=>e=.returned (.int .u32 (rotr x 2:Int)) /\ w=w':=by
 have a1:bits .and .u64 (IntKind.u64.wrap (-2)) 31=30:=by decide
 have hv:=u32_or_nat ((x * 1073741824) % 4294967296) (x / 4) (by omega) (by omega)
 have hr:Hid ((x * 1073741824) % 4294967296 ||| (x / 4)=rotr x 2):=Hd (rot_or x 2 (by decide) (by decide) hx)
 rw [show (((x * 1073741824) % 4294967296:Nat):Int)=(x:Int) * 1073741824 % 4294967296 from rfl,show ((x / 4:Nat):Int)=(x:Int) / 4 from rfl,hr.out] at hv
 clear hr
 generalize rotr x 2=R at *
 go_enter Tryz.func252,Tryz.ntmps252
 go_wp2_with fail
 go_ret
 exact ⟨rfl,rfl⟩
theorem rotl_6 (x:Nat) (w:World) (hx:x < 4294967296):Calls Tryz.prog 252 #[.int .u32 (x:Int),.int .i64 (-6)] w fun e w'=>e=.returned (.int .u32 (rotr x 6:Int)) /\ w=w':=by
 have a1:bits .and .u64 (IntKind.u64.wrap (-6)) 31=26:=by decide
 have hv:=u32_or_nat ((x * 67108864) % 4294967296) (x / 64) (by omega) (by omega)
 have hr:Hid ((x * 67108864) % 4294967296 ||| (x / 64)=rotr x 6):=Hd (rot_or x 6 (by decide) (by decide) hx)
 rw [show (((x * 67108864) % 4294967296:Nat):Int)=(x:Int) * 67108864 % 4294967296 from rfl,show ((x / 64:Nat):Int)=(x:Int) / 64 from rfl,hr.out] at hv
 clear hr
 generalize rotr x 6=R at *
 go_enter Tryz.func252,Tryz.ntmps252
 go_wp2_with fail
 go_ret
 exact ⟨rfl,rfl⟩
theorem rotl_7 (x:Nat) (w:World) (hx:x < 4294967296):Calls Tryz.prog 252 #[.int .u32 (x:Int),.int .i64 (-7)] w fun e w'=>e=.returned (.int .u32 (rotr x 7:Int)) /\ w=w':=by
 have a1:bits .and .u64 (IntKind.u64.wrap (-7)) 31=25:=by decide
 have hv:=u32_or_nat ((x * 33554432) % 4294967296) (x / 128) (by omega) (by omega)
 have hr:Hid ((x * 33554432) % 4294967296 ||| (x / 128)=rotr x 7):=Hd (rot_or x 7 (by decide) (by decide) hx)
 rw [show (((x * 33554432) % 4294967296:Nat):Int)=(x:Int) * 33554432 % 4294967296 from rfl,show ((x / 128:Nat):Int)=(x:Int) / 128 from rfl,hr.out] at hv
 clear hr
 generalize rotr x 7=R at *
 go_enter Tryz.func252,Tryz.ntmps252
 go_wp2_with fail
 go_ret
 exact ⟨rfl,rfl⟩
theorem rotl_11 (x:Nat) (w:World) (hx:x < 4294967296):Calls Tryz.prog 252 #[.int .u32 (x:Int),.int .i64 (-11)] w fun e w'=>e=.returned (.int .u32 (rotr x 11:Int)) /\ w=w':=by
 have a1:bits .and .u64 (IntKind.u64.wrap (-11)) 31=21:=by decide
 have hv:=u32_or_nat ((x * 2097152) % 4294967296) (x / 2048) (by omega) (by omega)
 have hr:Hid ((x * 2097152) % 4294967296 ||| (x / 2048)=rotr x 11):=Hd (rot_or x 11 (by decide) (by decide) hx)
 rw [show (((x * 2097152) % 4294967296:Nat):Int)=(x:Int) * 2097152 % 4294967296 from rfl,show ((x / 2048:Nat):Int)=(x:Int) / 2048 from rfl,hr.out] at hv
 clear hr
 generalize rotr x 11=R at *
 go_enter Tryz.func252,Tryz.ntmps252
 go_wp2_with fail
 go_ret
 exact ⟨rfl,rfl⟩
theorem rotl_13 (x:Nat) (w:World) (hx:x < 4294967296):Calls Tryz.prog 252 #[.int .u32 (x:Int),.int .i64 (-13)] w fun e w'=>e=.returned (.int .u32 (rotr x 13:Int)) /\ w=w':=by
 have a1:bits .and .u64 (IntKind.u64.wrap (-13)) 31=19:=by decide
 have hv:=u32_or_nat ((x * 524288) % 4294967296) (x / 8192) (by omega) (by omega)
 have hr:Hid ((x * 524288) % 4294967296 ||| (x / 8192)=rotr x 13):=Hd (rot_or x 13 (by decide) (by decide) hx)
 rw [show (((x * 524288) % 4294967296:Nat):Int)=(x:Int) * 524288 % 4294967296 from rfl,show ((x / 8192:Nat):Int)=(x:Int) / 8192 from rfl,hr.out] at hv
 clear hr
 generalize rotr x 13=R at *
 go_enter Tryz.func252,Tryz.ntmps252
 go_wp2_with fail
 go_ret
 exact ⟨rfl,rfl⟩
theorem rotl_17 (x:Nat) (w:World) (hx:x < 4294967296):Calls Tryz.prog 252 #[.int .u32 (x:Int),.int .i64 (-17)] w fun e w'=>e=.returned (.int .u32 (rotr x 17:Int)) /\ w=w':=by
 have a1:bits .and .u64 (IntKind.u64.wrap (-17)) 31=15:=by decide
 have hv:=u32_or_nat ((x * 32768) % 4294967296) (x / 131072) (by omega) (by omega)
 have hr:Hid ((x * 32768) % 4294967296 ||| (x / 131072)=rotr x 17):=Hd (rot_or x 17 (by decide) (by decide) hx)
 rw [show (((x * 32768) % 4294967296:Nat):Int)=(x:Int) * 32768 % 4294967296 from rfl,show ((x / 131072:Nat):Int)=(x:Int) / 131072 from rfl,hr.out] at hv
 clear hr
 generalize rotr x 17=R at *
 go_enter Tryz.func252,Tryz.ntmps252
 go_wp2_with fail
 go_ret
 exact ⟨rfl,rfl⟩
theorem rotl_18 (x:Nat) (w:World) (hx:x < 4294967296):Calls Tryz.prog 252 #[.int .u32 (x:Int),.int .i64 (-18)] w fun e w'=>e=.returned (.int .u32 (rotr x 18:Int)) /\ w=w':=by
 have a1:bits .and .u64 (IntKind.u64.wrap (-18)) 31=14:=by decide
 have hv:=u32_or_nat ((x * 16384) % 4294967296) (x / 262144) (by omega) (by omega)
 have hr:Hid ((x * 16384) % 4294967296 ||| (x / 262144)=rotr x 18):=Hd (rot_or x 18 (by decide) (by decide) hx)
 rw [show (((x * 16384) % 4294967296:Nat):Int)=(x:Int) * 16384 % 4294967296 from rfl,show ((x / 262144:Nat):Int)=(x:Int) / 262144 from rfl,hr.out] at hv
 clear hr
 generalize rotr x 18=R at *
 go_enter Tryz.func252,Tryz.ntmps252
 go_wp2_with fail
 go_ret
 exact ⟨rfl,rfl⟩
theorem rotl_19 (x:Nat) (w:World) (hx:x < 4294967296):Calls Tryz.prog 252 #[.int .u32 (x:Int),.int .i64 (-19)] w fun e w'=>e=.returned (.int .u32 (rotr x 19:Int)) /\ w=w':=by
 have a1:bits .and .u64 (IntKind.u64.wrap (-19)) 31=13:=by decide
 have hv:=u32_or_nat ((x * 8192) % 4294967296) (x / 524288) (by omega) (by omega)
 have hr:Hid ((x * 8192) % 4294967296 ||| (x / 524288)=rotr x 19):=Hd (rot_or x 19 (by decide) (by decide) hx)
 rw [show (((x * 8192) % 4294967296:Nat):Int)=(x:Int) * 8192 % 4294967296 from rfl,show ((x / 524288:Nat):Int)=(x:Int) / 524288 from rfl,hr.out] at hv
 clear hr
 generalize rotr x 19=R at *
 go_enter Tryz.func252,Tryz.ntmps252
 go_wp2_with fail
 go_ret
 exact ⟨rfl,rfl⟩
theorem rotl_22 (x:Nat) (w:World) (hx:x < 4294967296):Calls Tryz.prog 252 #[.int .u32 (x:Int),.int .i64 (-22)] w fun e w'=>e=.returned (.int .u32 (rotr x 22:Int)) /\ w=w':=by
 have a1:bits .and .u64 (IntKind.u64.wrap (-22)) 31=10:=by decide
 have hv:=u32_or_nat ((x * 1024) % 4294967296) (x / 4194304) (by omega) (by omega)
 have hr:Hid ((x * 1024) % 4294967296 ||| (x / 4194304)=rotr x 22):=Hd (rot_or x 22 (by decide) (by decide) hx)
 rw [show (((x * 1024) % 4294967296:Nat):Int)=(x:Int) * 1024 % 4294967296 from rfl,show ((x / 4194304:Nat):Int)=(x:Int) / 4194304 from rfl,hr.out] at hv
 clear hr
 generalize rotr x 22=R at *
 go_enter Tryz.func252,Tryz.ntmps252
 go_wp2_with fail
 go_ret
 exact ⟨rfl,rfl⟩
theorem rotl_25 (x:Nat) (w:World) (hx:x < 4294967296):Calls Tryz.prog 252 #[.int .u32 (x:Int),.int .i64 (-25)] w fun e w'=>e=.returned (.int .u32 (rotr x 25:Int)) /\ w=w':=by
 have a1:bits .and .u64 (IntKind.u64.wrap (-25)) 31=7:=by decide
 have hv:=u32_or_nat ((x * 128) % 4294967296) (x / 33554432) (by omega) (by omega)
 have hr:Hid ((x * 128) % 4294967296 ||| (x / 33554432)=rotr x 25):=Hd (rot_or x 25 (by decide) (by decide) hx)
 rw [show (((x * 128) % 4294967296:Nat):Int)=(x:Int) * 128 % 4294967296 from rfl,show ((x / 33554432:Nat):Int)=(x:Int) / 33554432 from rfl,hr.out] at hv
 clear hr
 generalize rotr x 25=R at *
 go_enter Tryz.func252,Tryz.ntmps252
 go_wp2_with fail
 go_ret
 exact ⟨rfl,rfl⟩
def great (x a b c:Nat):Nat:=(rotr x a ^^^ rotr x b) ^^^ rotr x c
def small (x a b c:Nat):Nat:=(rotr x a ^^^ rotr x b) ^^^ (x / 2 ^ c)
theorem xor_lt {x y:Nat} (hx:x < 4294967296) (hy:y < 4294967296):x ^^^ y < 4294967296:=Nat.xor_lt_two_pow (n:=32) hx hy
theorem great_lt (x a b c:Nat) (ha:1 <= a /\ a <= 31) (hb:1 <= b /\ b <= 31) (hc:1 <= c /\ c <= 31) (hx:x < 4294967296):great x a b c < 4294967296 :=
 xor_lt (xor_lt (rot_lt x a ha.1 ha.2 hx) (rot_lt x b hb.1 hb.2 hx)) (rot_lt x c hc.1 hc.2 hx)
theorem small_lt (x a b c:Nat) (ha:1 <= a /\ a <= 31) (hb:1 <= b /\ b <= 31) (hx:x < 4294967296):small x a b c < 4294967296 :=
 xor_lt (xor_lt (rot_lt x a ha.1 ha.2 hx) (rot_lt x b hb.1 hb.2 hx)) (Nat.lt_of_le_of_lt (Nat.div_le_self _ _) hx)
theorem turned_6 (x:Nat) (w:World) (hx:x < 4294967296):Calls Tryz.prog 208 #[.int .u32 (x:Int),.int .i64 6,.int .i64 11,.int .i64 25] w fun e w'=>e=.returned (.int .u32 (great x 6 11 25:Int)) /\ w=w':=by
 have A1:=fun W=>rotl_6 x W hx
 have A2:=fun W=>rotl_11 x W hx
 have A3:=fun W=>rotl_25 x W hx
 have l1:=rot_lt x 6 (by decide) (by decide) hx
 have l2:=rot_lt x 11 (by decide) (by decide) hx
 have l3:=rot_lt x 25 (by decide) (by decide) hx
 have v1:=u32_xor_nat _ _ l1 l2
 have v2:=u32_xor_nat _ _ (xor_lt l1 l2) l3
 have HE:Hid (great x 6 11 25=(rotr x 6 ^^^ rotr x 11) ^^^ rotr x 25):=Hd rfl
 generalize great x 6 11 25=R at *
 generalize rotr x 6 ^^^ rotr x 11=z at *
 generalize rotr x 6=y1 at *
 generalize rotr x 11=y2 at *
 generalize rotr x 25=y3 at *
 clear l1 l2 l3
 go_enter Tryz.func208,Tryz.ntmps208
 go_wp2_with fail
 refine (A1 _).mono ?_
 rintro e w1 ⟨rfl,rfl⟩
 go_wp2_with fail
 refine (A2 _).mono ?_
 rintro e w1 ⟨rfl,rfl⟩
 go_wp2_with fail
 refine (A3 _).mono ?_
 rintro e w1 ⟨rfl,rfl⟩
 go_wp2_with fail
 go_ret
 exact ⟨by rw [HE.out]; rfl,rfl⟩
theorem turned_2 (x:Nat) (w:World) (hx:x < 4294967296):Calls Tryz.prog 208 #[.int .u32 (x:Int),.int .i64 2,.int .i64 13,.int .i64 22] w fun e w'=>e=.returned (.int .u32 (great x 2 13 22:Int)) /\ w=w':=by
 have A1:=fun W=>rotl_2 x W hx
 have A2:=fun W=>rotl_13 x W hx
 have A3:=fun W=>rotl_22 x W hx
 have l1:=rot_lt x 2 (by decide) (by decide) hx
 have l2:=rot_lt x 13 (by decide) (by decide) hx
 have l3:=rot_lt x 22 (by decide) (by decide) hx
 have v1:=u32_xor_nat _ _ l1 l2
 have v2:=u32_xor_nat _ _ (xor_lt l1 l2) l3
 have HE:Hid (great x 2 13 22=(rotr x 2 ^^^ rotr x 13) ^^^ rotr x 22):=Hd rfl
 generalize great x 2 13 22=R at *
 generalize rotr x 2 ^^^ rotr x 13=z at *
 generalize rotr x 2=y1 at *
 generalize rotr x 13=y2 at *
 generalize rotr x 22=y3 at *
 clear l1 l2 l3
 go_enter Tryz.func208,Tryz.ntmps208
 go_wp2_with fail
 refine (A1 _).mono ?_
 rintro e w1 ⟨rfl,rfl⟩
 go_wp2_with fail
 refine (A2 _).mono ?_
 rintro e w1 ⟨rfl,rfl⟩
 go_wp2_with fail
 refine (A3 _).mono ?_
 rintro e w1 ⟨rfl,rfl⟩
 go_wp2_with fail
 go_ret
 exact ⟨by rw [HE.out]; rfl,rfl⟩
theorem spread_7 (x:Nat) (w:World) (hx:x < 4294967296):Calls Tryz.prog 251 #[.int .u32 (x:Int),.int .i64 7,.int .i64 18,.int .i64 3] w fun e w'=>e=.returned (.int .u32 (small x 7 18 3:Int)) /\ ∃ n,w'=w.drewN n:=by
 have A1:=fun W=>rotl_7 x W hx
 have A2:=fun W=>rotl_18 x W hx
 have l1:=rot_lt x 7 (by decide) (by decide) hx
 have l2:=rot_lt x 18 (by decide) (by decide) hx
 have v1:=u32_xor_nat _ _ l1 l2
 have v2:=u32_xor_nat _ (x / 8) (xor_lt l1 l2) (by omega)
 rw [show ((x / 8:Nat):Int)=(x:Int) / 8 from rfl] at v2
 have HE:Hid (small x 7 18 3=(rotr x 7 ^^^ rotr x 18) ^^^ (x / 8)):=Hd rfl
 have Q1:=fun W=>(A1 W).mono (fun _ _ (h:_ /\ _)=>(⟨h.1,h.2.symm⟩:_ /\ _))
 have Q2:=fun W=>(A2 W).mono (fun _ _ (h:_ /\ _)=>(⟨h.1,h.2.symm⟩:_ /\ _))
 clear A1 A2
 generalize small x 7 18 3=R at *
 generalize rotr x 7 ^^^ rotr x 18=z at *
 generalize rotr x 7=y1 at *
 generalize rotr x 18=y2 at *
 clear l1 l2
 go_enter Tryz.func251,Tryz.ntmps251
 go_wp2_with fail
 go_quiet ((first
  | (go_at_call 252; with_reducible exact Calls.quiet_of_same (Q1 _))
  | (go_at_call 252; with_reducible exact Calls.quiet_of_same (Q2 _))))
 go_wp2_with fail
 go_ret
 exact ⟨by rw [HE.out]; rfl,_,rfl⟩
theorem spread_17 (x:Nat) (w:World) (hx:x < 4294967296):Calls Tryz.prog 251 #[.int .u32 (x:Int),.int .i64 17,.int .i64 19,.int .i64 10] w fun e w'=>e=.returned (.int .u32 (small x 17 19 10:Int)) /\ ∃ n,w'=w.drewN n:=by
 have A1:=fun W=>rotl_17 x W hx
 have A2:=fun W=>rotl_19 x W hx
 have l1:=rot_lt x 17 (by decide) (by decide) hx
 have l2:=rot_lt x 19 (by decide) (by decide) hx
 have v1:=u32_xor_nat _ _ l1 l2
 have v2:=u32_xor_nat _ (x / 1024) (xor_lt l1 l2) (by omega)
 rw [show ((x / 1024:Nat):Int)=(x:Int) / 1024 from rfl] at v2
 have HE:Hid (small x 17 19 10=(rotr x 17 ^^^ rotr x 19) ^^^ (x / 1024)):=Hd rfl
 have Q1:=fun W=>(A1 W).mono (fun _ _ (h:_ /\ _)=>(⟨h.1,h.2.symm⟩:_ /\ _))
 have Q2:=fun W=>(A2 W).mono (fun _ _ (h:_ /\ _)=>(⟨h.1,h.2.symm⟩:_ /\ _))
 clear A1 A2
 generalize small x 17 19 10=R at *
 generalize rotr x 17 ^^^ rotr x 19=z at *
 generalize rotr x 17=y1 at *
 generalize rotr x 19=y2 at *
 clear l1 l2
 go_enter Tryz.func251,Tryz.ntmps251
 go_wp2_with fail
 go_quiet ((first
  | (go_at_call 252; with_reducible exact Calls.quiet_of_same (Q1 _))
  | (go_at_call 252; with_reducible exact Calls.quiet_of_same (Q2 _))))
 go_wp2_with fail
 go_ret
 exact ⟨by rw [HE.out]; rfl,_,rfl⟩
def cubesL:List Nat:=[4794697085070296209,13096744586791213989,4131703405765792241,10538285296827260629,15566598207151758081,2608012711741390275,8268148720858477054,11230858888332702068,16472876343709550470,1135362055407968716,3308224257782482090,6679025011744409818,10970295157772109421,12683024718762704839,14330467156182405447,489312709404862823,2861767655337697592,5560940570391088403,7280758554198936251,9350256978237205637,11727347735703742027,14000437183109681571,15101387698198873636,17586052440550711408,1847814047869135880,2830643534987574453,4115178123771292234,6601373596217405427,8399075790807196527,9568029438005150216,10430055239000288491,13761210420988836082]
theorem cubes_at (i:Nat) (h:i < 32) (w:World):(Instr.index 350 (.agg #[.int .u64 4794697085070296209,.int .u64 13096744586791213989,.int .u64 4131703405765792241,.int .u64 10538285296827260629,.int .u64 15566598207151758081,.int .u64 2608012711741390275,.int .u64 8268148720858477054,.int .u64 11230858888332702068,.int .u64 16472876343709550470,.int .u64 1135362055407968716,.int .u64 3308224257782482090,.int .u64 6679025011744409818,.int .u64 10970295157772109421,.int .u64 12683024718762704839,.int .u64 14330467156182405447,.int .u64 489312709404862823,.int .u64 2861767655337697592,.int .u64 5560940570391088403,.int .u64 7280758554198936251,.int .u64 9350256978237205637,.int .u64 11727347735703742027,.int .u64 14000437183109681571,.int .u64 15101387698198873636,.int .u64 17586052440550711408,.int .u64 1847814047869135880,.int .u64 2830643534987574453,.int .u64 4115178123771292234,.int .u64 6601373596217405427,.int .u64 8399075790807196527,.int .u64 9568029438005150216,.int .u64 10430055239000288491,.int .u64 13761210420988836082]) (.int .i64 (i:Int))).run Tryz.prog w=.ok (.int .u64 (cubesL.getD i 0:Nat)) w:=by
 have:i=0 \/ i=1 \/ i=2 \/ i=3 \/ i=4 \/ i=5 \/ i=6 \/ i=7 \/ i=8 \/ i=9 \/ i=10 \/ i=11 \/ i=12 \/ i=13 \/ i=14 \/ i=15 \/ i=16 \/ i=17 \/ i=18 \/ i=19 \/ i=20 \/ i=21 \/ i=22 \/ i=23 \/ i=24 \/ i=25 \/ i=26 \/ i=27 \/ i=28 \/ i=29 \/ i=30 \/ i=31:=by omega
 rcases this with rfl | rfl | rfl | rfl | rfl | rfl | rfl | rfl | rfl | rfl | rfl | rfl | rfl | rfl | rfl | rfl | rfl | rfl | rfl | rfl | rfl | rfl | rfl | rfl | rfl | rfl | rfl | rfl | rfl | rfl | rfl | rfl
 ·(show _=_; kernel_rfl)
 ·(show _=_; kernel_rfl)
 ·(show _=_; kernel_rfl)
 ·(show _=_; kernel_rfl)
 ·(show _=_; kernel_rfl)
 ·(show _=_; kernel_rfl)
 ·(show _=_; kernel_rfl)
 ·(show _=_; kernel_rfl)
 ·(show _=_; kernel_rfl)
 ·(show _=_; kernel_rfl)
 ·(show _=_; kernel_rfl)
 ·(show _=_; kernel_rfl)
 ·(show _=_; kernel_rfl)
 ·(show _=_; kernel_rfl)
 ·(show _=_; kernel_rfl)
 ·(show _=_; kernel_rfl)
 ·(show _=_; kernel_rfl)
 ·(show _=_; kernel_rfl)
 ·(show _=_; kernel_rfl)
 ·(show _=_; kernel_rfl)
 ·(show _=_; kernel_rfl)
 ·(show _=_; kernel_rfl)
 ·(show _=_; kernel_rfl)
 ·(show _=_; kernel_rfl)
 ·(show _=_; kernel_rfl)
 ·(show _=_; kernel_rfl)
 ·(show _=_; kernel_rfl)
 ·(show _=_; kernel_rfl)
 ·(show _=_; kernel_rfl)
 ·(show _=_; kernel_rfl)
 ·(show _=_; kernel_rfl)
 ·(show _=_; kernel_rfl)
theorem cubes_c (i:Nat) (h:i < 32) (w:World):Calls Tryz.prog 253 #[.int .i64 (i:Int)] w fun e w'=>e=.returned (.int .u64 (cubesL.getD i 0:Nat)) /\ w=w':=by
 have IX:=fun W=>cubes_at i h W
 generalize cubesL.getD i 0=R at *
 go_enter Tryz.func253,Tryz.ntmps253
 go_wp2_with fail
 go_ret
 exact ⟨rfl,rfl⟩
theorem cubesL_lt (i:Nat):cubesL.getD i 0 < 18446744073709551616:=by
 by_cases h:i < 32
 ·have:i=0 \/ i=1 \/ i=2 \/ i=3 \/ i=4 \/ i=5 \/ i=6 \/ i=7 \/ i=8 \/ i=9 \/ i=10 \/ i=11 \/ i=12 \/ i=13 \/ i=14 \/ i=15 \/ i=16 \/ i=17 \/ i=18 \/ i=19 \/ i=20 \/ i=21 \/ i=22 \/ i=23 \/ i=24 \/ i=25 \/ i=26 \/ i=27 \/ i=28 \/ i=29 \/ i=30 \/ i=31:=by omega
  rcases this with rfl | rfl | rfl | rfl | rfl | rfl | rfl | rfl | rfl | rfl | rfl | rfl | rfl | rfl | rfl | rfl | rfl | rfl | rfl | rfl | rfl | rfl | rfl | rfl | rfl | rfl | rfl | rfl | rfl | rfl | rfl | rfl <;> decide
 ·have:cubesL.getD i 0=0:=by unfold List.getD; rw [List.getElem?_eq_none (by have:cubesL.length=32:=rfl; omega)]; rfl
  rw [this]; decide
def kN (t:Nat):Nat:=if t % 2=0 then cubesL.getD (t / 2) 0 / 4294967296 % 4294967296 else cubesL.getD (t / 2) 0 % 4294967296
theorem kN_lt (t:Nat):kN t < 4294967296:=by unfold kN; split <;> exact Nat.mod_lt _ (by decide)
theorem k_c (t:Nat) (h:t < 64) (w:World):Calls Tryz.prog 209 #[.int .i64 (t:Int)] w fun e w'=>e=.returned (.int .u32 (kN t:Nat)) /\ w=w':=by
 have CB:=fun W=>cubes_c (t / 2) (by omega) W
 rw [show ((t / 2:Nat):Int)=(t:Int) / 2 from rfl] at CB
 have hc:=cubesL_lt (t / 2)
 by_cases h0:t % 2=0
 ·have h1:(t:Int) % 2=0:=by omega
  have HE:Hid (kN t=cubesL.getD (t / 2) 0 / 4294967296):=Hd ((if_pos h0).trans (Nat.mod_eq_of_lt (by omega)))
  generalize cubesL.getD (t / 2) 0=c at *
  generalize kN t=R at *
  clear h0
  go_enter Tryz.func209,Tryz.ntmps209
  go_wp2_with fail
  refine (CB _).mono ?_
  rintro e w1 ⟨rfl,rfl⟩
  go_wp2_with fail
  go_ret
  exact ⟨by rw [HE.out]; rfl,rfl⟩
 ·have h1:(t:Int) % 2=1:=by omega
  have HE:Hid (kN t=cubesL.getD (t / 2) 0 % 4294967296):=Hd (if_neg h0)
  generalize cubesL.getD (t / 2) 0=c at *
  generalize kN t=R at *
  clear h0
  go_enter Tryz.func209,Tryz.ntmps209
  go_wp2_with fail
  refine (CB _).mono ?_
  rintro e w1 ⟨rfl,rfl⟩
  go_wp2_with fail
  go_ret
  exact ⟨by rw [HE.out]; rfl,rfl⟩
def add32 (a b:Nat):Nat:=(a + b) % 4294967296
theorem add32_lt (a b:Nat):add32 a b < 4294967296:=Nat.mod_lt _ (by decide)
theorem add32_cast (a b:Nat):((a:Int) + (b:Int)) % 4294967296=((add32 a b:Nat):Int):=by unfold add32; omega
def All32 (l:List Nat):Prop:=∀ x ∈ l,x < 4294967296
theorem All32.get {l:List Nat} (h:All32 l) (i:Nat):l.getD i 0 < 4294967296:=by
 unfold List.getD
 cases e:l[i]? with
 | none=>simp
 | some x=>simpa using h x (List.mem_of_getElem? e)
theorem All32.set {l:List Nat} (h:All32 l) (i:Nat) {x:Nat} (hx:x < 4294967296):All32 (l.set i x):=fun y hy=>by
 rcases List.mem_or_eq_of_mem_set hy with hy | rfl
 ·exact h y hy
 ·exact hx
def laterX (W:List Nat) (t:Nat):Nat:=add32 (add32 (small (W.getD ((t + 1) % 16) 0) 7 18 3) (W.getD ((t + 9) % 16) 0)) (small (W.getD ((t + 14) % 16) 0) 17 19 10)
def laterN (W:List Nat) (t:Nat):Nat:=add32 (W.getD (t % 16) 0) (laterX W t)
structure V8 where
 a:Nat
 b:Nat
 c:Nat
 d:Nat
 e:Nat
 f:Nat
 g:Nat
 h:Nat
structure V8.Ok (v:V8):Prop where
 a:v.a < 4294967296
 b:v.b < 4294967296
 c:v.c < 4294967296
 d:v.d < 4294967296
 e:v.e < 4294967296
 f:v.f < 4294967296
 g:v.g < 4294967296
 h:v.h < 4294967296
def V8.up (v:V8) (k w:Nat):Nat:=add32 (add32 (add32 (add32 v.h (great v.e 6 11 25)) (v.g ^^^ (v.e &&& (v.f ^^^ v.g)))) k) w
def V8.over (v:V8):Nat:=add32 (great v.a 2 13 22) ((v.a &&& v.b) ||| (v.c &&& (v.a ||| v.b)))
def V8.next (v:V8) (k w:Nat):V8:=⟨add32 (v.up k w) v.over,v.a,v.b,v.c,add32 v.d (v.up k w),v.e,v.f,v.g⟩
theorem V8.next_ok {v:V8} (h:v.Ok) (k w:Nat):(v.next k w).Ok:=⟨add32_lt _ _,h.a,h.b,h.c,add32_lt _ _,h.e,h.f,h.g⟩
def wAt (W:List Nat) (t:Nat):Nat:=if t < 16 then W.getD (t % 16) 0 else laterN W t
def wNext (W:List Nat) (t:Nat):List Nat:=if t < 16 then W else W.set (t % 16) (laterN W t)
def rndN (v:V8) (W:List Nat):Nat -> V8 × List Nat
 | 0=>(v,W)
 | t + 1=>((rndN v W t).1.next (kN t) (wAt (rndN v W t).2 t),wNext (rndN v W t).2 t)
theorem wNext_len (W:List Nat) (t:Nat):(wNext W t).length=W.length:=by unfold wNext; split <;> simp
theorem wNext_32 {W:List Nat} (h:All32 W) (t:Nat):All32 (wNext W t):=by
 unfold wNext; split
 ·exact h
 ·exact h.set _ (add32_lt _ _)
theorem wAt_lt {W:List Nat} (h:All32 W) (t:Nat):wAt W t < 4294967296:=by
 unfold wAt; split
 ·exact h.get _
 ·exact add32_lt _ _
theorem rndN_ok {v:V8} {W:List Nat} (hv:v.Ok) (hW:All32 W):∀ t,(rndN v W t).1.Ok /\ All32 (rndN v W t).2 /\ (rndN v W t).2.length=W.length
 | 0=>⟨hv,hW,rfl⟩
 | t + 1=>by
   obtain ⟨h1,h2,h3⟩:=rndN_ok hv hW t
   exact ⟨V8.next_ok h1 _ _,wNext_32 h2 t,(wNext_len _ t).trans h3⟩
def V8.of (h:List Nat):V8:=⟨h.getD 0 0,h.getD 1 0,h.getD 2 0,h.getD 3 0,h.getD 4 0,h.getD 5 0,h.getD 6 0,h.getD 7 0⟩
def V8.list (v:V8):List Nat:=[v.a,v.b,v.c,v.d,v.e,v.f,v.g,v.h]
theorem V8.of_ok {h:List Nat} (hh:All32 h):(V8.of h).Ok:=⟨hh.get _,hh.get _,hh.get _,hh.get _,hh.get _,hh.get _,hh.get _,hh.get _⟩
def addTo (h v:List Nat):Nat -> List Nat
 | 0=>h
 | i + 1=>(addTo h v i).set i (add32 (h.getD i 0) (v.getD i 0))
theorem addTo_len (h v:List Nat):∀ i,(addTo h v i).length=h.length
 | 0=>rfl
 | i + 1=>by simp only [addTo,List.length_set]; exact addTo_len h v i
theorem addTo_32 {h:List Nat} (hh:All32 h) (v:List Nat):∀ i,All32 (addTo h v i)
 | 0=>hh
 | i + 1=>(addTo_32 hh v i).set _ (add32_lt _ _)
theorem addTo_get (h v:List Nat):∀ i j,i <= j -> (addTo h v i).getD j 0=h.getD j 0
 | 0,_,_=>rfl
 | i + 1,j,hj=>by
   have ih:=addTo_get h v i j (by omega)
   unfold List.getD at *
   simp only [addTo]
   rw [List.getElem?_set_ne (by omega)]
   exact ih
structure Pn where
 h:List Nat
 W:List Nat
 n:Nat
structure Pn.Wk (p:Pn):Prop where
 h:p.h.length=8
 W:p.W.length=16
 h32:All32 p.h
 W32:All32 p.W
structure Pn.Ok (p:Pn):Prop where
 h:p.h.length=8
 W:p.W.length=16
 h32:All32 p.h
 W32:All32 p.W
 n:p.n < 64
theorem Pn.Ok.wk {p:Pn} (h:p.Ok):p.Wk:=⟨h.h,h.W,h.h32,h.W32⟩
def Pn.stirM (p:Pn) (m:Nat):Pn:=⟨addTo p.h (rndN (V8.of p.h) p.W m).1.list 8,(rndN (V8.of p.h) p.W m).2,p.n⟩
def Pn.stir (p:Pn):Pn:=p.stirM 64
def Pn.zero (p:Pn):Pn:=⟨p.h,p.W,0⟩
theorem Pn.stirM_ok {p:Pn} (h8:p.h.length=8) (hW:p.W.length=16) (h32:All32 p.h) (w32:All32 p.W) (m:Nat):(p.stirM m).zero.Ok:=by
 obtain ⟨-,h2,h3⟩:=rndN_ok (V8.of_ok h32) w32 m
 exact ⟨(addTo_len _ _ _).trans h8,h3.trans hW,addTo_32 h32 _ _,h2,by show 0 < 64; decide⟩
theorem Pn.stir_ok {p:Pn} (h8:p.h.length=8) (hW:p.W.length=16) (h32:All32 p.h) (w32:All32 p.W):p.stir.zero.Ok:=Pn.stirM_ok h8 hW h32 w32 64
def more8 (x c:Nat):Nat:=x * 256 % 4294967296 + c
theorem more8_lt (x:Nat) {c:Nat} (h:c < 256):more8 x c < 4294967296:=by unfold more8; omega
def Pn.fed (p:Pn) (c:Nat):Pn:=⟨p.h,p.W.set (p.n / 4) (more8 (p.W.getD (p.n / 4) 0) c),p.n + 1⟩
def Pn.put (p:Pn) (c:Nat):Pn:=if p.n + 1=64 then (p.fed c).stir.zero else p.fed c
theorem Pn.fed_wk {p:Pn} (h:p.Ok) {c:Nat} (hc:c < 256):(p.fed c).Wk:=⟨h.h,by simp [Pn.fed,h.W],h.h32,h.W32.set _ (more8_lt _ hc)⟩
theorem Pn.put_ok {p:Pn} (h:p.Ok) {c:Nat} (hc:c < 256):(p.put c).Ok:=by
 have hW:All32 (p.fed c).W:=h.W32.set _ (more8_lt _ hc)
 have hl:(p.fed c).W.length=16:=by simp [Pn.fed,h.W]
 unfold Pn.put
 split
 ·exact Pn.stir_ok (p:=p.fed c) h.h hl h.h32 hW
 ·have:=h.n
  exact ⟨h.h,hl,h.h32,hW,by show p.n + 1 < 64; omega⟩
theorem Pn.put_n (p:Pn) (c:Nat):(p.put c).n=if p.n + 1=64 then 0 else p.n + 1:=by
 unfold Pn.put; split <;> rfl
def Pn.puts (p:Pn) (l:List Nat):Pn:=l.foldl Pn.put p
theorem Pn.puts_ok:∀ {l:List Nat} {p:Pn},p.Ok -> (∀ c ∈ l,c < 256) -> (p.puts l).Ok
 | [],_,h,_=>h
 | c :: l,p,h,hl=>Pn.puts_ok (l:=l) (p:=p.put c) (Pn.put_ok h (hl c (by simp))) fun x hx=>hl x (by simp [hx])
theorem Pn.puts_snoc (p:Pn) (l:List Nat) (c:Nat):p.puts (l ++ [c])=(p.puts l).put c:=by simp [Pn.puts]
def pn0:Pn:=⟨[1779033703,3144134277,1013904242,2773480762,1359893119,2600822924,528734635,1541459225],List.replicate 16 0,0⟩
theorem pn0_ok:pn0.Ok:=⟨rfl,rfl,by unfold All32; decide,by unfold All32; decide,by decide⟩
theorem more8_or (x c:Nat) (hc:c < 256):((x * 256) % 4294967296) ||| c=more8 x c:=by
 have h3:(x * 256) % 4294967296=(x % 16777216) <<< 8:=by rw [show (4294967296:Nat)=16777216 * 256 from rfl,Nat.mul_mod_mul_right,Nat.shiftLeft_eq]
 unfold more8
 rw [h3,<- Nat.shiftLeft_add_eq_or_of_lt (i:=8) (show c < 2 ^ 8 from hc)]
def zerosN (n:Nat):Nat:=(120 - n) % 64
def byteL (s:ByteArray):List Nat:=s.data.toList.map fun c=>c.toNat
theorem byteL_lt (s:ByteArray):∀ c ∈ byteL s,c < 256:=by
 intro c hc
 obtain ⟨x,-,rfl⟩:=List.mem_map.1 hc
 exact x.toNat_lt
def pnA (s:ByteArray):Pn:=(pn0.puts (byteL s)).put 128
def pnB (s:ByteArray):Pn:=(pnA s).puts (List.replicate (zerosN (pnA s).n) 0)
def sizeL (n:Nat):List Nat:=(List.range 8).map fun i=>n * 8 / 2 ^ (56 - 8 * i) % 256
def pnC (s:ByteArray):Pn:=(pnB s).puts (sizeL s.size)
theorem sizeL_lt (n:Nat):∀ c ∈ sizeL n,c < 256:=by
 intro c hc
 obtain ⟨x,-,rfl⟩:=List.mem_map.1 hc
 exact Nat.mod_lt _ (by decide)
theorem pnA_ok (s:ByteArray):(pnA s).Ok:=Pn.put_ok (Pn.puts_ok pn0_ok (byteL_lt s)) (by decide)
theorem pnB_ok (s:ByteArray):(pnB s).Ok:=Pn.puts_ok (pnA_ok s) fun c hc=>by rw [List.eq_of_mem_replicate hc]; decide
theorem pnC_ok (s:ByteArray):(pnC s).Ok:=Pn.puts_ok (pnB_ok s) (sizeL_lt _)
def outL (h:List Nat):List UInt8:=(List.range 32).map fun i=>UInt8.ofNat (h.getD (i / 4) 0 / 2 ^ (24 - i % 4 * 8))
def prB (s:ByteArray):ByteArray:=⟨(outL (pnC s).h).toArray⟩
theorem prB_size (s:ByteArray):(prB s).size=32:=by
 show (outL (pnC s).h).toArray.size=32
 simp [outL]
def pnCells (h W:List Nat) (n:Nat):List Value:=h.map (fun (x:Nat)=>Value.int .u32 (x:Int)) ++ (W.map (fun (x:Nat)=>Value.int .u32 (x:Int)) ++ [.int .i64 (n:Int)])
theorem pnCells_h {h W:List Nat} {n:Nat} (h8:h.length=8) {i:Nat} (hi:i < 8):(pnCells h W n)[i]?=some (.int .u32 (h.getD i 0:Nat)):=by
 unfold pnCells List.getD
 rw [List.getElem?_append_left (by simp; omega),List.getElem?_map,List.getElem?_eq_getElem (by omega)]; simp
theorem pnCells_w {h W:List Nat} {n:Nat} (h8:h.length=8) (hW:W.length=16) {i:Nat} (hi:i < 16):(pnCells h W n)[8 + i]?=some (.int .u32 (W.getD i 0:Nat)):=by
 unfold pnCells List.getD
 rw [List.getElem?_append_right (by simp; omega),List.length_map,h8,show 8 + i - 8=i by omega,List.getElem?_append_left (by simp; omega),List.getElem?_map,List.getElem?_eq_getElem (by omega)]; simp
theorem pnCells_n {h W:List Nat} {n:Nat} (h8:h.length=8) (hW:W.length=16):(pnCells h W n)[24]?=some (.int .i64 (n:Int)):=by
 unfold pnCells
 rw [List.getElem?_append_right (by simp; omega),List.length_map,h8,List.getElem?_append_right (by simp; omega),List.length_map,hW]; rfl
theorem pnCells_set_h {h W:List Nat} {n:Nat} (h8:h.length=8) {i:Nat} (hi:i < 8) (x:Nat):(pnCells h W n).set i (.int .u32 (x:Int))=pnCells (h.set i x) W n:=by
 unfold pnCells
 rw [List.set_append_left _ _ (by simp; omega),List.map_set]
theorem pnCells_set_w {h W:List Nat} {n:Nat} (h8:h.length=8) (hW:W.length=16) {i:Nat} (hi:i < 16) (x:Nat):(pnCells h W n).set (8 + i) (.int .u32 (x:Int))=pnCells h (W.set i x) n:=by
 unfold pnCells
 rw [List.set_append_right _ _ (by simp; omega),List.length_map,h8,show 8 + i - 8=i by omega,List.set_append_left _ _ (by simp; omega),List.map_set]
theorem pnCells_set_n {h W:List Nat} {n:Nat} (h8:h.length=8) (hW:W.length=16) (m:Nat):(pnCells h W n).set 24 (.int .i64 (m:Int))=pnCells h W m:=by
 unfold pnCells
 rw [List.set_append_right _ _ (by simp; omega),List.length_map,h8,List.set_append_right _ _ (by simp; omega),List.length_map,hW]; rfl
end Go.Proofs.YtdcjhpafipbpkaaGreatDoor
