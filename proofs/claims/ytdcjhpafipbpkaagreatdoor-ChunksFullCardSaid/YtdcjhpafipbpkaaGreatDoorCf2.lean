/- Parts of the proof of ChunksFull,joined: RoomB,RoomC,RoomD,RoomE,RoomF,Builder,PackA,RoomG,RoomH,Shelfi,TreeA,TreeB,TreeC,TreeD,TreeE,TreeF,TreeG,TreeH,TreeP,TreeQ,TreeI,TreeJ,TreeK,TreeL,TreeM,TreeN. No condition. -/
import Derived.Test.YtdcjhpafipbpkaaGreatDoorCf1
import Derived.Shelf.Strings.Builder1
import Derived.Shelf.Strings.BuilderF
import Derived.Shelf.Strings.BuilderK
import Derived.WalkSpells
import Derived.WalkLawsBesides
import Derived.Deep.LoopGhost
import Derived.Deep.RegionHeld3
import Derived.Deep.AppendLies
import Derived.Deep.DrawnRows
import Derived.Ground.Names2Prog
import Derived.Shelf.Spec.SlicesInsertGrow
import Derived.Shelf.Spec.SlicesInsert
import Derived.Shelf.Spec.SearchS
import Derived.Test.YtdcjhpafipbpkaaGreatDoorProg
import Derived.Laws.OwnMore
import Derived.OwnWalk
import Derived.BigQuiet
import Derived.Sort.Walk0
set_option maxRecDepth 100000
set_option maxHeartbeats 2000000
set_option linter.unusedSimpArgs false
set_option linter.unusedVariables false
set_option linter.unusedSectionVars false
namespace Go.Proofs.YtdcjhpafipbpkaaGreatDoor
open Go.RowKit
structure RS where
 root:Nat->Nat
 used:Nat->Bool
 cont:Nat->ByteArray
 base:List (Int × ByteArray)
structure Rep (n:Nat) (puts:List (Int × ByteArray)) (S:RS):Prop where
 r0:zbM n puts 0=(zbW S.root,0)
 rb:∀ k,S.root k<18446744073709551616
 bits:∀ m:Nat,m<za7 n->zbM n puts ((1+m:Nat):Int)=(zbQ S.used m,0)
 lim:∀ p,S.used p=true->p<zaf n
 page:∀ p:Nat,S.used p=true->zbM n puts ((1+za7 n+p:Nat):Int)=(S.cont p,0)/\(S.cont p).size=512
 base:S.base <+: puts
theorem zaD (n:Nat) (puts:List (Int × ByteArray)) (i j:Int) (s:ByteArray):zbM n (puts++[(i,s)]) j=if i=j then (s,0) else zbM n puts j:=by
 unfold zbM
 rw [zgd]
 by_cases h:i=j
 ·rw [if_pos h,if_pos h]
 ·rw [if_neg h,if_neg h]
theorem zdu {n:Nat} {puts:List (Int × ByteArray)} {i:Int} {s:ByteArray} (h0:0<=i) (h1:i<n) (hs:s.size<=512):zbZ n puts i s=(0,puts++[(i,pad s)]):=by
 unfold zbZ;rw [if_neg (by omega),if_neg (by omega)]
theorem zjo {s:ByteArray} (h:s.size=512):pad s=s:=by
 unfold pad
 rw [h,Nat.sub_self,List.replicate_zero,List.append_nil]
theorem zjp {s:ByteArray} (h:s.size<=512):(pad s).size=512:=by
 rw [Lib.size_eq];simp [pad];omega
theorem Rep.start (n:Nat) (h:4<=n):Rep n [] ⟨λ _=>0,λ _=>false,λ _=>zdG,[]⟩:=by
 have hf:=zed n (by omega)
 refine ⟨?_,λ k=>(show (0:Nat)<18446744073709551616 by decide),λ m hm=>?_,λ p hp=>(by cases hp),λ p hp=>(by cases hp),List.prefix_refl _⟩
 ·show zca n 0=_
  unfold zca;rw [if_neg (by omega),zkx]
 ·show zca n _=_
  unfold zca;rw [if_neg (by omega),zly]
def zee (w w':World) (G:Nat->Prop) (rb n:Nat) (puts:List (Int × ByteArray)) (S':RS) (c:Nat):Prop:=∃ G' puts',puts'.length<=puts.length+c/\Rm w' G' rb n puts'/\Rep n puts' S'/\zdb G G' w w'
theorem Rm1.write {w w':World} {G:Nat->Prop} {rb n tb lb:Nat} {FL F F':Nat->Prop} {puts puts':List (Int × ByteArray)} (h:Rm1 w G rb n tb lb FL F puts) (hc:Chg w' FL F' tb lb n puts') (ht:zdb F F' w w') :
 Rm1 w' (λ k=>FL k\/F' k\/k=rb) rb n tb lb FL F' puts'/\zdb G (λ k=>FL k\/F' k\/k=rb) w w':=by
 have hu:Upd G w w':=ht.upd.mono (λ k _ hk=>(h.own k).2 (.inr (.inl hk)))
 have hrb:=zab h.cells
 refine ⟨⟨hc,ht.upd.at h.cells h.nF,h.nL,λ e=>?_,λ k=>Iff.rfl⟩,hu,λ k hk=>?_⟩
 ·rcases ht.sub rb e with a|a
  ·exact h.nF a
  ·omega
 ·rcases hk with a|a|rfl
  ·exact .inl ((h.own k).2 (.inl a))
  ·exact (ht.sub k a).imp (λ b=>(h.own k).2 (.inr (.inl b))) id
  ·exact .inl ((h.own k).2 (.inr (.inr rfl)))
theorem zdR (G:Nat->Prop) (rb n:Nat) (puts:List (Int × ByteArray)) (w:World) (h:Rm w G rb n puts) :
 Calls Tryz.prog 114 #[.pointer (some ⟨rb,0,none⟩)] w λ e w'=>e=.returned (.int .i64 puts.length)/\w=w':=by
 obtain ⟨tb,lb,FL,F,h⟩:=h
 obtain ⟨c0,-,-⟩:=h.c
 have TM:=zpv tb lb n FL F puts w h.chg
 clear h
 go_enter Tryz.func114,Tryz.ntmps114
 go_wp2_with (go_at_call 164;refine TM.mono ?_;rintro e w1 ⟨rfl,rfl⟩)
 go_ret
 exact ⟨rfl,rfl⟩
theorem zrf (G:Nat->Prop) (rb n:Nat) (puts:List (Int × ByteArray)) (S:RS) (p:Nat) (w:World) (h:Rm w G rb n puts) (hr:Rep n puts S) (hl:puts.length<=4000000) (hp:p<zaf n) :
 Calls Tryz.prog 220 #[.pointer (some ⟨rb,0,none⟩),.int .i64 p] w λ e w'=>e=.returned (.tuple #[.bool (S.used p),.int .i64 0])/\Below w.heap.size w w':=by
 have hbd:=h.bounds
 have hpn:zaf n<=65335:=by unfold zaf;omega
 have HD:=Hd (zjn G rb n puts w h hl)
 have BT:=Hd (λ w=>zre p w (by omega))
 have hm:=zdt n p hp
 have HO:Hid (∀ W,Below w.heap.size w W->Calls Tryz.prog 105 #[.pointer (some ⟨rb,0,none⟩),.int .i64 (1+p / 4096:Nat)] W λ e w'=>e=.returned (.tuple #[.string (zbQ S.used (p / 4096)),.int .i64 0])/\Below W.heap.size W w') :=
  Hd λ W hW=>by
   have:=ze3 G rb n puts ((1+p / 4096:Nat):Int) W (h.below hW) hl
   rwa [hr.bits _ hm] at this
 have hi:∀ w,(Instr.index 9 (.string (zbQ S.used (p / 4096))) (.int .i64 ((p%4096 / 8:Nat):Int))).run Tryz.prog w=.ok (.int .u8 ((zbm S.used (p / 4096*4096+8*(p%4096 / 8)):Nat):Int)) w:=by
  intro w
  have:=zaI (P:=Tryz.prog) 9 _ _ _ Tryz.underlying9 (zec S.used (p / 4096) (p%4096 / 8) (by omega)) w
  rwa [UInt8.toNat_ofNat',Nat.mod_eq_of_lt (zeb _ _)] at this
 have hand:=zlu S.used (p / 4096*4096+8*(p%4096 / 8)) (p%8) (by omega)
 rw [show p / 4096*4096+8*(p%4096 / 8)+p%8=p by omega] at hand
 have hx:=zeb S.used (p / 4096*4096+8*(p%4096 / 8))
 have hq:(2:Nat) ^ (p%8)<256:=by rcases zhp (show p%8<8 by omega) with e|e|e|e|e|e|e|e <;> rw [e] <;> decide
 generalize S.used p=up at *
 obtain ⟨tb,lb,FL,F,h1⟩:=h
 have C2:Hid (∀ W,Below w.heap.size w W->W.cell? ⟨rb,2,none⟩=some (.int .i64 (zaf n:Int))):=Hd λ W hW=>(h1.below hW).c.2.2
 clear h1 hr
 generalize zaf n=pg at *
 generalize zbQ S.used (p / 4096)=z at *
 generalize zbm S.used (p / 4096*4096+8*(p%4096 / 8))=x at *
 generalize ((1+p / 4096:Nat):Int)=hh at *
 generalize ((p%4096 / 8:Nat):Int)=pl at *
 generalize (2:Nat) ^ (p%8)=q at *
 have hb:=u8_and_nat x q hx hq
 have hne:((bits .and .u8 (x:Int) (q:Int)) != 0)=up:=by
  rw [hb,<-hand]
  cases h0:(x &&& q) with
  | zero=>rfl
  | succ k=>simp;omega
 clear hb hand hx hq
 go_enter Tryz.func220,Tryz.ntmps220
 go_wp2_with fail
 refine (HD.out).mono ?_
 rintro e w1 ⟨rfl,hb1⟩
 have HB1:=Hd hb1
 have c2:=C2.out _ hb1
 clear hb1
 go_wp2_with fail
 refine (BT.out _).mono ?_
 rintro e w2 ⟨rfl,hb2⟩
 have HB2:=Hd ((HB1.out).trans (hb2.mono (HB1.out).size))
 clear hb2
 go_wp2_with fail
 refine (HO.out _ HB2.out).mono ?_
 rintro e w3 ⟨rfl,hb3⟩
 have HB3:=Hd ((HB2.out).trans (hb3.mono (HB2.out).size))
 clear hb3
 go_wp2_with fail
 go_ret2
 exact ⟨rfl,HB3.out⟩
theorem ziv (G:Nat->Prop) (rb n:Nat) (puts:List (Int × ByteArray)) (S:RS) (p:Nat) (w:World) (h:Rm w G rb n puts) (hr:Rep n puts S) (hl:puts.length<=4000000) (hu:S.used p=true) :
 Calls Tryz.prog 182 #[.pointer (some ⟨rb,0,none⟩),.int .i64 p] w λ e w'=>e=.returned (.int .i64 0)/\Below w.heap.size w w':=by
 have HS:=zrf G rb n puts S p w h hr hl (hr.lim p hu)
 rw [hu] at HS
 clear hu h hr
 go_enter Tryz.func182,Tryz.ntmps182
 go_wp2_with fail
 refine HS.mono ?_
 rintro e w1 ⟨rfl,hb⟩
 have HB:=Hd hb
 clear hb
 go_wp2_with fail
 go_ret
 exact ⟨rfl,HB.out⟩
theorem zlz (G:Nat->Prop) (rb n:Nat) (puts:List (Int × ByteArray)) (S:RS) (p:Nat) (w:World) (h:Rm w G rb n puts) (hr:Rep n puts S) (hl:puts.length<=4000000) (hu:S.used p=true) :
 Calls Tryz.prog 183 #[.pointer (some ⟨rb,0,none⟩),.int .i64 p] w λ e w'=>e=.returned (.tuple #[.string (S.cont p),.int .i64 0])/\Below w.heap.size w w':=by
 have hbd:=h.bounds
 have hpn:zaf n<=65335:=by unfold zaf;omega
 have hlim:=hr.lim p hu
 have TK:=ziv G rb n puts S p w h hr hl hu
 have AT:=Hd (λ W (hW:Below w.heap.size w W)=>zsA G rb n puts p W (h.below hW) (by omega))
 have HO:Hid (∀ W,Below w.heap.size w W->Calls Tryz.prog 105 #[.pointer (some ⟨rb,0,none⟩),.int .i64 (1+za7 n+p:Nat)] W λ e w'=>e=.returned (.tuple #[.string (S.cont p),.int .i64 0])/\Below W.heap.size W w') :=
  Hd λ W hW=>by
   have:=ze3 G rb n puts ((1+za7 n+p:Nat):Int) W (h.below hW) hl
   rwa [(hr.page p hu).1] at this
 clear hu h hr hlim
 generalize S.cont p=z at *
 generalize ((1+za7 n+p:Nat):Int)=q at *
 go_enter Tryz.func183,Tryz.ntmps183
 go_wp2_with fail
 refine TK.mono ?_
 rintro e w1 ⟨rfl,hb⟩
 have HB:=Hd hb
 clear hb
 go_wp2_with fail
 refine (AT.out _ HB.out).mono ?_
 rintro e w2 ⟨rfl,rfl⟩
 go_wp2_with fail
 refine (HO.out _ HB.out).mono ?_
 rintro e w3 ⟨rfl,hb3⟩
 have HB3:=Hd ((HB.out).trans (hb3.mono (HB.out).size))
 clear hb3
 go_wp2_with fail
 go_ret2
 exact ⟨rfl,HB3.out⟩
theorem zoX (G:Nat->Prop) (rb n:Nat) (puts:List (Int × ByteArray)) (S:RS) (k:Nat) (w:World) (h:Rm w G rb n puts) (hr:Rep n puts S) (hl:puts.length<=4000000) (hk:k<16) :
 Calls Tryz.prog 69 #[.pointer (some ⟨rb,0,none⟩),.int .i64 k] w λ e w'=>e=.returned (.tuple #[.int .u64 (S.root k:Int),.int .i64 0])/\Below w.heap.size w w':=by
 have HO:=ze3 G rb n puts 0 w h hl
 rw [hr.r0] at HO
 have hv:=hr.rb k
 have HI:=Hd (λ j (hj:j<8) w=>zaI (P:=Tryz.prog) 9 _ _ _ Tryz.underlying9 (zkw S.root k j hk hj) w)
 have hsz:=zbw S.root
 clear hr h
 generalize hR:S.root k=v at *
 clear hR
 generalize zbW S.root=z at *
 go_enter Tryz.func69,Tryz.ntmps69
 go_wp2_with fail
 refine HO.mono ?_
 rintro e w1 ⟨rfl,hb⟩
 have HB:=Hd hb
 clear hb HO
 go_wp2_with fail
 go_loopg [8,26] 8 (λ g s8 s26 wr=>∃ j:Nat,g=8-j/\j<=8/\s26=.int .i64 j/\s8=.int .u64 (v / 256 ^ (8-j):Nat)/\w1=wr)
 case atStart=>exact ⟨0,rfl,zNz _,rfl,by rw [zlx v hv];rfl,rfl⟩
 case round =>
  obtain ⟨j,rfl,hj,rfl,rfl,rfl⟩:=hrel
  by_cases hlt:j<8
  ·have i1:∀ w,(Instr.index 9 (.string z) (.int .i64 (8*(k:Int)+(j:Int)))).run Tryz.prog w=.ok (.int .u8 ((v / 256 ^ (7-j)%256:Nat):Int)) w:=by
    intro w
    have:=HI.out j hlt w
    rw [UInt8.toNat_ofNat',Nat.mod_mod] at this
    rwa [show ((8*k+j:Nat):Int)=8*(k:Int)+(j:Int) by omega] at this
   have HS:=Hd (zlw v j hlt)
   have hx:v / 256 ^ (8-j)<72057594037927936:=by
    have h1:v / 256 ^ (8-j)<=v / 256 ^ 1:=Nat.div_le_div_left (Nat.pow_le_pow_right (by decide) (by omega)) (by decide)
    omega
   have hy:v / 256 ^ (7-j)%256<256:=Nat.mod_lt _ (by decide)
   generalize v / 256 ^ (8-j)=x at *
   generalize v / 256 ^ (7-j)%256=y at *
   have HOR:Hid (bits .or .u64 ((x:Int)*256) (y:Int)=((x*256+y:Nat):Int)):=Hd (by
    have:=u64_or_nat (x*256) y (by omega) (by omega)
    rw [show ((x*256:Nat):Int)=(x:Int)*256 by omega] at this
    rw [this,show x*256=x <<< 8 by rw [Nat.shiftLeft_eq],Nat.shiftLeft_add_eq_or_of_lt (by simpa using hy)])
   go_wp2_with fail
   go_roundg (8-(j+1))
   case measure=>omega
   case rel=>exact ⟨j+1,rfl,by omega,by simp,by rw [<-HS.out,<-HOR.out],rfl⟩
  ·obtain rfl:j=8:=by omega
   go_wp2_with fail
   go_ret2
   exact ⟨by simp,HB.out⟩
theorem znE {n:Nat} {puts:List (Int × ByteArray)} {S:RS} {p:Nat} {s:ByteArray} (hr:Rep n puts S) (hp:p<zaf n) (hs:s.size=512):Rep n (puts++[(((1+za7 n+p:Nat):Int),s)]) ⟨S.root,S.used,λ q=>if q=p then s else S.cont q,S.base⟩:=by
 refine ⟨?_,hr.rb,λ m hm=>?_,hr.lim,λ q hq=>?_,hr.base.trans (List.prefix_append _ _)⟩
 ·rw [zaD,if_neg (by omega)];exact hr.r0
 ·rw [zaD,if_neg (by omega)];exact hr.bits m hm
 ·rw [zaD]
  by_cases e:q=p
  ·subst e
   rw [if_pos rfl]
   simp only [if_true]
   exact ⟨trivial,hs⟩
  ·rw [if_neg (by omega)]
   simp only [if_neg e]
   exact hr.page q hq
theorem zjq (G:Nat->Prop) (rb n:Nat) (puts:List (Int × ByteArray)) (S:RS) (p:Nat) (s:ByteArray) (w:World) (h:Rm w G rb n puts) (hr:Rep n puts S) (hl:puts.length<=4000000) (hu:S.used p=true) (hs:s.size<=512) :
 Calls Tryz.prog 172 #[.pointer (some ⟨rb,0,none⟩),.int .i64 p,.string s] w λ e w'=>e=.returned (.int .i64 0)/\Hid (zee w w' G rb n puts ⟨S.root,S.used,λ q=>if q=p then pad s else S.cont q,S.base⟩ 1):=by
 have hbd:=h.bounds
 have hpn:zaf n<=65335:=by unfold zaf;omega
 have hlim:=hr.lim p hu
 have hfit:=zed n hbd.1
 have TK:=ziv G rb n puts S p w h hr hl hu
 have AT:=Hd (λ W (hW:Below w.heap.size w W)=>zsA G rb n puts p W (h.below hW) (by omega))
 obtain ⟨tb,lb,FL,F,h1⟩:=h
 have H1:=Hd h1
 have TW:Hid (∀ W,Below w.heap.size w W->Calls Tryz.prog 94 #[.pointer (some ⟨tb,0,none⟩),.int .i64 (1+za7 n+p:Nat),.string s] W λ e w'=>e=.returned (.int .i64 0)/\w'.cell? ⟨rb,0,none⟩=some (.pointer (some ⟨tb,0,none⟩))/\Hid (zee w w' G rb n puts ⟨S.root,S.used,λ q=>if q=p then pad s else S.cont q,S.base⟩ 1)):=Hd λ W hW=>by
  have hw:=H1.out.below hW
  have:=zfl tb lb n FL F puts ((1+za7 n+p:Nat):Int) s W hw.chg hl
  rw [zdu (by omega) (by omega) hs] at this
  refine this.mono ?_
  rintro e w' ⟨rfl,F',hc,ht⟩
  obtain ⟨a,b⟩:=hw.write hc ht
  exact ⟨rfl,a.c.1,_,_,by simp,⟨tb,lb,FL,F',a⟩,znE hr hlim (zjp hs),⟨((hW.upd' (zNr _)).mono (λ _ _ e=>e.elim)).trans b.upd,λ k hk=>(b.sub k hk).imp id (λ e=>Nat.le_trans hW.size e)⟩⟩
 have C0:Hid (∀ W,Below w.heap.size w W->W.cell? ⟨rb,0,none⟩=some (.pointer (some ⟨tb,0,none⟩))):=Hd λ W hW=>(H1.out.below hW).c.1
 clear hu hr hlim h1 hfit
 generalize ((1+za7 n+p:Nat):Int)=q at *
 go_enter Tryz.func172,Tryz.ntmps172
 go_wp2_with fail
 refine TK.mono ?_
 rintro e w1 ⟨rfl,hb⟩
 have HB:=Hd hb
 have c0:=C0.out _ hb
 have TW2:=Hd (TW.out w1.drew hb.drew)
 have AT2:=Hd (AT.out w1.drew hb.drew)
 clear hb TK TW AT
 go_wp2_with fail
 go_region_held3 (λ w'=>w'.cell? ⟨rb,0,none⟩=some (.pointer (some ⟨tb,0,none⟩))) (go_keep) ((first
  | (go_at_call 95;refine Calls.at_args AT2.out (by with_reducible rfl) ?_;rintro e w2 ⟨rfl,rfl⟩)
  | (go_at_call 94;refine Calls.at_args TW2.out (by with_reducible rfl) ?_;rintro e w3 ⟨rfl,c3,hgo⟩;have HGO:=Hd hgo.out;clear hgo)))
 go_wp2_with fail
 go_ret
 exact ⟨rfl,HGO⟩
theorem zhq (s:ByteArray) (n i:Nat) (h:i<s.data.toList.length):(bytesRow s n)[i]?=some (.int .u8 s.data.toList[i].toNat):=by
 have h':i<s.data.size:=by simpa using h
 unfold bytesRow
 rw [Array.getElem?_append_left (by simpa using h')]
 simp only [Array.getElem?_map,Option.map_eq_some_iff]
 exact ⟨_,Array.getElem?_eq_getElem h',by simp⟩
theorem ziw {B:Nat} {v:Value} {l:List UInt8} {w:World} (h:zps B v l w):(convert 91 9 v).run Tryz.prog w=.ok (.string ⟨l.toArray⟩) w:=by
 obtain ⟨g,cap,cs,fr,rfl,h1,h2,h3,h4,h5,h6⟩:=h
 have:=run_convert_bytes_arg (P:=Tryz.prog) w 91 5 Tryz.underlying91 Tryz.underlying5 g 0 l.length cap (l.map λ c=>(c.toNat:Int)) (by simp) (λ i hi=>by
  rw [Nat.zero_add]
  rw [zaa h2 (h6 i hi)]
  simp [hi]) 9 Tryz.underlying9
 have e:strOfNums (l.map λ c=>(c.toNat:Int))=⟨l.toArray⟩:=by
  apply ByteArray.ext
  simp only [strOfNums,List.map_map]
  rw [List.map_congr_left (g:=id) (λ c _=>by simp),List.map_id]
 rwa [e] at this
theorem zf7 (s:ByteArray) (w:World) (T:Nat) (hT:T=grownCap w s.size 0 5) :
 zps w.heap.size (.slice (some ⟨w.heap.size,0,none⟩) s.size T) s.data.toList ((w.alloc (.cells (bytesRow s T) 5 ((bytesRow s T).size,(bytesRow s T).size+1))).drew):=by
 have hge:s.size<=T:=by rw [hT];exact grownCap_ge _ _ _ _
 have hsz:(bytesRow s T).size=T:=by unfold bytesRow;simp;omega
 refine ⟨w.heap.size,T,_,_,by rw [Lib.size_eq],zNr _,heap_alloc_new _ _,hsz,by rw [<-Lib.size_eq];exact hge,λ i hi=>?_,λ i hi=>zhq s T i hi⟩
 show World.frozen? (w.alloc _) _=false
 simp only [World.frozen?,heap_alloc_new]
 have:¬(bytesRow s T).size<=i:=by omega
 simp [this]
theorem znF {B g i cap n:Nat} {l:List UInt8} {w:World} (h:zps B (.slice (some ⟨g,0,none⟩) n cap) l w) (hi:i<l.length) (c:UInt8) :
 zps B (.slice (some ⟨g,0,none⟩) n cap) (l.set i c) (w.setCell ⟨g,i,none⟩ (.int .u8 (c.toNat:Int))):=by
 obtain ⟨g',cap',cs,fr,e,h1,h2,h3,h4,h5,h6⟩:=h
 cases e
 refine ⟨g,cap,_,fr,by simp,h1,zac h2 _,by simpa using h3,by simpa using h4,λ j hj=>?_,λ j hj=>?_⟩
 ·have:=h5 j hj
  rw [World.frozen?_setCell];exact this
 ·have hj':j<l.length:=by simpa using hj
  rw [List.getElem_set]
  by_cases e:i=j
  ·subst e
   rw [if_pos rfl,Array.getElem?_setIfInBounds_self_of_lt (by have:=h6 i hj';exact (Array.getElem?_eq_some_iff.1 this).1)]
  ·rw [if_neg e,Array.getElem?_setIfInBounds_ne e]
   exact h6 j hj'
theorem zpz {B g i cap n:Nat} {l:List UInt8} {w:World} (h:zps B (.slice (some ⟨g,0,none⟩) n cap) l w) (hi:i<l.length):w.cell? ⟨g,i,none⟩=some (.int .u8 (l[i].toNat:Int))/\w.frozen? ⟨g,i,none⟩=false:=by
 obtain ⟨g',cap',cs,fr,e,h1,h2,h3,h4,h5,h6⟩:=h
 cases e
 exact ⟨zaa h2 (h6 i hi),h5 i (by omega)⟩
theorem zoY (G:Nat->Prop) (rb n:Nat) (puts:List (Int × ByteArray)) (S:RS) (p:Nat) (w:World) (h:Rm w G rb n puts) (hr:Rep n puts S) (hl:puts.length<=4000000) (hp:p<zaf n) :
 Calls Tryz.prog 93 #[.pointer (some ⟨rb,0,none⟩),.int .i64 p] w λ e w'=>e=.returned (.int .i64 0)/\Hid (∃ G',Rm w' G' rb n (puts++[(((1+p / 4096:Nat):Int),zbQ (zbn S.used p) (p / 4096))])/\zdb G G' w w'):=by
 have hbd:=h.bounds
 have hpn:zaf n<=65335:=by unfold zaf;omega
 have hfit:=zed n hbd.1
 have hm:=zdt n p hp
 have BT:=Hd (zre p w (by omega))
 obtain ⟨tb,lb,FL,F,h1⟩:=h
 have H1:=Hd h1
 have HO:Hid (∀ W,Below w.heap.size w W->Calls Tryz.prog 105 #[.pointer (some ⟨rb,0,none⟩),.int .i64 (1+p / 4096:Nat)] W λ e w'=>e=.returned (.tuple #[.string (zbQ S.used (p / 4096)),.int .i64 0])/\Below W.heap.size W w') :=
  Hd λ W hW=>by
   have:=ze3 G rb n puts ((1+p / 4096:Nat):Int) W ⟨tb,lb,FL,F,H1.out.below hW⟩ hl
   rwa [hr.bits _ hm] at this
 have TW:Hid (∀ W,Below w.heap.size w W->Calls Tryz.prog 94 #[.pointer (some ⟨tb,0,none⟩),.int .i64 (1+p / 4096:Nat),.string (zbQ (zbn S.used p) (p / 4096))] W λ e w'=>e=.returned (.int .i64 0)/\w'.cell? ⟨rb,0,none⟩=some (.pointer (some ⟨tb,0,none⟩)) /\
  Hid (∃ G',Rm w' G' rb n (puts++[(((1+p / 4096:Nat):Int),zbQ (zbn S.used p) (p / 4096))])/\zdb G G' w w')):=Hd λ W hW=>by
  have hw:=H1.out.below hW
  have:=zfl tb lb n FL F puts ((1+p / 4096:Nat):Int) (zbQ (zbn S.used p) (p / 4096)) W hw.chg hl
  rw [zdu (by omega) (by omega) (by rw [zbR];omega),zjo (zbR _ _)] at this
  refine this.mono ?_
  rintro e w' ⟨rfl,F',hc,ht⟩
  obtain ⟨a,b⟩:=hw.write hc ht
  exact ⟨rfl,a.c.1,_,⟨tb,lb,FL,F',a⟩,⟨((hW.upd' (zNr _)).mono (λ _ _ e=>e.elim)).trans b.upd,λ k hk=>(b.sub k hk).imp id (λ e=>Nat.le_trans hW.size e)⟩⟩
 have C0:Hid (∀ W,Below w.heap.size w W->W.cell? ⟨rb,0,none⟩=some (.pointer (some ⟨tb,0,none⟩))):=Hd λ W hW=>(H1.out.below hW).c.1
 have hrb:=zab h1.cells
 have hz:(zbQ S.used (p / 4096)).data.toList=zdH S.used (p / 4096):=rfl
 have hzs:=zbR S.used (p / 4096)
 have HG:=Hd (zec S.used (p / 4096) (p%4096 / 8) (by omega))
 have hflip:=zkt S.used (p / 4096) p rfl
 have hx:=zeb S.used (p / 4096*4096+8*(p%4096 / 8))
 have hq:(2:Nat) ^ (p%8)<256:=by rcases zhp (show p%8<8 by omega) with e|e|e|e|e|e|e|e <;> rw [e] <;> decide
 have hxq:zbm S.used (p / 4096*4096+8*(p%4096 / 8)) ^^^ 2 ^ (p%8)<256:=Nat.xor_lt_two_pow (n:=8) hx hq
 have hb:=u8_xor_nat _ _ hx hq
 have hpl:p%4096 / 8<512:=by omega
 have HFL:=Hd (show zbQ (zbn S.used p) (p / 4096)=⟨((zdH S.used (p / 4096)).set (p%4096 / 8) (UInt8.ofNat (zbm S.used (p / 4096*4096+8*(p%4096 / 8)) ^^^ 2 ^ (p%8)))).toArray⟩ by rw [<-hflip];rfl)
 clear h1 hr hflip hfit hm
 generalize zbQ (zbn S.used p) (p / 4096)=z2 at *
 generalize zdH S.used (p / 4096)=l at *
 generalize zbQ S.used (p / 4096)=z at *
 generalize zbm S.used (p / 4096*4096+8*(p%4096 / 8))=x at *
 generalize ((1+p / 4096:Nat):Int)=hh at *
 generalize p%4096 / 8=pl at *
 generalize (2:Nat) ^ (p%8)=q at *
 go_enter Tryz.func93,Tryz.ntmps93
 go_wp2_with fail
 refine (BT.out).mono ?_
 rintro e w1 ⟨rfl,hb1⟩
 have HB1:=Hd hb1
 clear hb1
 go_wp2_with fail
 refine (HO.out _ HB1.out).mono ?_
 rintro e w2 ⟨rfl,hb2⟩
 have HB2:=Hd ((HB1.out).trans (hb2.mono (HB1.out).size))
 clear hb2
 have hcv:=run_bytes_of_string w2 9 91 5 z Tryz.underlying9 Tryz.underlying91 Tryz.underlying5
 obtain ⟨T,hT⟩:∃ T,T=grownCap w2 z.size 0 5:=⟨_,rfl⟩
 have hbr:=zf7 z w2 T hT
 rw [<-hT] at hcv
 rw [hz] at hbr
 rw [hzs] at hcv hbr
 clear hT
 have hll:l.length=512:=by rw [<-hz,<-Lib.size_eq,hzs]
 obtain ⟨c,hc⟩:=exE (UInt8.ofNat (x ^^^ q))
 have hcx:((x ^^^ q:Nat):Int)=(c.toNat:Int):=by rw [<-hc,UInt8.toNat_ofNat',Nat.mod_eq_of_lt hxq]
 rw [hcx] at hb
 have hx0:l[pl]?=some (UInt8.ofNat x):=by
  have:=HG.out
  rw [getElem?_pos _ pl (by rw [hzs];exact hpl)] at this
  have e:z[pl]'(by rw [hzs];exact hpl)=z.data.toList[pl]'(by rw [<-Lib.size_eq,hzs];exact hpl):=rfl
  rw [e] at this
  rw [<-hz,List.getElem?_eq_getElem (by rw [<-Lib.size_eq,hzs];exact hpl)]
  exact this
 have hbs:=znF hbr (i:=pl) (by omega) c
 obtain ⟨W,hW⟩:=exE ((w2.alloc (.cells (bytesRow z T) 5 ((bytesRow z T).size,(bytesRow z T).size+1))).setCell ⟨w2.heap.size,pl,none⟩ (.int .u8 (c.toNat:Int)))
 have hbs2:zps w2.heap.size (.slice (some ⟨w2.heap.size,0,none⟩) 512 T) (l.set pl c) W.drew.drew:=by rw [<-hW];exact hbs
 have HST:=Hd (ziw hbs2)
 have HW:=Hd hW
 have hwb:Below w2.heap.size w2 ((w2.alloc (.cells (bytesRow z T) 5 ((bytesRow z T).size,(bytesRow z T).size+1))).drew):=((zBr w2.heap.size w2).alloc (zNr _) _).drew
 have HWS:Hid (Below w2.heap.size w2 W.drew.drew):=Hd (by rw [<-hW];exact ((hwb.setCell (p:=⟨w2.heap.size,pl,none⟩) (zNr _) (.int .u8 (c.toNat:Int))).drew))
 obtain ⟨c1,f1⟩:=zpz hbr (i:=pl) (by omega)
 have hlx:l[pl]'(by omega)=UInt8.ofNat x:=by rw [List.getElem?_eq_getElem (by omega)] at hx0;exact Option.some.inj hx0
 rw [hlx,UInt8.toNat_ofNat',Nat.mod_eq_of_lt hx] at c1
 have HFL2:=Hd (show z2=⟨(l.set pl c).toArray⟩ by rw [HFL.out,hc])
 have C3:=Hd (C0.out _ ((HB2.out).trans (HWS.out.mono (HB2.out).size)))
 have TW2:=Hd (TW.out _ ((HB2.out).trans (HWS.out.mono (HB2.out).size)))
 clear hbr hbs hbs2 hW hwb hx0 hc hcx hz hx hq hxq HG HFL hlx C0 TW HO BT
 go_wp2_with fail
 rw [HW.out]
 have c3:W.cell? ⟨rb,0,none⟩=some (.pointer (some ⟨tb,0,none⟩)):=C3.out
 have hst:=HST.out
 rw [<-HFL2.out] at hst
 go_region_held (λ w'=>w'.cell? ⟨rb,0,none⟩=some (.pointer (some ⟨tb,0,none⟩))) (go_keep) ((go_at_call 94;refine Calls.at_args TW2.out (by with_reducible rfl) ?_;rintro e w3 ⟨rfl,c4,hgo⟩;have HGO:=Hd hgo.out;clear hgo))
 all_goals go_wp2_with fail
 all_goals go_ret
 all_goals exact ⟨rfl,HGO⟩
theorem zpA {n:Nat} {puts:List (Int × ByteArray)} {S:RS} {p:Nat} (hr:Rep n puts S) (hu:S.used p=true):Rep n (puts++[(((1+p / 4096:Nat):Int),zbQ (zbn S.used p) (p / 4096))]) ⟨S.root,zbn S.used p,S.cont,S.base⟩:=by
 have hp:=hr.lim p hu
 have hm:=zdt n p hp
 have hq:∀ q,zbn S.used p q=true->S.used q=true:=by
  intro q h
  unfold zbn at h
  split at h
  ·rename_i e;subst e;exact hu
  ·exact h
 refine ⟨?_,hr.rb,λ m hm'=>?_,λ q h=>hr.lim q (hq q h),λ q h=>?_,hr.base.trans (List.prefix_append _ _)⟩
 ·rw [zaD,if_neg (by omega)];exact hr.r0
 ·rw [zaD]
  by_cases e:p / 4096=m
  ·rw [if_pos (by omega),e]
  ·rw [if_neg (by omega),zc2 _ _ _ e];exact hr.bits m hm'
 ·have:=hr.page q (hq q h)
  rw [zaD,if_neg (by have:=hr.lim q (hq q h);omega)]
  exact this
theorem zoZ (G:Nat->Prop) (rb n:Nat) (puts:List (Int × ByteArray)) (S:RS) (p:Nat) (w:World) (h:Rm w G rb n puts) (hr:Rep n puts S) (hl:puts.length<=4000000) (hu:S.used p=true) :
 Calls Tryz.prog 132 #[.pointer (some ⟨rb,0,none⟩),.int .i64 p] w λ e w'=>e=.returned (.int .i64 0)/\Hid (zee w w' G rb n puts ⟨S.root,zbn S.used p,S.cont,S.base⟩ 1):=by
 have TK:=ziv G rb n puts S p w h hr hl hu
 have TN:Hid (∀ W,Below w.heap.size w W->Calls Tryz.prog 93 #[.pointer (some ⟨rb,0,none⟩),.int .i64 p] W λ e w'=>e=.returned (.int .i64 0)/\Hid (zee w w' G rb n puts ⟨S.root,zbn S.used p,S.cont,S.base⟩ 1)):=Hd λ W hW=>by
  refine (zoY G rb n puts S p W (h.below hW) hr hl (hr.lim p hu)).mono ?_
  rintro e w' ⟨rfl,G',a,b⟩
  exact ⟨rfl,G',_,by simp,a,zpA hr hu,⟨((hW.upd' (zNr _)).mono (λ _ _ e=>e.elim)).trans b.upd,λ k hk=>(b.sub k hk).imp id (λ e=>Nat.le_trans hW.size e)⟩⟩
 clear h hr hu
 go_enter Tryz.func132,Tryz.ntmps132
 go_wp2_with fail
 refine TK.mono ?_
 rintro e w1 ⟨rfl,hb⟩
 have HB:=Hd hb
 clear hb
 go_wp2_with fail
 refine (TN.out _ HB.out).mono ?_
 rintro e w2 ⟨rfl,hgo⟩
 go_wp2_with fail
 go_ret
 exact ⟨rfl,hgo⟩
theorem zlA {x:Nat} (h:x<256):bits .xor .u8 IntKind.u8.max (x:Int)=((255 ^^^ x:Nat):Int):=by
 rw [show IntKind.u8.max=((255:Nat):Int) from rfl,u8_xor_nat 255 x (by decide) h]
def zlB (u:Nat->Bool) (pages:Nat) (r:Int):Prop:=(∃ p:Nat,r=p/\p<pages/\u p=false/\∀ q,q<p->u q=true)\/(r=-1/\∀ q,q<pages->u q=true)
theorem zo0 (G:Nat->Prop) (rb n:Nat) (puts:List (Int × ByteArray)) (S:RS) (w:World) (h:Rm w G rb n puts) (hr:Rep n puts S) (hl:puts.length<=4000000) :
 Calls Tryz.prog 92 #[.pointer (some ⟨rb,0,none⟩)] w λ e w'=>∃ r,e=.returned (.tuple #[.int .i64 r,.int .i64 0])/\Hid (zlB S.used (zaf n) r/\Below w.heap.size w w'):=by
 have hbd:=h.bounds
 have hpn:zaf n<=65335:=by unfold zaf;omega
 have hmn:za7 n<=16:=by unfold za7;omega
 have hpm:zaf n<=za7 n*4096:=by unfold za7;omega
 have HO:Hid (∀ (m:Nat) (W:World),m<za7 n->Below w.heap.size w W->Calls Tryz.prog 105 #[.pointer (some ⟨rb,0,none⟩),.int .i64 (1+(m:Int))] W λ e w'=>e=.returned (.tuple #[.string (zbQ S.used m),.int .i64 0])/\Below W.heap.size W w') :=
  Hd λ m W hm hW=>by
   have:=ze3 G rb n puts ((1+m:Nat):Int) W (h.below hW) hl
   rw [hr.bits _ hm] at this
   rwa [show ((1+m:Nat):Int)=1+(m:Int) by omega] at this
 have hlim:=hr.lim
 obtain ⟨tb,lb,FL,F,h1⟩:=h
 have C1:Hid (∀ W,Below w.heap.size w W->W.cell? ⟨rb,2,none⟩=some (.int .i64 (zaf n:Int))):=Hd λ W hW=>(h1.below hW).c.2.2
 have c1:=h1.c.2.1
 clear h1 hr
 generalize S.used=u at *
 have HLIM:=Hd hlim
 clear hlim
 generalize zaf n=pages at *
 generalize za7 n=maps at *
 go_enter Tryz.func92,Tryz.ntmps92
 go_wp2_with fail
 go_loopg [13] maps (λ g s13 wr=>∃ m:Nat,g=maps-m/\m<=maps/\s13=.int .i64 m/\Hid (∀ q,q<m*4096->u q=true)/\Below w.heap.size w wr)
 case atStart=>exact ⟨0,rfl,zNz _,rfl,Hd (λ q hq=>by omega),zBr _ _⟩
 case round =>
  obtain ⟨m,rfl,hm,rfl,hall,hb⟩:=hrel
  have HB:=Hd hb
  clear hb
  by_cases hlt:m<maps
  ·have HO2:=Hd (HO.out m wr hlt HB.out)
   go_wp2_with fail
   refine (HO2.out).mono ?_
   rintro e w2 ⟨rfl,hb2⟩
   have HB2:=Hd ((HB.out).trans (hb2.mono (HB.out).size))
   have c2:=C1.out _ HB2.out
   have hsz:=zbR u m
   have HI:=Hd (λ i (hi:i<512) w=>zaI (P:=Tryz.prog) 9 _ _ _ Tryz.underlying9 (zec u m i hi) w)
   clear hb2 HO2
   generalize zbQ u m=z at *
   go_wp2_with fail
   go_loopg [28] 512 (λ g s28 wr=>∃ i:Nat,g=512-i/\i<=512/\s28=.int .i64 i/\Hid (∀ q,q<m*4096+8*i->u q=true)/\w2=wr)
   case atStart=>exact ⟨0,rfl,zNz _,rfl,Hd (λ q hq=>hall.out q (by omega)),rfl⟩
   case round =>
    obtain ⟨i,rfl,hi,rfl,hall2,rfl⟩:=hrel
    by_cases hlt2:i<512
    ·have hx:=zeb u (m*4096+8*i)
     have i1:∀ w,(Instr.index 9 (.string z) (.int .i64 (i:Int))).run Tryz.prog w=.ok (.int .u8 ((zbm u (m*4096+8*i):Nat):Int)) w:=by
      intro w
      have:=HI.out i hlt2 w
      rwa [UInt8.toNat_ofNat',Nat.mod_eq_of_lt hx] at this
     by_cases hf:zbm u (m*4096+8*i)=255
     ·have HN:Hid (∀ q,q<m*4096+8*(i+1)->u q=true):=Hd λ q hq=>by
       by_cases h1:q<m*4096+8*i
       ·exact hall2.out q h1
       ·have:=zkv u _ hf (q-(m*4096+8*i)) (by omega)
        rwa [show m*4096+8*i+(q-(m*4096+8*i))=q by omega] at this
      rw [hf] at i1
      clear hf hx
      go_wp2_with fail
      go_roundg (512-(i+1))
      case measure=>omega
      case rel=>exact ⟨i+1,rfl,by omega,by simp,HN,rfl⟩
     ·obtain ⟨t,ht,h1,h2,h3⟩:=zku u _ hf
      have hne:(((zbm u (m*4096+8*i):Nat):Int) == 255)=false:=by simp;omega
      have hxo:=zlA hx
      have hxl:255 ^^^ zbm u (m*4096+8*i)<256:=Nat.xor_lt_two_pow (n:=8) (by decide) hx
      have TZ:=Hd (λ w=>Tryz.bits_TrailingZeros8 ((255 ^^^ zbm u (m*4096+8*i):Nat):Int) w (by omega) (by omega))
      rw [Int.toNat_natCast,h1] at TZ
      have HFR:Hid (∀ r:Int,((m*4096+8*i+t<pages)->r=((m*4096+8*i+t:Nat):Int)->zlB u pages r)/\(¬(m*4096+8*i+t<pages)->r=-1->zlB u pages r)):=Hd λ r =>
       ⟨λ a b=>.inl ⟨_,b,a,h2,λ q hq=>by
        by_cases h1:q<m*4096+8*i
        ·exact hall2.out q h1
        ·have:=h3 (q-(m*4096+8*i)) (by omega)
         rwa [show m*4096+8*i+(q-(m*4096+8*i))=q by omega] at this⟩,
        λ a b=>.inr ⟨b,λ q hq=>by
         by_cases h1:q<m*4096+8*i
         ·exact hall2.out q h1
         ·have:=h3 (q-(m*4096+8*i)) (by omega)
          rwa [show m*4096+8*i+(q-(m*4096+8*i))=q by omega] at this⟩⟩
      clear h1 h2 h3 hf hx hxl
      generalize zbm u (m*4096+8*i)=x at *
      generalize 255 ^^^ x=y at *
      by_cases hpg:m*4096+8*i+t<pages
      ·go_wp2_with fail
       refine (TZ.out _).mono ?_
       rintro e w3 ⟨rfl,rfl⟩
       go_wp2_with fail
       go_ret2
       exact ⟨_,rfl,(HFR.out _).1 hpg (by simp),HB2.out⟩
      ·go_wp2_with fail
       refine (TZ.out _).mono ?_
       rintro e w3 ⟨rfl,rfl⟩
       go_wp2_with fail
       go_ret2
       exact ⟨_,rfl,(HFR.out _).2 hpg rfl,HB2.out⟩
    ·obtain rfl:i=512:=by omega
     have HN:Hid (∀ q,q<(m+1)*4096->u q=true):=Hd λ q hq=>hall2.out q (by omega)
     go_wp2_with fail
     go_roundg (maps-(m+1))
     case measure=>omega
     case rel=>exact ⟨m+1,rfl,by omega,by simp,HN,HB2.out⟩
  ·obtain rfl:m=maps:=by omega
   clear hlt hm
   go_wp2_with fail
   go_ret2
   exact ⟨_,rfl,.inr ⟨rfl,λ q hq=>hall.out q (by omega)⟩,HB.out⟩
theorem zdb.below_left {G G':Nat->Prop} {w W w':World} (hW:Below w.heap.size w W) (b:zdb G G' W w'):zdb G G' w w' :=
 ⟨((hW.upd' (zNr _)).mono (λ _ _ e=>e.elim)).trans b.upd,λ k hk=>(b.sub k hk).imp id (λ e=>Nat.le_trans hW.size e)⟩
def zaT (S:RS) (p:Nat):RS:=⟨S.root,zbn S.used p,λ q=>if q=p then zdG else S.cont q,S.base⟩
theorem zlC {n:Nat} {puts:List (Int × ByteArray)} {S:RS} {p:Nat} (hr:Rep n puts S) (hp:p<zaf n) (hu:S.used p=false) :
 Rep n ((puts++[(((1+p / 4096:Nat):Int),zbQ (zbn S.used p) (p / 4096))])++[(((1+za7 n+p:Nat):Int),zdG)]) (zaT S p):=by
 have hm:=zdt n p hp
 have hq:∀ q,zbn S.used p q=true->q=p\/S.used q=true:=by
  intro q h
  unfold zbn at h
  split at h
  ·rename_i e;exact .inl e
  ·exact .inr h
 refine ⟨?_,hr.rb,λ m hm'=>?_,λ q h=>?_,λ q h=>?_,(hr.base.trans (List.prefix_append _ _)).trans (List.prefix_append _ _)⟩
 ·rw [zaD,if_neg (by omega),zaD,if_neg (by omega)];exact hr.r0
 ·rw [zaD,if_neg (by omega),zaD]
  by_cases e:p / 4096=m
  ·rw [if_pos (by omega),e];rfl
  ·rw [if_neg (by omega),show (zaT S p).used=zbn S.used p from rfl,zc2 _ _ _ e];exact hr.bits m hm'
 ·rcases hq q h with rfl|e
  ·exact hp
  ·exact hr.lim q e
 ·rw [zaD]
  by_cases e:q=p
  ·subst e
   rw [if_pos rfl]
   simp only [zaT,if_true]
   exact ⟨trivial,zdd⟩
  ·have hu2:=(hq q h).resolve_left e
   have:=hr.lim q hu2
   rw [if_neg (by omega),zaD,if_neg (by omega)]
   simp only [zaT,if_neg e]
   exact hr.page q hu2
theorem zpB (G:Nat->Prop) (rb n:Nat) (puts:List (Int × ByteArray)) (S:RS) (w:World) (h:Rm w G rb n puts) (hr:Rep n puts S) (hl:puts.length<=3999990) (hfree:∃ q,q<zaf n/\S.used q=false) :
 Calls Tryz.prog 44 #[.pointer (some ⟨rb,0,none⟩)] w λ e w'=>∃ p:Nat,e=.returned (.tuple #[.int .i64 p,.int .i64 0])/\Hid (p<zaf n/\S.used p=false/\zee w w' G rb n puts (zaT S p) 2):=by
 have hbd:=h.bounds
 have hpn:zaf n<=65335:=by unfold zaf;omega
 have hfit:=zed n hbd.1
 have DD:=zjn G rb n puts w h (by omega)
 have FR:Hid (∀ W,Below w.heap.size w W->Calls Tryz.prog 92 #[.pointer (some ⟨rb,0,none⟩)] W λ e w'=>∃ p:Nat,e=.returned (.tuple #[.int .i64 p,.int .i64 0])/\Hid (p<zaf n/\S.used p=false/\Below w.heap.size w w')):=Hd λ W hW=>by
  refine (zo0 G rb n puts S W (h.below hW) hr (by omega)).mono ?_
  rintro e w' ⟨r,rfl,hf,hb⟩
  rcases hf with ⟨p,rfl,a,b,-⟩|⟨-,b⟩
  ·exact ⟨p,rfl,a,b,hW.trans (hb.mono hW.size)⟩
  ·obtain ⟨q,q1,q2⟩:=hfree
   rw [b q q1] at q2;cases q2
 have TN:Hid (∀ (p:Nat) W,p<zaf n->Below w.heap.size w W->Calls Tryz.prog 93 #[.pointer (some ⟨rb,0,none⟩),.int .i64 p] W λ e w'=>e=.returned (.int .i64 0)/\Hid (∃ G',Rm w' G' rb n (puts++[(((1+p / 4096:Nat):Int),zbQ (zbn S.used p) (p / 4096))])/\zdb G G' w w')):=Hd λ p W hp hW=>by
  refine (zoY G rb n puts S p W (h.below hW) hr (by omega) hp).mono ?_
  rintro e w' ⟨rfl,G',a,b⟩
  exact ⟨rfl,G',a,b.below_left hW⟩
 have HR:=Hd hr
 clear h hr hfree
 go_enter Tryz.func44,Tryz.ntmps44
 go_wp2_with fail
 refine DD.mono ?_
 rintro e w1 ⟨rfl,hb⟩
 have HB:=Hd hb
 clear hb
 go_wp2_with fail
 refine (FR.out _ HB.out).mono ?_
 rintro e w2 ⟨p,rfl,hp⟩
 have HP:=Hd hp.out
 have hp0:¬(p:Int)<0:=by omega
 have TN2:=Hd (TN.out p w2 HP.out.1 HP.out.2.2)
 clear hp TN FR DD
 go_wp2_with fail
 refine (TN2.out).mono ?_
 rintro e w3 ⟨rfl,hgo⟩
 obtain ⟨G',hrm,htn⟩:=hgo.out
 have hpl:=HP.out.1
 have AT:=Hd (zsA G' rb n _ p w3.drew (hrm.below (zBr _ _).drew) (by omega))
 obtain ⟨tb,lb,FL,F,h1⟩:=hrm
 have c0:=h1.c.1
 have TW:Hid (Calls Tryz.prog 94 #[.pointer (some ⟨tb,0,none⟩),.int .i64 (1+za7 n+p:Nat),.string ⟨#[]⟩] w3.drew λ e w'=>e=.returned (.int .i64 0)/\w'.cell? ⟨rb,0,none⟩=some (.pointer (some ⟨tb,0,none⟩))/\Hid (zee w w' G rb n puts (zaT S p) 2)):=Hd (by
  have hw:=h1.below (zBr w3.heap.size w3).drew
  have:=zfl tb lb n FL F _ ((1+za7 n+p:Nat):Int) ⟨#[]⟩ w3.drew hw.chg (by simp;omega)
  rw [zdu (by omega) (by omega) (by decide)] at this
  refine this.mono ?_
  rintro e w' ⟨rfl,F',hc,ht⟩
  obtain ⟨a,b⟩:=hw.write hc ht
  exact ⟨rfl,a.c.1,_,_,by simp,⟨tb,lb,FL,F',a⟩,zlC HR.out HP.out.1 HP.out.2.1,htn.trans (b.below_left ((zBr w3.heap.size w3).drew))⟩)
 clear hgo htn h1 TN2 HR
 generalize ((1+za7 n+p:Nat):Int)=q at *
 go_wp2_with fail
 go_region_held3 (λ w'=>w'.cell? ⟨rb,0,none⟩=some (.pointer (some ⟨tb,0,none⟩))) (go_keep) ((first
  | (go_at_call 95;refine Calls.at_args AT.out (by with_reducible rfl) ?_;rintro e w4 ⟨rfl,rfl⟩)
  | (go_at_call 94;refine Calls.at_args TW.out (by with_reducible rfl) ?_;rintro e w5 ⟨rfl,c3,hgo⟩;have HGO:=Hd hgo.out;clear hgo)))
 go_wp2_with fail
 go_ret2
 exact ⟨p,rfl,HP.out.1,HP.out.2.1,HGO.out⟩
theorem zpC (u:Nat->Bool) (pages:Nat) (h:∀ p,u p=true->p<pages) (k:Nat) (hk:pages<=k):cnt u k=cnt u pages:=by
 induction k with
 | zero=>rw [show pages=0 by omega]
 | succ k ih =>
   by_cases e:pages=k+1
   ·rw [e]
   ·have hk':pages<=k:=by omega
    show cnt u k+(u k).toNat=_
    rw [ih hk']
    have:u k=false:=by
     cases hu:u k
     ·rfl
     ·have:=h k hu;omega
    rw [this];rfl
theorem zrg (u:Nat->Bool) (k:Nat):cnt u k<=k:=by
 induction k with
 | zero=>exact zNr _
 | succ k ih =>
   show cnt u k+(u k).toNat<=k+1
   cases u k <;> simp <;> omega
theorem zrh (G:Nat->Prop) (rb n:Nat) (puts:List (Int × ByteArray)) (S:RS) (w:World) (h:Rm w G rb n puts) (hr:Rep n puts S) (hl:puts.length<=4000000) :
 Calls Tryz.prog 53 #[.pointer (some ⟨rb,0,none⟩)] w λ e w'=>e=.returned (.tuple #[.int .i64 (cnt S.used (zaf n)),.int .i64 0])/\Below w.heap.size w w':=by
 have hbd:=h.bounds
 have hmn:za7 n<=16:=by unfold za7 zaf;omega
 have hpm:zaf n<=za7 n*4096:=by unfold za7;omega
 have DD:=zjn G rb n puts w h hl
 have HO:Hid (∀ (m:Nat) (W:World),m<za7 n->Below w.heap.size w W->Calls Tryz.prog 105 #[.pointer (some ⟨rb,0,none⟩),.int .i64 (1+(m:Int))] W λ e w'=>e=.returned (.tuple #[.string (zbQ S.used m),.int .i64 0])/\Below W.heap.size W w') :=
  Hd λ m W hm hW=>by
   have:=ze3 G rb n puts ((1+m:Nat):Int) W (h.below hW) hl
   rw [hr.bits _ hm] at this
   rwa [show ((1+m:Nat):Int)=1+(m:Int) by omega] at this
 have HE:=Hd (zpC S.used (zaf n) hr.lim (za7 n*4096) hpm)
 obtain ⟨tb,lb,FL,F,h1⟩:=h
 have C1:Hid (∀ W,Below w.heap.size w W->W.cell? ⟨rb,1,none⟩=some (.int .i64 (za7 n:Int))):=Hd λ W hW=>(h1.below hW).c.2.1
 clear h1 hr hpm
 generalize S.used=u at *
 generalize zaf n=pages at *
 generalize za7 n=maps at *
 go_enter Tryz.func53,Tryz.ntmps53
 go_wp2_with fail
 refine DD.mono ?_
 rintro e w1 ⟨rfl,hb⟩
 have HB:=Hd hb
 have c1:=C1.out _ hb
 clear hb
 go_wp2_with fail
 go_loopg [4,15] maps (λ g s4 s15 wr=>∃ m:Nat,g=maps-m/\m<=maps/\s15=.int .i64 m/\s4=.int .i64 (cnt u (m*4096))/\Below w.heap.size w wr)
 case atStart=>exact ⟨0,rfl,zNz _,rfl,rfl,HB.out⟩
 case round =>
  obtain ⟨m,rfl,hm,rfl,rfl,hb⟩:=hrel
  have HB1:=Hd hb
  clear hb
  by_cases hlt:m<maps
  ·have HO2:=Hd (HO.out m wr hlt HB1.out)
   go_wp2_with fail
   refine (HO2.out).mono ?_
   rintro e w2 ⟨rfl,hb2⟩
   have HB2:=Hd ((HB1.out).trans (hb2.mono (HB1.out).size))
   have hsz:=zbR u m
   have HI:=Hd (λ i (hi:i<512) w=>zaI (P:=Tryz.prog) 9 _ _ _ Tryz.underlying9 (zec u m i hi) w)
   clear hb2 HO2
   generalize zbQ u m=z at *
   go_wp2_with fail
   go_loopg [4,30] 512 (λ g s4 s30 wr=>∃ i:Nat,g=512-i/\i<=512/\s30=.int .i64 i/\s4=.int .i64 (cnt u (m*4096+8*i))/\w2=wr)
   case atStart=>exact ⟨0,rfl,zNz _,rfl,rfl,rfl⟩
   case round =>
    obtain ⟨i,rfl,hi,rfl,rfl,rfl⟩:=hrel
    by_cases hlt2:i<512
    ·have hx:=zeb u (m*4096+8*i)
     have i1:∀ w,(Instr.index 9 (.string z) (.int .i64 (i:Int))).run Tryz.prog w=.ok (.int .u8 ((zbm u (m*4096+8*i):Nat):Int)) w:=by
      intro w
      have:=HI.out i hlt2 w
      rwa [UInt8.toNat_ofNat',Nat.mod_eq_of_lt hx] at this
     have OC:=Hd (λ w=>Tryz.bits_OnesCount8 ((zbm u (m*4096+8*i):Nat):Int) w (by omega) (by omega))
     rw [Int.toNat_natCast] at OC
     have HC:=Hd (znC u (m*4096+8*i))
     have hcl:=zrg u (m*4096+8*i)
     have hol:Lib.onesCount (zbm u (m*4096+8*i))<=8:=by have:=Lib.onesCount_le8 ⟨zbm u (m*4096+8*i),hx⟩;exact this
     generalize cnt u (m*4096+8*i)=cc at *
     generalize Lib.onesCount (zbm u (m*4096+8*i))=oo at *
     generalize zbm u (m*4096+8*i)=x at *
     go_wp2_with fail
     refine (OC.out _).mono ?_
     rintro e w3 ⟨rfl,rfl⟩
     go_wp2_with fail
     go_roundg (512-(i+1))
     case measure=>omega
     case rel=>exact ⟨i+1,rfl,by omega,by simp,by rw [show m*4096+8*(i+1)=m*4096+8*i+8 by omega,HC.out];simp,rfl⟩
    ·obtain rfl:i=512:=by omega
     go_wp2_with fail
     go_roundg (maps-(m+1))
     case measure=>omega
     case rel=>exact ⟨m+1,rfl,by omega,by simp,by rw [show (m+1)*4096=m*4096+8*512 by omega],HB2.out⟩
  ·obtain rfl:m=maps:=by omega
   rw [HE.out]
   clear hlt hm
   go_wp2_with fail
   go_ret2
   exact ⟨rfl,HB1.out⟩
end Go.Proofs.YtdcjhpafipbpkaaGreatDoor
namespace Go.Proofs
open Go.Shelf
def Tryz.lays167_ren:Go.Shelf.Ren:=⟨fun|167=>90|240=>140|276=>188|n=>n,fun|0=>0|3=>3|4=>4|5=>5|9=>9|20=>20|37=>91|70=>154|72=>156|75=>159|80=>163|164=>271|n=>n,fun|n=>n⟩
theorem Tryz.lays167:Go.Proofs.Lays.n167 Tryz.prog Tryz.lays167_ren:={
 mixed:=by kernel_rfl
 f167:=Tryz.func90.trans (congrArg some (by kernel_rfl))
 f240:=Tryz.func140.trans (congrArg some (by kernel_rfl))
 f276:=Tryz.func188.trans (congrArg some (by kernel_rfl))
 t0:=Tryz.underlying0
 a0:=Tryz.isAgg0
 z0:=Tryz.sizeOf0
 v0:=Tryz.zeroValue0
 t4:=Tryz.underlying4
 a4:=Tryz.isAgg4
 z4:=Tryz.sizeOf4
 v4:=Tryz.zeroValue4
 t5:=Tryz.underlying5
 a5:=Tryz.isAgg5
 z5:=Tryz.sizeOf5
 v5:=Tryz.zeroValue5
 t9:=Tryz.underlying9
 a9:=Tryz.isAgg9
 z9:=Tryz.sizeOf9
 v9:=Tryz.zeroValue9
 t20:=Tryz.underlying20
 a20:=Tryz.isAgg20
 z20:=Tryz.sizeOf20
 v20:=Tryz.zeroValue20
 t37:=Tryz.underlying91
 a37:=Tryz.isAgg91
 z37:=Tryz.sizeOf91
 v37:=Tryz.zeroValue91
 t70:=Tryz.underlying154
 a70:=Tryz.isAgg154
 z70:=Tryz.sizeOf154
 v70:=Tryz.zeroValue154
 t72:=Tryz.underlying156
 a72:=Tryz.isAgg156
 z72:=Tryz.sizeOf156
 v72:=Tryz.zeroValue156
 t75:=Tryz.underlying159
 a75:=Tryz.isAgg159
 z75:=Tryz.sizeOf159
 v75:=Tryz.zeroValue159
 t164:=Tryz.underlying271
 a164:=Tryz.isAgg271
 z164:=Tryz.sizeOf271
 v164:=Tryz.zeroValue271
}
def Tryz.lays166_ren:Go.Shelf.Ren:=⟨fun|166=>82|240=>140|276=>188|n=>n,fun|0=>0|3=>3|4=>4|5=>5|9=>9|20=>20|37=>91|70=>154|72=>156|75=>159|80=>163|164=>271|n=>n,fun|n=>n⟩
theorem Tryz.lays166:Go.Proofs.Lays.n166 Tryz.prog Tryz.lays166_ren:={
 mixed:=by kernel_rfl
 f166:=Tryz.func82.trans (congrArg some (by kernel_rfl))
 f240:=Tryz.func140.trans (congrArg some (by kernel_rfl))
 f276:=Tryz.func188.trans (congrArg some (by kernel_rfl))
 t0:=Tryz.underlying0
 a0:=Tryz.isAgg0
 z0:=Tryz.sizeOf0
 v0:=Tryz.zeroValue0
 t3:=Tryz.underlying3
 a3:=Tryz.isAgg3
 z3:=Tryz.sizeOf3
 v3:=Tryz.zeroValue3
 t4:=Tryz.underlying4
 a4:=Tryz.isAgg4
 z4:=Tryz.sizeOf4
 v4:=Tryz.zeroValue4
 t9:=Tryz.underlying9
 a9:=Tryz.isAgg9
 z9:=Tryz.sizeOf9
 v9:=Tryz.zeroValue9
 t20:=Tryz.underlying20
 a20:=Tryz.isAgg20
 z20:=Tryz.sizeOf20
 v20:=Tryz.zeroValue20
 t37:=Tryz.underlying91
 a37:=Tryz.isAgg91
 z37:=Tryz.sizeOf91
 v37:=Tryz.zeroValue91
 t70:=Tryz.underlying154
 a70:=Tryz.isAgg154
 z70:=Tryz.sizeOf154
 v70:=Tryz.zeroValue154
 t72:=Tryz.underlying156
 a72:=Tryz.isAgg156
 z72:=Tryz.sizeOf156
 v72:=Tryz.zeroValue156
 t75:=Tryz.underlying159
 a75:=Tryz.isAgg159
 z75:=Tryz.sizeOf159
 v75:=Tryz.zeroValue159
 t164:=Tryz.underlying271
 a164:=Tryz.isAgg271
 z164:=Tryz.sizeOf271
 v164:=Tryz.zeroValue271
}
theorem Tryz.Builder_Extra_167:Builder.Extra Tryz.prog Tryz.lays167_ren where
 sizeBuilder:=by kernel_rfl
 liesBuilder:=by kernel_rfl
 t5:=Tryz.underlying5
 a5:=Tryz.isAgg5
 z5:=Tryz.sizeOf5
 v5:=Tryz.zeroValue5
 infoByte:=by kernel_rfl
 cellsByte:=by kernel_rfl
 sizeByte:=by kernel_rfl
 neB5:=by decide
theorem Tryz.Builder_Extra_166:Builder.Extra Tryz.prog Tryz.lays166_ren where
 sizeBuilder:=by kernel_rfl
 liesBuilder:=by kernel_rfl
 t5:=Tryz.underlying5
 a5:=Tryz.isAgg5
 z5:=Tryz.sizeOf5
 v5:=Tryz.zeroValue5
 infoByte:=by kernel_rfl
 cellsByte:=by kernel_rfl
 sizeByte:=by kernel_rfl
 neB5:=by decide
open Go.RowKit in
theorem Tryz.Builder_WriteByte_k (B b:Nat) (bs:List Value) (c:Int) (w:World) (h:Lib.IsBuilderF 156 5 B b bs w) (hlen:bs.length+1<=140737488355328) (hBw:B<=w.heap.size) :
 Calls Tryz.prog 90 #[.pointer (some ⟨b,0,none⟩),.int .u8 c] w λ e w'=>e=.returned .nilIface/\(Lib.BuilderAtF 156 5 B b (.pointer (some ⟨b,0,none⟩)) (bs++[.int .u8 c]) w'/\Below B w w'/\Lib.OthersKept 5 (some b) w w'):=Any.Builder_WriteByte_k Tryz.lays167 Tryz.Builder_Extra_167 B b bs c w h hlen hBw
open Go.RowKit in
theorem Tryz.Builder_WriteString_k (B b:Nat) (bs:List Value) (s:ByteArray) (w:World) (h:Lib.IsBuilderF 156 5 B b bs w) (hlen:bs.length+s.size<=140737488355328) (hBw:B<=w.heap.size) :
 Calls Tryz.prog 82 #[.pointer (some ⟨b,0,none⟩),.string s] w λ e w'=>e=.returned (.tuple #[.int .i64 s.size,.nilIface])/\(Lib.BuilderAtF 156 5 B b (.pointer (some ⟨b,0,none⟩)) (bs++Lib.strCells s) w'/\Below B w w'/\Lib.OthersKept 5 (some b) w w'):=Any.Builder_WriteString_k Tryz.lays166 Tryz.Builder_Extra_166 B b bs s w h hlen hBw
end Go.Proofs
namespace Go.Proofs.YtdcjhpafipbpkaaGreatDoor
open Go.RowKit
set_option linter.unusedSimpArgs false
set_option linter.unusedVariables false
set_option linter.unusedSectionVars false
def zcb (c:Int):Int:=if c=110 then 8 else if c=104 then 4 else if c=98 then 1 else 0
theorem zcu (c:Int) (w:World):Calls Tryz.prog 121 #[.int .u8 c] w λ e w'=>e=.returned (.int .i64 (zcb c))/\w=w':=by
 by_cases h1:c=110
 ·subst h1
  go_enter Tryz.func121,Tryz.ntmps121
  go_wp2
  go_ret
  exact ⟨rfl,rfl⟩
 ·by_cases h2:c=104
  ·subst h2
   go_enter Tryz.func121,Tryz.ntmps121
   go_wp2
   go_ret
   exact ⟨rfl,rfl⟩
  ·by_cases h3:c=98
   ·subst h3
    go_enter Tryz.func121,Tryz.ntmps121
    go_wp2
    go_ret
    exact ⟨rfl,rfl⟩
   ·have q1:(c == 110)=false:=by simpa using h1
    have q2:(c == 104)=false:=by simpa using h2
    have q3:(c == 98)=false:=by simpa using h3
    have e:zcb c=0:=by simp [zcb,h1,h2,h3]
    rw [e]
    clear h1 h2 h3 e
    go_enter Tryz.func121,Tryz.ntmps121
    go_wp2
    go_ret
    exact ⟨rfl,rfl⟩
def Bld (B b:Nat) (l:List UInt8) (w:World):Prop:=Lib.IsBuilderF 156 5 B b (Lib.byteCells l) w
def be:Nat->Nat->List UInt8
 | _,0=>[]
 | n,w+1=>UInt8.ofNat (n / 256 ^ w%256)::be n w
theorem zaV (n w:Nat):(be n w).length=w:=by induction w with
 | zero=>rfl
 | succ w ih=>simp [be,ih]
theorem zri (n w i:Nat) (h:i<w):(be n w)[i]?=some (UInt8.ofNat (n / 256 ^ (w-1-i)%256)):=by
 induction w generalizing i with
 | zero=>omega
 | succ w ih =>
   cases i with
   | zero=>simp [be]
   | succ i =>
     simp only [be,List.getElem?_cons_succ]
     rw [ih i (by omega)]
     congr 5
     omega
theorem zpD (n w g:Nat) (h0:1<=g) (h1:g<=w):(be n w).take (w-(g-1))=(be n w).take (w-g)++[UInt8.ofNat (n / 256 ^ (g-1)%256)]:=by
 have e:w-(g-1)=(w-g)+1:=by omega
 rw [e,List.take_add_one,zri _ _ _ (by omega)]
 simp only [Option.toList_some]
 rw [show w-1-(w-g)=g-1 by omega]
theorem zdN (l:List UInt8) (c:UInt8):Lib.byteCells (l++[c])=Lib.byteCells l++[.int .u8 c.toNat]:=by simp [Lib.byteCells]
theorem zb0 (l:List UInt8):(Lib.byteCells l).length=l.length:=by simp [Lib.byteCells]
theorem zrj (k:Nat):2 ^ (8*k)=256 ^ k:=by rw [Nat.pow_mul]
theorem zo1 (n k:Nat):(((UInt8.ofNat (n / 256 ^ k%256)).toNat:Nat):Int)=(n:Int) / 2 ^ (8*k)%256:=by
 have h:(UInt8.ofNat (n / 256 ^ k%256)).toNat=n / 256 ^ k%256:=by
  rw [UInt8.toNat_ofNat'];exact Nat.mod_eq_of_lt (Nat.mod_lt _ (by decide))
 rw [h]
 have:(2:Int) ^ (8*k)=((256 ^ k:Nat):Int):=by rw [<-zrj];simp
 rw [this];simp
theorem Bld.of {B b:Nat} {l:List UInt8} {w:World} (h:Lib.BuilderAtF 156 5 B b (.pointer (some ⟨b,0,none⟩)) (Lib.byteCells l) w):Bld B b l w:=.inr h
def zlD (B b n wd:Nat) (l:List UInt8) (w:World) (g:Nat) (s6:Value) (wr:World):Prop :=
 g<=wd/\s6=.int .i64 (8*((g:Int)-1))/\Bld B b (l++(be n wd).take (wd-g)) wr/\Below B w wr/\Lib.OthersKept 5 (some b) w wr
set_option maxHeartbeats 400000 in
theorem zfm (B b n wd:Nat) (l:List UInt8) (w:World) (h:Bld B b l w) (hB:B<=w.heap.size) (hn:n<18446744073709551616) (hw:wd<=8) (hl:l.length<=100000000000) :
 Calls Tryz.prog 122 #[.pointer (some ⟨b,0,none⟩),.int .u64 n,.int .i64 wd] w λ e w'=>e=.returned (.tuple #[])/\Hid (Bld B b (l++be n wd) w'/\Below B w w'/\Lib.OthersKept 5 (some b) w w'):=by
 have R0:=Hd (show zlD B b n wd l w wd (.int .i64 (8*((wd:Int)-1))) w from ⟨zNr _,rfl,by simpa using h,zBr _ _,Lib.OthersKept.refl _ _ _⟩)
 clear h
 go_enter Tryz.func122,Tryz.ntmps122
 go_wp2_with fail
 go_loopg [6] wd (λ g s6 wr=>zlD B b n wd l w g s6 wr)
 case atStart=>exact R0.out
 case round =>
  obtain ⟨h1,rfl,h2,h3,h4⟩:=hrel
  clear R0
  have HB:=Hd h2
  have HL:=Hd h3
  have HO:=Hd h4
  clear h2 h3 h4
  by_cases hg:gk=0
  ·subst hg
   have e:8*(((0:Nat):Int)-1)<0:=by omega
   have He:Hid (Bld B b (l++be n wd) wr/\Below B w wr/\Lib.OthersKept 5 (some b) w wr):=Hd ⟨by have:=HB.out;rwa [List.take_of_length_le (by rw [zaV];omega)] at this,HL.out,HO.out⟩
   go_wp2_with fail
   go_end0
   exact ⟨rfl,He⟩
  ·have g1:0<=8*((gk:Int)-1):=by omega
   have g2:8*((gk:Int)-1)<=56:=by omega
   have hs:=HL.out.size
   have wb:=Tryz.Builder_WriteByte_k B b _ (((UInt8.ofNat (n / 256 ^ (gk-1)%256)).toNat:Nat):Int) wr HB.out (by simp [Lib.byteCells];have:=List.length_take_le (wd-gk) (be n wd);omega) (by omega)
   rw [<-zdN,List.append_assoc,<-zpD n wd gk (by omega) h1,zo1] at wb
   go_wp2_with fail
   refine wb.mono ?_
   rintro e w' ⟨rfl,g3,g4,g5⟩
   have R1:=Hd (show zlD B b n wd l w (gk-1) (.int .i64 (8*((gk:Int)-1)-8)) w' from ⟨by omega,by congr 1;omega,Bld.of g3,(HL.out).trans g4,(HO.out).trans g5⟩)
   clear g3 g4 g5 wb hs
   go_wp2_with fail
   go_roundg (gk-1)
   case measure=>omega
   case rel=>exact R1.out
def zbD:Nat->List UInt8->Nat
 | n,[]=>n
 | n,c::r=>zbD (n*256%18446744073709551616+c.toNat) r
theorem ze4 (n:Nat) (a b:List UInt8):zbD n (a++b)=zbD (zbD n a) b:=by
 induction a generalizing n with
 | nil=>rfl
 | cons c r ih=>simp [zbD,ih]
theorem znG (n:Nat) (hn:n<18446744073709551616) (l:List UInt8):zbD n l<18446744073709551616:=by
 induction l generalizing n with
 | nil=>exact hn
 | cons c r ih =>
   refine ih _ ?_
   have:=c.toNat_lt
   omega
def zpE (s:ByteArray) (W:World) (g:Nat) (s3 s9:Value) (wr:World):Prop :=
 ∃ k,g=s.size-k/\k<=s.size/\s3=.int .u64 (zbD 0 (s.data.toList.take k))/\s9=.int .i64 k/\W=wr
theorem zlE (s:ByteArray) (k:Nat) (h:k<s.size):zbD 0 (s.data.toList.take (k+1))=zbD 0 (s.data.toList.take k)*256%18446744073709551616+s.data[k].toNat:=by
 have h':k<s.data.toList.length:=by simpa using h
 rw [zTs h',ze4]
 simp [zbD]
theorem zpF (n c:Nat) (hc:c<256):bits .or .u64 (IntKind.u64.wrap ((n:Int)*256)) (c:Int)=((n*256%18446744073709551616+c:Nat):Int):=by
 have e:IntKind.u64.wrap ((n:Int)*256)=((n*256%18446744073709551616:Nat):Int):=by
  simp [IntKind.wrap,IntKind.bits,IntKind.signed]
 rw [e,u64_or_nat _ _ (Nat.mod_lt _ (by decide)) (by omega)]
 have h:n*256%18446744073709551616=(n%72057594037927936) <<< 8:=by
  rw [Nat.shiftLeft_eq];omega
 rw [h,Nat.shiftLeft_add_eq_or_of_lt (by simpa using hc)]
theorem zpG {a b:Nat} (h:a=b):Ending.returned (.int .u64 (a:Int))=.returned (.int .u64 (b:Int)):=by rw [h]
set_option maxHeartbeats 400000 in
theorem zjr (s:ByteArray) (w:World) (hs:s.size<=1000000000) :
 Calls Tryz.prog 143 #[.string s] w λ e w'=>e=.returned (.int .u64 (zbD 0 s.data.toList))/\Below w.heap.size w w':=by
 have hcv:=run_bytes_of_string w 9 91 5 s Tryz.underlying9 Tryz.underlying91 Tryz.underlying5
 go_enter Tryz.func143,Tryz.ntmps143
 go_wp2_with fail
 have hc:∀ j (h:j<s.size),((w.alloc (.cells (bytesRow s (grownCap w s.size 0 5)) 5 ((bytesRow s (grownCap w s.size 0 5)).size,(bytesRow s (grownCap w s.size 0 5)).size+1))).drew).cell? ⟨w.heap.size,j,none⟩=some (.int .u8 (s.data[j].toNat:Int)):=by
  intro j h
  rw [World.cell?_drew,World.cell?_alloc_mark]
  exact bytesRow_at s _ j h
 have hb:Below w.heap.size w ((w.alloc (.cells (bytesRow s (grownCap w s.size 0 5)) 5 ((bytesRow s (grownCap w s.size 0 5)).size,(bytesRow s (grownCap w s.size 0 5)).size+1))).drew):=((zBr _ _).alloc (zNr _) _).drew
 generalize (w.alloc (.cells (bytesRow s (grownCap w s.size 0 5)) 5 ((bytesRow s (grownCap w s.size 0 5)).size,(bytesRow s (grownCap w s.size 0 5)).size+1))).drew=W at *
 have HC:=Hd hc
 have HB:=Hd hb
 clear hcv hc hb
 go_loopg [3,9] s.size (λ g s3 s9 wr=>zpE s W g s3 s9 wr)
 case atStart=>exact ⟨0,by omega,zNz _,rfl,rfl,rfl⟩
 case round =>
  obtain ⟨k,rfl,hk,rfl,rfl,rfl⟩:=hrel
  by_cases hlt:k<s.size
  ·have c1:=HC.out k hlt
   have n1:=znG 0 (by decide) (s.data.toList.take k)
   have c2:=s.data[k].toNat_lt
   have HS:=Hd (zlE s k hlt)
   generalize zbD 0 (s.data.toList.take k)=n at *
   generalize s.data[k].toNat=c at *
   go_wp2_with fail
   go_roundg (s.size-(k+1))
   case measure=>omega
   case rel =>
    exact ⟨k+1,rfl,by omega,by rw [HS.out,zpF n c c2],by simp,rfl⟩
  ·obtain rfl:k=s.size:=by omega
   go_wp2_with fail
   go_ret
   exact ⟨zpG (by rw [List.take_of_length_le (by simp)]),HB.out⟩
theorem zlF (w:World):Bld w.heap.size w.heap.size [] (w.alloc (.cells #[.pointer none,.slice none 0 0] 156)) :=
 .inl ⟨zNr _,_,heap_alloc_new _ _,World.ownsRowF_of (World.ownsRow_nil _ _ _ _),by simp [Value.ownBlock]⟩
theorem zlG (B b:Nat) (l:List UInt8) (S:ByteArray) (w:World) (h:Bld B b l w) (hB:B<=w.heap.size) (hl:l.length+S.size<=100000000000) :
 Calls Tryz.prog 82 #[.pointer (some ⟨b,0,none⟩),.string S] w λ e w'=>e=.returned (.tuple #[.int .i64 S.size,.nilIface])/\(Bld B b (l++S.data.toList) w'/\Below B w w'):=by
 refine (Tryz.Builder_WriteString_k B b (Lib.byteCells l) S w h (by rw [zb0];omega) hB).mono ?_
 rintro e w' ⟨rfl,h1,h2,h3⟩
 refine ⟨rfl,?_,h2⟩
 have e:Lib.byteCells l++Lib.strCells S=Lib.byteCells (l++S.data.toList):=by rw [Lib.strCells_eq];simp [Lib.byteCells]
 rw [e] at h1
 exact Bld.of h1
theorem znH (v n:Nat):be8 v (n+1)=be8 v n++[UInt8.ofNat (v / 256 ^ (7-n)%256)]:=by
 unfold be8;rw [List.range_succ,List.map_append];rfl
theorem zlH (v n:Nat):(be8 v n).length=n:=by simp [be8]
def zpH (w:World) (B:Nat) (l:List UInt8) (v:Nat) (g:Nat) (s10:Value) (wr:World):Prop :=
 g<=8/\s10=.int .i64 (8*((g:Int)-1))/\Bld B B (l++be8 v (8-g)) wr/\B<=wr.heap.size/\Below B w wr
def zay (S:RS) (k v:Nat):RS:=⟨upd S.root k v,S.used,S.cont,S.base⟩
theorem znI {n:Nat} {puts:List (Int × ByteArray)} {S:RS} {k v:Nat} (hr:Rep n puts S) (hv:v<18446744073709551616):Rep n (puts++[((0:Int),zbW (upd S.root k v))]) (zay S k v):=by
 refine ⟨?_,λ q=>?_,λ m hm=>?_,hr.lim,λ q h=>?_,hr.base.trans (List.prefix_append _ _)⟩
 ·rw [zaD,if_pos rfl];rfl
 ·show upd S.root k v q<_
  unfold upd;split
  ·exact hv
  ·exact hr.rb q
 ·rw [zaD,if_neg (by omega)];exact hr.bits m hm
 ·rw [zaD,if_neg (by omega)];exact hr.page q h
theorem zhr (G:Nat->Prop) (rb n:Nat) (puts:List (Int × ByteArray)) (S:RS) (k v:Nat) (w:World) (h:Rm w G rb n puts) (hr:Rep n puts S) (hl:puts.length<=4000000) (hk:k<16) (hv:v<18446744073709551616) :
 Calls Tryz.prog 72 #[.pointer (some ⟨rb,0,none⟩),.int .i64 k,.int .u64 v] w λ e w'=>e=.returned (.int .i64 0)/\Hid (zee w w' G rb n puts (zay S k v) 1):=by
 have hbd:=h.bounds
 have HO:=ze3 G rb n puts 0 w h hl
 rw [hr.r0] at HO
 obtain ⟨tb,lb,FL,F,h1⟩:=h
 have H1:=Hd h1
 have TW:Hid (∀ W,Below w.heap.size w W->Calls Tryz.prog 94 #[.pointer (some ⟨tb,0,none⟩),.int .i64 0,.string (zbW (upd S.root k v))] W λ e w'=>e=.returned (.int .i64 0)/\w'.cell? ⟨rb,0,none⟩=some (.pointer (some ⟨tb,0,none⟩))/\Hid (zee w w' G rb n puts (zay S k v) 1)):=Hd λ W hW=>by
  have hw:=H1.out.below hW
  have:=zfl tb lb n FL F puts 0 (zbW (upd S.root k v)) W hw.chg hl
  rw [zdu (by omega) (by omega) (by rw [zbw];omega),zjo (zbw _)] at this
  refine this.mono ?_
  rintro e w' ⟨rfl,F',hc,ht⟩
  obtain ⟨a,b⟩:=hw.write hc ht
  exact ⟨rfl,a.c.1,_,_,by simp,⟨tb,lb,FL,F',a⟩,znI hr hv,b.below_left hW⟩
 have C0:Hid (∀ W,Below w.heap.size w W->W.cell? ⟨rb,0,none⟩=some (.pointer (some ⟨tb,0,none⟩))):=Hd λ W hW=>(H1.out.below hW).c.1
 have hset:=zlv S.root k v hk
 obtain ⟨y1,hy1⟩:=exE ((zbW S.root).extract 0 (8*k))
 obtain ⟨y2,hy2⟩:=exE ((zbW S.root).extract (8*k+8) (zbW S.root).size)
 have d1:y1.data.toList=(zbB S.root).take (8*k):=by rw [<-hy1];simp [zbW]
 have d2:y2.data.toList=(zbB S.root).drop (8*k+8):=by
  rw [<-hy2,zbw]
  have:(zbW S.root).data.toList=zbB S.root:=rfl
  simp only [ByteArray.data_extract,Array.toList_extract,List.extract,this]
  rw [List.take_of_length_le (by rw [List.length_drop,zbo];omega)]
 have hsz:=zbw S.root
 rw [hsz] at hy2
 have hfin:Hid ((⟨(y1.data.toList++be8 v 8++y2.data.toList).toArray⟩:ByteArray)=zbW (upd S.root k v)):=Hd (by rw [d1,d2,hset];rfl)
 have l1:y1.data.toList.length=8*k:=by rw [d1,List.length_take,zbo];omega
 have l2:y2.size<=512:=by rw [Lib.size_eq,d2,List.length_drop,zbo];omega
 have l1':y1.size=8*k:=by rw [Lib.size_eq,l1]
 clear h1 hr hset d1 d2 H1
 generalize zbW (upd S.root k v)=zz at *
 generalize zbW S.root=z at *
 go_enter Tryz.func72,Tryz.ntmps72
 go_wp2_with fail
 refine HO.mono ?_
 rintro e w1 ⟨rfl,hb⟩
 have HB:=Hd hb
 clear hb HO
 have HW1:=Hd (zlG w1.heap.size w1.heap.size [] y1 _ (zlF w1) (by simp) (by simp;omega))
 go_wp2_with fail
 refine (HW1.out).mono ?_
 rintro e w2 ⟨rfl,hb2,hb2'⟩
 have hsz2:w1.heap.size<=w2.heap.size:=by have:=hb2'.size;simp at this;omega
 have HR0:Hid (zpH w1 w1.heap.size y1.data.toList v 8 (.int .i64 56) w2):=Hd ⟨zNr _,rfl,by simpa [be8] using hb2,hsz2,((zBr w1.heap.size w1).alloc (zNr _) _).trans hb2'⟩
 clear hb2 hb2' HW1
 go_wp2_with fail
 go_loopg [10] 8 (λ g s10 wr=>zpH w1 w1.heap.size y1.data.toList v g s10 wr)
 case atStart=>exact HR0.out
 case round =>
  obtain ⟨hg8,rfl,h2,h3,h4⟩:=hrel
  clear HR0
  have HBL:=Hd h2
  have HBB:=Hd h4
  clear h2 h4
  by_cases hg:gk=0
  ·subst hg
   have e:8*(((0:Nat):Int)-1)<0:=by omega
   have HW2:=Hd (zlG w1.heap.size w1.heap.size _ y2 wr HBL.out h3 (by rw [zLa,zlH,l1];omega))
   go_wp2_with fail
   refine (HW2.out).mono ?_
   rintro e w3 ⟨rfl,hb3,hb3'⟩
   have HB3:=Hd ((HB.out).trans ((((HBB.out).trans hb3')).mono (HB.out).size))
   have hs3:w1.heap.size<=w3.heap.size:=Nat.le_trans h3 hb3'.size
   have c0:=C0.out _ HB3.out
   have hs1:w.heap.size<=w1.heap.size:=(HB.out).size
   have ST:=Hd (Tryz.Builder_String_any_k w1.heap.size w1.heap.size _ w3.drew (show Bld w1.heap.size w1.heap.size _ w3.drew from hb3) (by simpa using hs3))
   rw [hfin.out] at ST
   have HD:=Hd ((HB3.out).drew)
   clear hb3 hb3' HW2 HBL HBB
   go_wp2_with fail
   go_region_held3 (λ w'=>w'.cell? ⟨rb,0,none⟩=some (.pointer (some ⟨tb,0,none⟩))) (go_keep) ((first
    | (go_at_call 83;refine Calls.at_args ST.out (by with_reducible rfl) ?_;rintro e w4 ⟨rfl,-,hb4,-⟩;have HB4:=Hd ((HD.out).trans (hb4.mono hs1));have c1:=C0.out _ HB4.out;have TW3:=Hd (TW.out _ HB4.out);clear hb4)
    | (go_at_call 94;refine Calls.at_args TW3.out (by with_reducible rfl) ?_;rintro e w5 ⟨rfl,c3,hgo⟩;have HGO:=Hd hgo.out;clear hgo)))
   go_wp2_with fail
   go_ret
   exact ⟨rfl,HGO⟩
  ·have g1:0<=8*((gk:Int)-1):=by omega
   have g2:8*((gk:Int)-1)<=56:=by omega
   have wb:=Tryz.Builder_WriteByte_k w1.heap.size w1.heap.size _ (((UInt8.ofNat (v / 256 ^ (gk-1)%256)).toNat:Nat):Int) wr HBL.out (by simp [Lib.byteCells,zlH];omega) h3
   rw [<-zdN,List.append_assoc,show be8 v (8-gk)++[UInt8.ofNat (v / 256 ^ (gk-1)%256)]=be8 v (8-(gk-1)) by rw [show 8-(gk-1)=(8-gk)+1 by omega,znH,show 7-(8-gk)=gk-1 by omega],zo1] at wb
   go_wp2_with fail
   refine wb.mono ?_
   rintro e w' ⟨rfl,g3,g4,g5⟩
   have R1:Hid (zpH w1 w1.heap.size y1.data.toList v (gk-1) (.int .i64 (8*((gk:Int)-1)-8)) w'):=Hd ⟨by omega,by congr 1;omega,Bld.of g3,Nat.le_trans h3 g4.size,(HBB.out).trans g4⟩
   clear g3 g4 g5 wb
   go_wp2_with fail
   go_roundg (gk-1)
   case measure=>omega
   case rel=>exact R1.out
theorem zsW (tb lb n:Nat) (FL F:Nat->Prop) (puts:List (Int × ByteArray)) (w:World) (h:Chg w FL F tb lb n puts) (h4:4<=n) :
 Calls Tryz.prog 16 #[.pointer (some ⟨tb,0,none⟩)] w λ e w'=>∃ rb G,e=.returned (.pointer (some ⟨rb,0,none⟩))/\Hid (Rm w' G rb n puts/\(∀ k,G k->(FL k\/F k)\/w.heap.size<=k)/\Below w.heap.size w w'):=by
 have hn:n<=65335:=by obtain ⟨db,mo,mf,mn,hl⟩:=h.log;exact hl.n1
 have HM:=zgD tb lb n FL F puts w h
 have PG:=Hd (λ w=>zpy n w h4 hn)
 have MO:=Hd (λ w=>znD n w hn)
 have H:=Hd h
 clear h
 go_enter Tryz.func16,Tryz.ntmps16
 go_wp2_with fail
 refine HM.mono ?_
 rintro e w1 ⟨rfl,hb⟩
 have HB:=Hd hb
 clear hb
 go_wp2_with (first|(go_at_call 57;refine (PG.out _).mono ?_;rintro e w2 ⟨rfl,rfl⟩)|(go_at_call 59;refine (MO.out _).mono ?_;rintro e w3 ⟨rfl,rfl⟩))
 go_ret
 have hc:=(H.out.below HB.out).below ((zBr w1.heap.size w1).alloc (zNr _) (.cells #[.pointer (some ⟨tb,0,none⟩),.int .i64 (za7 n:Int),.int .i64 (zaf n:Int)] 116))
 have l1:=(H.out.below HB.out).log.lt
 have l2:=(H.out.below HB.out).tx.lt
 refine ⟨_,λ k=>FL k\/F k\/k=w1.heap.size,rfl,⟨tb,lb,FL,F,⟨hc,heap_alloc_new _ _,λ e=>?_,λ e=>?_,λ k=>Iff.rfl⟩⟩,λ k hk=>?_,(HB.out).alloc (HB.out).size _⟩
 ·have:=l1 _ e;omega
 ·have:=l2 _ e;omega
 ·rcases hk with a|a|rfl
  ·exact .inl (.inl a)
  ·exact .inl (.inr a)
  ·exact .inr (HB.out).size
theorem zsB (n:Int) (w:World) (h1:1<=n) (h2:n<=65536) :
 Calls Tryz.prog 55 #[.int .i64 n] w λ e w'=>e=.returned (.tuple #[.pointer (some ⟨w.heap.size+2,0,none⟩),.int .i64 0]) /\
  Hid (zlh w' (λ k=>k=w.heap.size+2\/k=w.heap.size\/k=w.heap.size+1) (w.heap.size+2) (zeE n) w.heap.size (w.heap.size+1) (.slice none 0 0)/\Upd (λ _=>False) w w'):=by
 have hmm:=@run_makeMap Tryz.prog
 go_enter Tryz.func55,Tryz.ntmps55
 go_wp2
 go_ret2
 refine ⟨rfl,?_,?_⟩
 ·have m1:za2 zeZ Value.string (w.alloc (.map #[] 0)) w.heap.size []:=za2.made w
  have m2:za2 zeZ Value.string ((w.alloc (.map #[] 0)).alloc (.map #[] 0)) (w.heap.size+1) []:=by
   have:=za2.made (K:=zeZ) (V:=Value.string) (w.alloc (.map #[] 0))
   rw [World.size_alloc] at this;exact this
  refine ⟨?_,(m1.alloc _).alloc _,m2.alloc _,World.ownsRow_nil _ _ _ _,by omega,λ k=>by simp [Value.ownBlock],⟨by simp [zeE];omega,by simp [zeE];omega,by simp [zeE],by simp [zeE],by simp [zeE],by simp [zeE,zbg],by simp [zeE,zbg]⟩⟩
  have:=heap_alloc_new ((w.alloc (.map #[] 0)).alloc (.map #[] 0)) (.cells (zlg (zeE n) w.heap.size (w.heap.size+1) (.slice none 0 0)) 199 (0,0))
  simp only [World.size_alloc] at this
  exact this
 ·exact (((Upd.refl _ _).alloc _).alloc _).alloc _
theorem zo2 (n:Nat) (w:World) (h4:4<=n) (hn:n<=65335) :
 Calls Tryz.prog 14 #[.int .i64 n] w λ e w'=>∃ db lb FL,e=.returned (.tuple #[.pointer (some ⟨db,0,none⟩),.pointer (some ⟨lb,0,none⟩)])/\Hid (zd9 w' FL lb n/\(∀ k,FL k->w.heap.size<=k)/\Below w.heap.size w w'):=by
 have hmx:max (n:Int) 4=n:=by omega
 have NW:=zsB (201+n) w (by omega) (by omega)
 go_enter Tryz.func14,Tryz.ntmps14
 go_wp2_with fail
 refine NW.mono ?_
 rintro e w1 ⟨rfl,hd,hu⟩
 have HB:=Hd (hu.below (zNr _) (λ _ _ e=>e))
 have OP:=Hd (zrc _ n _ _ w1 hd (by omega) hn)
 clear hd hu NW
 go_wp2_with fail
 refine (OP.out).mono ?_
 rintro e w2 ⟨rfl,hl,hb⟩
 have HL:=Hd hl
 have HB2:=Hd ((HB.out).trans (hb.mono (HB.out).size))
 clear hl hb
 go_wp2_with fail
 go_ret2
 refine ⟨_,_,_,rfl,⟨_,_,_,_,HL.out⟩,λ k hk=>?_,HB2.out⟩
 have:=(HB.out).size
 rcases hk with rfl|rfl|rfl|rfl|rfl <;> omega
def zeG (w w':World) (G:Nat->Prop) (rb n:Nat):Prop:=Rm w' G rb n []/\(∀ k,G k->w.heap.size<=k)/\Below w.heap.size w w'
end Go.Proofs.YtdcjhpafipbpkaaGreatDoor
namespace Go.Proofs
open Go.Shelf
def Tryz.laysNm222_ren:Go.Shelf.Ren:=⟨fun|22=>213|29=>255|30=>256|36=>277|17=>281|n=>n,fun|24=>63|9=>9|3=>3|4=>4|0=>0|n=>n,fun|n=>n⟩
theorem Tryz.laysNm222:Go.Proofs.Lays2.n22 Tryz.prog Tryz.laysNm222_ren:={
 mixed:=by kernel_rfl
 f17:=Tryz.func281.trans (congrArg some (by kernel_rfl))
 f22:=Tryz.func213.trans (congrArg some (by kernel_rfl))
 f29:=Tryz.func255.trans (congrArg some (by kernel_rfl))
 f30:=Tryz.func256.trans (congrArg some (by kernel_rfl))
 f36:=Tryz.func277.trans (congrArg some (by kernel_rfl))
 t0:=Tryz.underlying0
 a0:=Tryz.isAgg0
 z0:=Tryz.sizeOf0
 v0:=Tryz.zeroValue0
 t3:=Tryz.underlying3
 a3:=Tryz.isAgg3
 z3:=Tryz.sizeOf3
 v3:=Tryz.zeroValue3
 t4:=Tryz.underlying4
 a4:=Tryz.isAgg4
 z4:=Tryz.sizeOf4
 v4:=Tryz.zeroValue4
 t9:=Tryz.underlying9
 a9:=Tryz.isAgg9
 z9:=Tryz.sizeOf9
 v9:=Tryz.zeroValue9
 t24:=Tryz.underlying63
 a24:=Tryz.isAgg63
 z24:=Tryz.sizeOf63
 v24:=Tryz.zeroValue63
 i9:=by kernel_rfl }
def Tryz.laysNm221_ren:Go.Shelf.Ren:=⟨fun|21=>214|27=>257|28=>258|35=>278|39=>282|n=>n,fun|22=>191|3=>3|4=>4|0=>0|n=>n,fun|n=>n⟩
theorem Tryz.laysNm221:Go.Proofs.Lays2.n21 Tryz.prog Tryz.laysNm221_ren:={
 mixed:=by kernel_rfl
 f21:=Tryz.func214.trans (congrArg some (by kernel_rfl))
 f27:=Tryz.func257.trans (congrArg some (by kernel_rfl))
 f28:=Tryz.func258.trans (congrArg some (by kernel_rfl))
 f35:=Tryz.func278.trans (congrArg some (by kernel_rfl))
 f39:=Tryz.func282.trans (congrArg some (by kernel_rfl))
 t0:=Tryz.underlying0
 a0:=Tryz.isAgg0
 z0:=Tryz.sizeOf0
 v0:=Tryz.zeroValue0
 t3:=Tryz.underlying3
 a3:=Tryz.isAgg3
 z3:=Tryz.sizeOf3
 v3:=Tryz.zeroValue3
 t4:=Tryz.underlying4
 a4:=Tryz.isAgg4
 z4:=Tryz.sizeOf4
 v4:=Tryz.zeroValue4
 t22:=Tryz.underlying191
 a22:=Tryz.isAgg191
 z22:=Tryz.sizeOf191
 v22:=Tryz.zeroValue191
 i3:=by kernel_rfl }
def Tryz.laysNm226_ren:Go.Shelf.Ren:=⟨fun|26=>204|33=>249|34=>250|38=>276|n=>n,fun|24=>63|9=>9|3=>3|4=>4|40=>215|0=>0|n=>n,fun|n=>n⟩
theorem Tryz.laysNm226:Go.Proofs.Lays2.n26 Tryz.prog Tryz.laysNm226_ren:={
 mixed:=by kernel_rfl
 f26:=Tryz.func204.trans (congrArg some (by kernel_rfl))
 f33:=Tryz.func249.trans (congrArg some (by kernel_rfl))
 f34:=Tryz.func250.trans (congrArg some (by kernel_rfl))
 f38:=Tryz.func276.trans (congrArg some (by kernel_rfl))
 t0:=Tryz.underlying0
 a0:=Tryz.isAgg0
 z0:=Tryz.sizeOf0
 v0:=Tryz.zeroValue0
 t3:=Tryz.underlying3
 a3:=Tryz.isAgg3
 z3:=Tryz.sizeOf3
 v3:=Tryz.zeroValue3
 t4:=Tryz.underlying4
 a4:=Tryz.isAgg4
 z4:=Tryz.sizeOf4
 v4:=Tryz.zeroValue4
 t9:=Tryz.underlying9
 a9:=Tryz.isAgg9
 z9:=Tryz.sizeOf9
 v9:=Tryz.zeroValue9
 t24:=Tryz.underlying63
 a24:=Tryz.isAgg63
 z24:=Tryz.sizeOf63
 v24:=Tryz.zeroValue63
 t40:=Tryz.underlying215
 a40:=Tryz.isAgg215
 z40:=Tryz.sizeOf215
 v40:=Tryz.zeroValue215 }
end Go.Proofs
namespace Go.Proofs.YtdcjhpafipbpkaaGreatDoor
open Go.RowKit
set_option linter.unusedSimpArgs false
set_option linter.unusedVariables false
set_option linter.unusedSectionVars false
theorem za3 {α:Type} (l:List α) (d:α) {i:Nat} (h:i<l.length):l.getD i d=l[i]:=by simp [List.getD,h]
theorem zgE {α:Type} (l:List α) (d:α) {i:Nat} (h:l.length<=i):l.getD i d=d:=by simp [List.getD,h]
def ofL (l:List UInt8):ByteArray:=⟨l.toArray⟩
theorem zky (l:List UInt8):(ofL l).data.toList=l:=rfl
theorem zfn (l:List UInt8):(ofL l).size=l.length:=rfl
inductive Nd where
 | leaf (l:List (ByteArray × ByteArray))
 | inner (l:List (ByteArray × Nat))
def Nd.isLeaf:Nd->Bool
 | .leaf _=>true
 | .inner _=>false
def Nd.keys:Nd->List ByteArray
 | .leaf l=>l.map Prod.fst
 | .inner l=>l.map Prod.fst
def Nd.vals:Nd->List ByteArray
 | .leaf l=>l.map Prod.snd
 | .inner _=>[]
def Nd.kids:Nd->List Nat
 | .leaf _=>[]
 | .inner l=>l.map Prod.snd
def Nd.len (d:Nd):Nat:=d.keys.length
structure Nd.Ok (d:Nd):Prop where
 pos:0<d.len
 few:d.len<65536
 key:∀ k∈d.keys,k.size<=96
 val:∀ v∈d.vals,v.size<=56
 kid:∀ c∈d.kids,c<4294967296
theorem Nd.vals_len {d:Nd} (h:d.isLeaf=true):d.vals.length=d.len:=by
 cases d with
 | leaf l=>simp [Nd.vals,Nd.len,Nd.keys]
 | inner l=>simp [Nd.isLeaf] at h
theorem Nd.kids_len {d:Nd} (h:d.isLeaf=false):d.kids.length=d.len:=by
 cases d with
 | leaf l=>simp [Nd.isLeaf] at h
 | inner l=>simp [Nd.kids,Nd.len,Nd.keys]
def esz (leaf:Bool) (K V:List ByteArray) (i:Nat):Nat:=if leaf then 2+(K.getD i ByteArray.empty).size+(V.getD i ByteArray.empty).size else 5+(K.getD i ByteArray.empty).size
def zbK (leaf:Bool) (K V:List ByteArray):Nat->Nat
 | 0=>3
 | i+1=>zbK leaf K V i+esz leaf K V i
def Nd.size (d:Nd):Nat:=zbK d.isLeaf d.keys d.vals d.len
def zbu (w:World) (v:Value) (xs:List Value):Prop :=
 (v=.slice none 0 0/\xs=[])\/∃ g off cap,v=.slice (some ⟨g,off,none⟩) xs.length cap/\xs.length<=cap/\∀ i (h:i<xs.length),w.cell? ⟨g,off+i,none⟩=some xs[i]
theorem zbu.lit {w:World} {v:Value} {xs:List Value} (h:zbu w v xs) (hp:0<xs.length):∃ g off cap,v=.slice (some ⟨g,off,none⟩) xs.length cap/\xs.length<=cap/\∀ i (h:i<xs.length),w.cell? ⟨g,off+i,none⟩=some xs[i]:=by
 rcases h with ⟨-,rfl⟩|h
 ·simp at hp
 ·exact h
theorem zbu.form {w:World} {v:Value} {xs:List Value} (h:zbu w v xs):∃ a c,v=.slice a xs.length c:=by
 rcases h with ⟨rfl,rfl⟩|⟨g,off,cap,rfl,-⟩
 ·exact ⟨_,_,rfl⟩
 ·exact ⟨_,_,rfl⟩
theorem zbu.of_own {w:World} {base:Nat} {e:TypeId} {v:Value} {n:Nat} {xs:List Value} (h:w.ownsRow base e 1 v n xs):zbu w v xs:=by
 have hl:xs.length=n:=by have:=h.1;omega
 rcases h.2 with ⟨rfl,rfl⟩|⟨g,cap,cur,rfl,hb,hg,hnc,hm,hs,ht⟩
 ·exact .inl ⟨rfl,List.eq_nil_of_length_eq_zero hl⟩
 ·refine .inr ⟨g,0,cap,by rw [hl],by omega,λ i hi=>?_⟩
  have hx:(cur.toList.take (n*1))[i]?=some xs[i]:=by rw [ht];exact List.getElem?_eq_getElem hi
  rw [List.getElem?_take_of_lt (by omega),Array.getElem?_toList] at hx
  rw [Nat.zero_add]
  exact zaa hg hx
theorem zbu.kept {w w':World} {v:Value} {xs:List Value} (h:zbu w v xs) (hk:∀ k,v.ownBlock=some k->w'.heap[k]?=w.heap[k]?):zbu w' v xs:=by
 rcases h with h|⟨g,off,cap,rfl,hn,hc⟩
 ·exact .inl h
 ·exact .inr ⟨g,off,cap,rfl,hn,λ i hi=>(zCb (hk g rfl)).trans (hc i hi)⟩
structure NdV (w:World) (p:Nat) (d:Nd) (vk vv vi:Value):Prop where
 blk:w.heap[p]?=some (.cells #[.bool d.isLeaf,vk,vv,vi] 222 (0,0))
 ks:zbu w vk (d.keys.map Value.string)
 vs:zbu w vv (d.vals.map Value.string)
 is:zbu w vi (d.kids.map λ c:Nat=>Value.int .i64 (c:Int))
structure NdO (w:World) (F:Nat->Prop) (p:Nat) (d:Nd) (vk vv vi:Value):Prop where
 blk:w.heap[p]?=some (.cells #[.bool d.isLeaf,vk,vv,vi] 222 (0,0))
 ks:w.ownsRow 0 9 1 vk d.len (d.keys.map Value.string)
 vs:w.ownsRow 0 9 1 vv d.vals.length (d.vals.map Value.string)
 is:w.ownsRow 0 3 1 vi d.kids.length (d.kids.map λ c:Nat=>Value.int .i64 (c:Int))
 pk:vk.ownBlock≠some p
 pv:vv.ownBlock≠some p
 pi:vi.ownBlock≠some p
 kv:∀ k,vk.ownBlock=some k->vv.ownBlock≠some k
 ki:∀ k,vk.ownBlock=some k->vi.ownBlock≠some k
 vi':∀ k,vv.ownBlock=some k->vi.ownBlock≠some k
 own:∀ k,F k ↔ k=p\/vk.ownBlock=some k\/vv.ownBlock=some k\/vi.ownBlock=some k
def zc8 (w:World) (F:Nat->Prop) (p:Nat) (d:Nd):Prop:=∃ vk vv vi,NdO w F p d vk vv vi
theorem NdO.lt {w:World} {F:Nat->Prop} {p:Nat} {d:Nd} {vk vv vi:Value} (h:NdO w F p d vk vv vi):∀ k,F k->k<w.heap.size:=by
 intro k hk
 rcases (h.own k).1 hk with rfl|e|e|e
 ·exact zab h.blk
 ·exact (h.ks.lt k e).2
 ·exact (h.vs.lt k e).2
 ·exact (h.is.lt k e).2
theorem zap {w w':World} {base:Nat} {e:TypeId} {v:Value} {n:Nat} {xs:List Value} (h:w.ownsRow base e 1 v n xs) (hk:∀ k,v.ownBlock=some k->w'.heap[k]?=w.heap[k]?):w'.ownsRow base e 1 v n xs:=by
 refine ⟨h.1,?_⟩
 rcases h.2 with hn|⟨g,cap,cur,rfl,hb,hg,rest⟩
 ·exact .inl hn
 ·exact .inr ⟨g,cap,cur,rfl,hb,(hk g rfl).trans hg,rest⟩
theorem NdO.of {w w':World} {F:Nat->Prop} {p:Nat} {d:Nd} {vk vv vi:Value} (h:NdO w F p d vk vv vi) (hk:∀ k,F k->w'.heap[k]?=w.heap[k]?):NdO w' F p d vk vv vi :=
 ⟨(hk p ((h.own p).2 (.inl rfl))).trans h.blk,zap h.ks λ k e=>hk k ((h.own k).2 (.inr (.inl e))),zap h.vs λ k e=>hk k ((h.own k).2 (.inr (.inr (.inl e)))),zap h.is λ k e=>hk k ((h.own k).2 (.inr (.inr (.inr e)))),h.pk,h.pv,h.pi,h.kv,h.ki,h.vi',h.own⟩
theorem zc8.lt {w:World} {F:Nat->Prop} {p:Nat} {d:Nd} (h:zc8 w F p d):∀ k,F k->k<w.heap.size:=by obtain ⟨vk,vv,vi,h⟩:=h;exact h.lt
theorem zc8.of {w w':World} {F:Nat->Prop} {p:Nat} {d:Nd} (h:zc8 w F p d) (hk:∀ k,F k->w'.heap[k]?=w.heap[k]?):zc8 w' F p d:=by obtain ⟨vk,vv,vi,h⟩:=h;exact ⟨_,_,_,h.of hk⟩
theorem zc8.upd {w w':World} {F S:Nat->Prop} {p:Nat} {d:Nd} (h:zc8 w F p d) (hu:Upd S w w') (hn:∀ k,F k->¬S k):zc8 w' F p d:=h.of λ k hk=>hu.block k (h.lt k hk) (hn k hk)
theorem zc8.below {w w':World} {B:Nat} {F:Nat->Prop} {p:Nat} {d:Nd} (h:zc8 w F p d) (hb:Below B w w') (hB:w.heap.size<=B):zc8 w' F p d:=h.of λ k hk=>hb.block k (Nat.lt_of_lt_of_le (h.lt k hk) hB)
theorem NdO.read {w:World} {F:Nat->Prop} {p:Nat} {d:Nd} {vk vv vi:Value} (h:NdO w F p d vk vv vi):NdV w p d vk vv vi:=⟨h.blk,.of_own h.ks,.of_own h.vs,.of_own h.is⟩
theorem zjs (leaf:Bool) (K V:List ByteArray) (hK:∀ k∈K,k.size<=96) (hV:∀ v∈V,v.size<=56) (i:Nat):esz leaf K V i<=154:=by
 have a:(K.getD i ByteArray.empty).size<=96:=by
  by_cases h:i<K.length
  ·rw [za3 _ _ h];exact hK _ (List.getElem_mem h)
  ·rw [zgE _ _ (by omega)];decide
 have b:(V.getD i ByteArray.empty).size<=56:=by
  by_cases h:i<V.length
  ·rw [za3 _ _ h];exact hV _ (List.getElem_mem h)
  ·rw [zgE _ _ (by omega)];decide
 unfold esz;split <;> omega
theorem zix (leaf:Bool) (K V:List ByteArray) (hK:∀ k∈K,k.size<=96) (hV:∀ v∈V,v.size<=56) (i:Nat):zbK leaf K V i<=3+154*i:=by
 induction i with
 | zero=>simp [zbK]
 | succ i ih=>have:=zjs leaf K V hK hV i;unfold zbK;omega
theorem zeH {w:World} {g off:Nat} {K:List ByteArray} (hc:∀ i (h:i<(K.map Value.string).length),w.cell? ⟨g,off+i,none⟩=some (K.map Value.string)[i]) (i:Nat) (h:i<K.length):w.cell? ⟨g,off+i,none⟩=some (.string (K.getD i ByteArray.empty)):=by
 rw [hc i (by simpa using h),List.getElem_map,za3 _ _ h]
theorem zhs (p:Nat) (leaf:Bool) (K V:List ByteArray) (vk vv vi:Value) (fr:Nat × Nat) (w:World) (hb:w.heap[p]?=some (.cells #[.bool leaf,vk,vv,vi] 222 fr)) (hk:zbu w vk (K.map Value.string)) (hp:0<K.length)
 (hv:leaf=true->zbu w vv (V.map Value.string)/\V.length=K.length) (hK:∀ k∈K,k.size<=96) (hV:∀ v∈V,v.size<=56) (hn:K.length<=65536) :
 Calls Tryz.prog 178 #[.pointer (some ⟨p,0,none⟩)] w λ e w'=>e=.returned (.int .i64 (zbK leaf K V K.length:Nat))/\w'=w:=by
 obtain ⟨g,off,cap,rfl,hcap,hc⟩:=hk.lit (by simpa using hp)
 have HC:=Hd (zeH hc)
 have HE:=Hd (zjs leaf K V hK hV)
 have HS:=Hd (zix leaf K V hK hV)
 rw [zLm] at hb hcap
 clear hc hk
 have c0:w.cell? ⟨p,0,none⟩=some (.bool leaf):=zaa hb (by simp)
 have c1:w.cell? ⟨p,1,none⟩=some (.slice (some ⟨g,off,none⟩) K.length cap):=zaa hb (by simp)
 have c2:w.cell? ⟨p,2,none⟩=some vv:=zaa hb (by simp)
 clear hb
 go_enter Tryz.func178,Tryz.ntmps178
 go_wp2_with fail
 go_loopg [3,11] K.length (λ gg s3 s11 wr=>∃ i:Nat,gg=K.length-i/\i<=K.length/\s3=.int .i64 (zbK leaf K V i:Nat)/\s11=.int .i64 i/\w=wr)
 case atStart=>exact ⟨0,rfl,zNz _,rfl,rfl,rfl⟩
 case round =>
  obtain ⟨i,rfl,hi,rfl,rfl,rfl⟩:=hrel
  by_cases hlt:i<K.length
  ·have k0:=HC.out i hlt
   have e1:=HE.out i
   have e2:=HS.out i
   have hs:zbK leaf K V (i+1)=zbK leaf K V i+esz leaf K V i:=rfl
   cases leaf with
   | true =>
     obtain ⟨h1,h2⟩:=hv rfl
     obtain ⟨g2,off2,cap2,rfl,hcap2,hc2⟩:=h1.lit (by simp;omega)
     have k1:=zeH hc2 i (by omega)
     rw [zLm,h2] at c2 hcap2
     clear h1 hc2 hv
     simp only [esz,if_true] at hs e1
     generalize K.getD i ByteArray.empty=x at *
     generalize V.getD i ByteArray.empty=y at *
     go_wp2_with fail
     go_roundg (K.length-(i+1))
     case measure=>omega
     case rel=>exact ⟨i+1,rfl,by omega,by rw [hs];congr 1;omega,rfl,rfl⟩
   | false =>
     clear hv
     simp only [esz,Bool.false_eq_true,if_false] at hs e1
     generalize K.getD i ByteArray.empty=x at *
     go_wp2_with fail
     go_roundg (K.length-(i+1))
     case measure=>omega
     case rel=>exact ⟨i+1,rfl,by omega,by rw [hs];congr 1;omega,rfl,rfl⟩
  ·obtain rfl:i=K.length:=by omega
   go_wp2_with fail
   go_ret
   exact ⟨rfl,rfl⟩
def beL (l:List UInt8):Nat:=l.foldl (λ x c=>x*256+c.toNat) 0
theorem znJ (l:List UInt8) (c:UInt8):beL (l++[c])=beL l*256+c.toNat:=by simp [beL]
theorem znK (s:ByteArray) (k:Nat) (h:k<s.size):beL (s.data.toList.take (k+1))=beL (s.data.toList.take k)*256+s.data[k].toNat:=by
 have h':k<s.data.toList.length:=by simpa using h
 rw [zTs h',znJ]
 simp
theorem zrk (l:List UInt8) (h:l.length<=4):beL l<4294967296:=by
 have:∀ (l:List UInt8) (x:Nat),l.foldl (λ x c=>x*256+c.toNat) x<(x+1)*256 ^ l.length:=by
  intro l
  induction l with
  | nil=>intro x;simp
  | cons c l ih =>
    intro x
    have h1:=ih (x*256+c.toNat)
    have h2:=c.toNat_lt
    rw [List.foldl_cons,zLc,Nat.pow_succ]
    refine Nat.lt_of_lt_of_le h1 ?_
    rw [Nat.mul_comm (256 ^ l.length) 256,<-Nat.mul_assoc]
    exact Nat.mul_le_mul_right _ (by omega)
 have h1:=this l 0
 have h2:256 ^ l.length<=256 ^ 4:=Nat.pow_le_pow_right (by decide) h
 show beL l<_
 unfold beL
 omega
theorem ziy (n c:Nat) (hn:n<72057594037927936 / 256) (hc:c<256):bits .or .i64 ((n:Int)*256) (c:Int)=((n*256+c:Nat):Int):=by
 have:=bits_join .i64 63 (by decide) (λ n h0 h1=>by
  have h1':n<9223372036854775808:=by simpa using h1
  simp [IntKind.wrap,IntKind.bits,IntKind.signed];omega) 8 ((n:Int)*256) (c:Int) (by omega) (by omega) (by omega) (by omega) (by omega) (by omega)
 rw [this];omega
def Rd (w:World) (r:Nat) (l:List UInt8):Prop:=w.heap[r]?=some (.cells #[.string (ofL l),.bool false] 302 (0,0))
theorem zht (a b:List UInt8):(ofL (a++b)).extract 0 a.length=ofL a:=by
 apply ByteArray.ext
 simp [ofL,ByteArray.data_extract]
theorem zhu (a b:List UInt8):(ofL (a++b)).extract a.length (ofL (a++b)).size=ofL b:=by
 apply ByteArray.ext
 simp [ofL,ByteArray.data_extract,ByteArray.size]
theorem zjt (r:Nat) (a b:List UInt8) (w:World) (h:Rd w r (a++b)) (hl:(a++b).length<=1000000) :
 Calls Tryz.prog 221 #[.pointer (some ⟨r,0,none⟩),.int .i64 (a.length:Nat)] w λ e w'=>e=.returned (.string (ofL a))/\Hid (Rd w' r b/\Upd (λ k=>k=r) w w'):=by
 have c0:w.cell? ⟨r,0,none⟩=some (.string (ofL (a++b))):=zaa h (by simp)
 have f0:w.frozen? ⟨r,0,none⟩=false:=zad h 0
 have E0:=zht a b
 have E1:=zhu a b
 have hsz:(ofL (a++b)).size=a.length+b.length:=by rw [zfn,zLa]
 have hle:(a.length:Int)<=((ofL (a++b)).size:Int):=by omega
 have HS:Hid (Rd (w.setCell ⟨r,0,none⟩ (.string (ofL b))) r b/\Upd (λ k=>k=r) w (w.setCell ⟨r,0,none⟩ (.string (ofL b)))):=Hd ⟨zac h _,zbP w r 0 _⟩
 rw [zLa] at hl
 rw [hsz] at E1
 clear h
 generalize ofL (a++b)=s at *
 generalize ofL b=y at *
 generalize ofL a=x at *
 generalize a.length=n at *
 generalize b.length=m at *
 go_enter Tryz.func221,Tryz.ntmps221
 go_wp2_with fail
 go_ret
 exact ⟨rfl,HS⟩
theorem znL (r:Nat) (a b:List UInt8) (w:World) (h:Rd w r (a++b)) (hl:(a++b).length<=1000000) (ha:a.length<=4) :
 Calls Tryz.prog 222 #[.pointer (some ⟨r,0,none⟩),.int .i64 (a.length:Nat)] w λ e w'=>e=.returned (.int .i64 (beL a:Nat))/\Hid (Rd w' r b/\Upd (λ k=>k=r) w w'):=by
 have TK:=zjt r a b w h hl
 have HSZ:=Hd (zfn a)
 have hto:(ofL a).data.toList=a:=rfl
 clear h hl
 go_enter Tryz.func222,Tryz.ntmps222
 go_wp2_with fail
 refine TK.mono ?_
 rintro e w1 ⟨rfl,HR⟩
 clear TK
 generalize hs:ofL a=s at *
 have hcv:=run_bytes_of_string w1 9 91 5 s Tryz.underlying9 Tryz.underlying91 Tryz.underlying5
 go_wp2_with fail
 have hc:∀ j (h:j<s.size),((w1.alloc (.cells (bytesRow s (grownCap w1 s.size 0 5)) 5 ((bytesRow s (grownCap w1 s.size 0 5)).size,(bytesRow s (grownCap w1 s.size 0 5)).size+1))).drew).cell? ⟨w1.heap.size,j,none⟩=some (.int .u8 (s.data[j].toNat:Int)):=by
  intro j h
  rw [World.cell?_drew,World.cell?_alloc_mark]
  exact bytesRow_at s _ j h
 have hb:Hid (Rd ((w1.alloc (.cells (bytesRow s (grownCap w1 s.size 0 5)) 5 ((bytesRow s (grownCap w1 s.size 0 5)).size,(bytesRow s (grownCap w1 s.size 0 5)).size+1))).drew) r b/\Upd (λ k=>k=r) w ((w1.alloc (.cells (bytesRow s (grownCap w1 s.size 0 5)) 5 ((bytesRow s (grownCap w1 s.size 0 5)).size,(bytesRow s (grownCap w1 s.size 0 5)).size+1))).drew)) :=
  Hd ⟨(zao _ (zab HR.out.1)).trans HR.out.1,(HR.out.2.alloc _).drew⟩
 generalize (w1.alloc (.cells (bytesRow s (grownCap w1 s.size 0 5)) 5 ((bytesRow s (grownCap w1 s.size 0 5)).size,(bytesRow s (grownCap w1 s.size 0 5)).size+1))).drew=W at *
 have HC:=Hd hc
 clear hcv hc HR
 go_loopg [5,13] s.size (λ g s5 s13 wr=>∃ k,g=s.size-k/\k<=s.size/\s5=.int .i64 (beL (s.data.toList.take k):Nat)/\s13=.int .i64 k/\W=wr)
 case atStart=>exact ⟨0,by omega,zNz _,rfl,rfl,rfl⟩
 case round =>
  obtain ⟨k,rfl,hk,rfl,rfl,rfl⟩:=hrel
  have h4:s.size<=4:=by have:=HSZ.out;omega
  by_cases hlt:k<s.size
  ·have c1:=HC.out k hlt
   have n1:=zrk (s.data.toList.take k) (by have:=HSZ.out;simp;omega)
   have c2:=s.data[k].toNat_lt
   have HS:=Hd (znK s k hlt)
   clear hto
   generalize beL (s.data.toList.take k)=n at *
   generalize s.data[k].toNat=c at *
   go_wp2_with fail
   go_roundg (s.size-(k+1))
   case measure=>omega
   case rel=>exact ⟨k+1,rfl,by omega,by rw [HS.out,ziy n c (by omega) c2],by simp,rfl⟩
  ·obtain rfl:k=s.size:=by omega
   have ht:s.data.toList.take s.size=a:=by rw [hto,HSZ.out];simp
   rw [ht]
   go_wp2_with fail
   go_ret
   exact ⟨rfl,hb⟩
theorem zlI (r:Nat) (c:UInt8) (a b:List UInt8) (w:World) (h:Rd w r ([c]++(a++b))) (hl:([c]++(a++b)).length<=1000000) (ha:a.length=c.toNat) :
 Calls Tryz.prog 223 #[.pointer (some ⟨r,0,none⟩)] w λ e w'=>e=.returned (.string (ofL a))/\Hid (Rd w' r b/\Upd (λ k=>k=r) w w'):=by
 have NM:=znL r [c] (a++b) w h hl (by simp)
 have hb1:beL [c]=a.length:=by simp [beL,ha]
 rw [hb1] at NM
 have HL:Hid ((a++b).length<=1000000):=Hd (by simp at hl ⊢;omega)
 clear h hb1 hl ha
 rw [List.length_singleton,show ((1:Nat):Int)=1 from rfl] at NM
 go_enter Tryz.func223,Tryz.ntmps223
 go_wp2_with fail
 refine NM.mono ?_
 rintro e w1 ⟨rfl,H1⟩
 have TK:=Hd (zjt r a b w1 H1.out.1 HL.out)
 go_wp2_with fail
 refine (TK.out).mono ?_
 rintro e w2 ⟨rfl,H2⟩
 have H3:=Hd (And.intro H2.out.1 (H1.out.2.trans H2.out.2))
 go_wp2_with fail
 go_ret
 exact ⟨rfl,H3⟩
def ze5 (p:ByteArray × ByteArray):List UInt8:=[UInt8.ofNat p.1.size]++(p.1.data.toList++([UInt8.ofNat p.2.size]++p.2.data.toList))
def be4 (c:Nat):List UInt8:=[UInt8.ofNat (c / 16777216),UInt8.ofNat (c / 65536),UInt8.ofNat (c / 256),UInt8.ofNat c]
def ze6 (p:ByteArray × Nat):List UInt8:=[UInt8.ofNat p.1.size]++(p.1.data.toList++be4 p.2)
def Nd.body:Nd->List UInt8
 | .leaf l=>l.flatMap ze5
 | .inner l=>l.flatMap ze6
def Nd.kind:Nd->UInt8
 | .leaf _=>76
 | .inner _=>78
def Nd.bytes (d:Nd):List UInt8:=[d.kind]++([UInt8.ofNat (d.len / 256),UInt8.ofNat d.len]++d.body)
theorem zpI (c:Nat) (h:c<4294967296):beL (be4 c)=c:=by
 simp only [beL,be4,List.foldl_cons,List.foldl_nil,UInt8.toNat_ofNat']
 omega
theorem zlJ (n:Nat) (h:n<65536):beL [UInt8.ofNat (n / 256),UInt8.ofNat n]=n:=by
 simp only [beL,List.foldl_cons,List.foldl_nil,UInt8.toNat_ofNat']
 omega
structure PS (w wr:World) (r p:Nat) (lf:Bool) (vk vv vi:Value) (K V:List ByteArray) (C:List Nat) (rest:List UInt8):Prop where
 blk:wr.heap[p]?=some (.cells #[.bool lf,vk,vv,vi] 222 (0,0))
 ks:wr.ownsRow (p+1) 9 1 vk K.length (K.map Value.string)
 vs:wr.ownsRow (p+1) 9 1 vv V.length (V.map Value.string)
 is:wr.ownsRow (p+1) 3 1 vi C.length (C.map λ c:Nat=>Value.int .i64 (c:Int))
 kv:∀ k,vk.ownBlock=some k->vv.ownBlock≠some k
 ki:∀ k,vk.ownBlock=some k->vi.ownBlock≠some k
 vi':∀ k,vv.ownBlock=some k->vi.ownBlock≠some k
 rd:Rd wr r rest
 low:w.heap.size<=r
 rp:r<p
 bel:Below w.heap.size w wr
theorem za8 {w:World} {b b':Nat} {e:TypeId} {n:Nat} {v:Value} {xs:List Value} (h:w.ownsRow b e 1 v n xs) (hb:b'<=b):w.ownsRow b' e 1 v n xs:=by
 refine ⟨h.1,?_⟩
 rcases h.2 with hn|⟨g,cap,cur,rfl,hg,rest⟩
 ·exact .inl hn
 ·exact .inr ⟨g,cap,cur,rfl,by omega,rest⟩
theorem PS.nd {w wr:World} {r p:Nat} {d:Nd} {vk vv vi:Value} {rest:List UInt8} (h:PS w wr r p d.isLeaf vk vv vi d.keys d.vals d.kids rest):∃ F,zc8 wr F p d/\(∀ k,F k->w.heap.size<=k)/\Below w.heap.size w wr:=by
 refine ⟨λ k=>k=p\/vk.ownBlock=some k\/vv.ownBlock=some k\/vi.ownBlock=some k,⟨vk,vv,vi,h.blk,za8 h.ks (zNz _),za8 h.vs (zNz _),za8 h.is (zNz _),λ e=>?_,λ e=>?_,λ e=>?_,h.kv,h.ki,h.vi',λ _=>Iff.rfl⟩,λ k hk=>?_,h.bel⟩
 ·have:=(h.ks.lt p e).1;omega
 ·have:=(h.vs.lt p e).1;omega
 ·have:=(h.is.lt p e).1;omega
 ·have:=h.low;have:=h.rp
  rcases hk with rfl|e|e|e
  ·omega
  ·have:=(h.ks.lt k e).1;omega
  ·have:=(h.vs.lt k e).1;omega
  ·have:=(h.is.lt k e).1;omega
theorem zo3 {w wr W1 W3:World} {r p:Nat} {lf:Bool} {vk vv vi vk':Value} {K V:List ByteArray} {C:List Nat} {rest rest2:List UInt8} {s:ByteArray} {o:Obj} (h:PS w wr r p lf vk vv vi K V C rest) (h1:Rd W1 r rest2/\Upd (λ k=>k=r) wr W1)
 (ho:W3.ownsRow (p+1) 9 1 vk' (K.length+1) (K.map Value.string++[Value.string s])) (hg:(W1.alloc o).grownBy W3 vk.ownBlock) (ha:vk'.ownBlock=vk.ownBlock\/vk'.ownBlock=some (W1.alloc o).heap.size) :
 PS w (W3.setCell ⟨p,1,none⟩ vk') r p lf vk' vv vi (K++[s]) V C rest2/\W3.heap[p]?=some (.cells #[.bool lf,vk,vv,vi] 222 (0,0)):=by
 obtain ⟨hr1,hu⟩:=h1
 have hrp:=h.rp
 have hsz:=hu.size
 have hsa:(W1.alloc o).heap.size=W1.heap.size+1:=by simp
 have keep:∀ k,k<wr.heap.size->k≠r->vk.ownBlock≠some k->W3.heap[k]?=wr.heap[k]?:=λ k hk hn hv =>
  (hg.block k (by omega) (λ e=>hv e.symm)).trans ((zao o (by omega)).trans (hu.block k hk hn))
 have hp:=zab h.blk
 have hvp:∀ k,vk.ownBlock=some k->p+1<=k/\k<wr.heap.size:=λ k e=>h.ks.lt k e
 have b3:W3.heap[p]?=some (.cells #[.bool lf,vk,vv,vi] 222 (0,0)):=(keep p hp (by omega) (λ e=>by have:=(hvp p e).1;omega)).trans h.blk
 have hv':∀ k,vk'.ownBlock=some k->vk.ownBlock=some k\/wr.heap.size<=k:=λ k e=>by
  rcases ha with a|a
  ·exact .inl (a ▸ e)
  ·rw [a] at e;cases e;exact .inr (by omega)
 refine ⟨⟨(zac b3 _).trans (by simp),?_,?_,?_,?_,?_,?_,?_,h.low,h.rp,?_⟩,b3⟩
 ·have:=zap (w':=W3.setCell ⟨p,1,none⟩ vk') ho (λ k e=>zae _ (by have:=(ho.lt k e).1;omega))
  simpa using this
 ·refine zap h.vs λ k e=>?_
  have hk:=h.vs.lt k e
  exact (zae _ (by omega)).trans (keep k hk.2 (by omega) (λ e2=>h.kv k e2 e))
 ·refine zap h.is λ k e=>?_
  have hk:=h.is.lt k e
  exact (zae _ (by omega)).trans (keep k hk.2 (by omega) (λ e2=>h.ki k e2 e))
 ·intro k e e2
  rcases hv' k e with a|a
  ·exact h.kv k a e2
  ·have:=(h.vs.lt k e2).2;omega
 ·intro k e e2
  rcases hv' k e with a|a
  ·exact h.ki k a e2
  ·have:=(h.is.lt k e2).2;omega
 ·exact h.vi'
 ·refine (zae _ (by omega)).trans ((hg.block r ?_ (λ e=>?_)).trans ((zao o (zab hr1)).trans hr1))
  ·have:=zab hr1;omega
  ·have:=(hvp r e.symm).1;omega
 ·have hlow:=h.low
  refine ((Below.trans h.bel ((hu.below (B:=w.heap.size) h.bel.size (λ k hk e=>by omega)).alloc (Nat.le_trans h.bel.size hu.size) o)).grown hg (by have:=h.bel.size;omega) (λ k e=>?_)).setCell (show w.heap.size<=p by omega) _
  have:=(hvp k e).1;omega
theorem zrl {w wr W1 W3:World} {r p:Nat} {lf:Bool} {vk vv vi vv':Value} {K V:List ByteArray} {C:List Nat} {rest rest2:List UInt8} {s:ByteArray} {o:Obj} (h:PS w wr r p lf vk vv vi K V C rest) (h1:Rd W1 r rest2/\Upd (λ k=>k=r) wr W1)
 (ho:W3.ownsRow (p+1) 9 1 vv' (V.length+1) (V.map Value.string++[Value.string s])) (hg:(W1.alloc o).grownBy W3 vv.ownBlock) (ha:vv'.ownBlock=vv.ownBlock\/vv'.ownBlock=some (W1.alloc o).heap.size) :
 PS w (W3.setCell ⟨p,2,none⟩ vv') r p lf vk vv' vi K (V++[s]) C rest2/\W3.heap[p]?=some (.cells #[.bool lf,vk,vv,vi] 222 (0,0)):=by
 obtain ⟨hr1,hu⟩:=h1
 have hrp:=h.rp
 have hsz:=hu.size
 have hsa:(W1.alloc o).heap.size=W1.heap.size+1:=by simp
 have keep:∀ k,k<wr.heap.size->k≠r->vv.ownBlock≠some k->W3.heap[k]?=wr.heap[k]?:=λ k hk hn hv =>
  (hg.block k (by omega) (λ e=>hv e.symm)).trans ((zao o (by omega)).trans (hu.block k hk hn))
 have hp:=zab h.blk
 have hvp:∀ k,vv.ownBlock=some k->p+1<=k/\k<wr.heap.size:=λ k e=>h.vs.lt k e
 have b3:W3.heap[p]?=some (.cells #[.bool lf,vk,vv,vi] 222 (0,0)):=(keep p hp (by omega) (λ e=>by have:=(hvp p e).1;omega)).trans h.blk
 have hv':∀ k,vv'.ownBlock=some k->vv.ownBlock=some k\/wr.heap.size<=k:=λ k e=>by
  rcases ha with a|a
  ·exact .inl (a ▸ e)
  ·rw [a] at e;cases e;exact .inr (by omega)
 refine ⟨⟨(zac b3 _).trans (by simp),?_,?_,?_,?_,?_,?_,?_,h.low,h.rp,?_⟩,b3⟩
 ·refine zap h.ks λ k e=>?_
  have hk:=h.ks.lt k e
  exact (zae _ (by omega)).trans (keep k hk.2 (by omega) (λ e2=>h.kv k e e2))
 ·have:=zap (w':=W3.setCell ⟨p,2,none⟩ vv') ho (λ k e=>zae _ (by have:=(ho.lt k e).1;omega))
  simpa using this
 ·refine zap h.is λ k e=>?_
  have hk:=h.is.lt k e
  exact (zae _ (by omega)).trans (keep k hk.2 (by omega) (λ e2=>h.vi' k e2 e))
 ·intro k e e2
  rcases hv' k e2 with a|a
  ·exact h.kv k e a
  ·have:=(h.ks.lt k e).2;omega
 ·exact h.ki
 ·intro k e e2
  rcases hv' k e with a|a
  ·exact h.vi' k a e2
  ·have:=(h.is.lt k e2).2;omega
 ·refine (zae _ (by omega)).trans ((hg.block r ?_ (λ e=>?_)).trans ((zao o (zab hr1)).trans hr1))
  ·have:=zab hr1;omega
  ·have:=(hvp r e.symm).1;omega
 ·have hlow:=h.low
  refine ((Below.trans h.bel ((hu.below (B:=w.heap.size) h.bel.size (λ k hk e=>by omega)).alloc (Nat.le_trans h.bel.size hu.size) o)).grown hg (by have:=h.bel.size;omega) (λ k e=>?_)).setCell (show w.heap.size<=p by omega) _
  have:=(hvp k e).1;omega
theorem zrm {w wr W1 W3:World} {r p:Nat} {lf:Bool} {vk vv vi vi':Value} {K V:List ByteArray} {C:List Nat} {rest rest2:List UInt8} {c:Nat} {o:Obj} (h:PS w wr r p lf vk vv vi K V C rest) (h1:Rd W1 r rest2/\Upd (λ k=>k=r) wr W1)
 (ho:W3.ownsRow (p+1) 3 1 vi' (C.length+1) ((C.map λ c:Nat=>Value.int .i64 (c:Int))++[Value.int .i64 (c:Int)])) (hg:(W1.alloc o).grownBy W3 vi.ownBlock) (ha:vi'.ownBlock=vi.ownBlock\/vi'.ownBlock=some (W1.alloc o).heap.size) :
 PS w (W3.setCell ⟨p,3,none⟩ vi') r p lf vk vv vi' K V (C++[c]) rest2/\W3.heap[p]?=some (.cells #[.bool lf,vk,vv,vi] 222 (0,0)):=by
 obtain ⟨hr1,hu⟩:=h1
 have hrp:=h.rp
 have hsz:=hu.size
 have hsa:(W1.alloc o).heap.size=W1.heap.size+1:=by simp
 have keep:∀ k,k<wr.heap.size->k≠r->vi.ownBlock≠some k->W3.heap[k]?=wr.heap[k]?:=λ k hk hn hv =>
  (hg.block k (by omega) (λ e=>hv e.symm)).trans ((zao o (by omega)).trans (hu.block k hk hn))
 have hp:=zab h.blk
 have hvp:∀ k,vi.ownBlock=some k->p+1<=k/\k<wr.heap.size:=λ k e=>h.is.lt k e
 have b3:W3.heap[p]?=some (.cells #[.bool lf,vk,vv,vi] 222 (0,0)):=(keep p hp (by omega) (λ e=>by have:=(hvp p e).1;omega)).trans h.blk
 have hv':∀ k,vi'.ownBlock=some k->vi.ownBlock=some k\/wr.heap.size<=k:=λ k e=>by
  rcases ha with a|a
  ·exact .inl (a ▸ e)
  ·rw [a] at e;cases e;exact .inr (by omega)
 refine ⟨⟨(zac b3 _).trans (by simp),?_,?_,?_,?_,?_,?_,?_,h.low,h.rp,?_⟩,b3⟩
 ·refine zap h.ks λ k e=>?_
  have hk:=h.ks.lt k e
  exact (zae _ (by omega)).trans (keep k hk.2 (by omega) (λ e2=>h.ki k e e2))
 ·refine zap h.vs λ k e=>?_
  have hk:=h.vs.lt k e
  exact (zae _ (by omega)).trans (keep k hk.2 (by omega) (λ e2=>h.vi' k e e2))
 ·have:=zap (w':=W3.setCell ⟨p,3,none⟩ vi') ho (λ k e=>zae _ (by have:=(ho.lt k e).1;omega))
  simpa using this
 ·exact h.kv
 ·intro k e e2
  rcases hv' k e2 with a|a
  ·exact h.ki k e a
  ·have:=(h.ks.lt k e).2;omega
 ·intro k e e2
  rcases hv' k e2 with a|a
  ·exact h.vi' k e a
  ·have:=(h.vs.lt k e).2;omega
 ·refine (zae _ (by omega)).trans ((hg.block r ?_ (λ e=>?_)).trans ((zao o (zab hr1)).trans hr1))
  ·have:=zab hr1;omega
  ·have:=(hvp r e.symm).1;omega
 ·have hlow:=h.low
  refine ((Below.trans h.bel ((hu.below (B:=w.heap.size) h.bel.size (λ k hk e=>by omega)).alloc (Nat.le_trans h.bel.size hu.size) o)).grown hg (by have:=h.bel.size;omega) (λ k e=>?_)).setCell (show w.heap.size<=p by omega) _
  have:=(hvp k e).1;omega
theorem zhv {α:Type} {l:List α} {i:Nat} (h:i<l.length):l.drop i=l[i]::l.drop (i+1):=(List.getElem_cons_drop h).symm
theorem zju {w w1:World} {rest:List UInt8} {o:Obj} {lf:Bool} (h:Rd w1 w.heap.size rest/\Upd (λ k=>k=w.heap.size) (w.alloc o) w1) :
 PS w (w1.alloc (.cells #[.bool lf,.slice none 0 0,.slice none 0 0,.slice none 0 0] 222)) w.heap.size w1.heap.size lf (.slice none 0 0) (.slice none 0 0) (.slice none 0 0) [] [] [] rest:=by
 have hs:=h.2.size
 simp at hs
 exact ⟨heap_alloc_new _ _,World.ownsRow_nil _ _ _ _,World.ownsRow_nil _ _ _ _,World.ownsRow_nil _ _ _ _,λ k e=>by simp [Value.ownBlock] at e,λ k e=>by simp [Value.ownBlock] at e,λ k e=>by simp [Value.ownBlock] at e,(zao _ (zab h.1)).trans h.1,zNr _,by omega,
  ((((zBr w.heap.size w).alloc (zNr _) o).trans (h.2.below (by simp) (λ k hk e=>by omega)))).alloc (by omega) _⟩
theorem zkz {w wr W1:World} {r p:Nat} {lf:Bool} {vk vv vi:Value} {K V:List ByteArray} {C:List Nat} {rest rest2:List UInt8} (h:PS w wr r p lf vk vv vi K V C rest) (h1:Rd W1 r rest2/\Upd (λ k=>k=r) wr W1):PS w W1 r p lf vk vv vi K V C rest2:=by
 have hrp:=h.rp
 have hlow:=h.low
 have keep:∀ k,k<wr.heap.size->k≠r->W1.heap[k]?=wr.heap[k]?:=λ k hk hn=>h1.2.block k hk hn
 refine ⟨(keep p (zab h.blk) (by omega)).trans h.blk,zap h.ks λ k e=>?_,zap h.vs λ k e=>?_,zap h.is λ k e=>?_,h.kv,h.ki,h.vi',h1.1,hlow,hrp,h.bel.trans (h1.2.below h.bel.size (λ k hk e=>by omega))⟩
 ·have:=h.ks.lt k e;exact keep k this.2 (by omega)
 ·have:=h.vs.lt k e;exact keep k this.2 (by omega)
 ·have:=h.is.lt k e;exact keep k this.2 (by omega)
theorem zdg {n:Nat} (h:n<65536):n+1<=maxLen/\(n+1)*16<=140737488355328/\(n+1)*8<=140737488355328:=by unfold maxLen;omega
theorem zpJ:(Tryz.prog.info? 9).map (λ i=>(i.zero,i.size,i.bytes))=some (some (.string ⟨#[]⟩),1,16):=by kernel_rfl
theorem zgF {w wr:World} {r p:Nat} {lf:Bool} {vk vv vi:Value} {K V:List ByteArray} {C:List Nat} {rest:List UInt8} (h:PS w wr r p lf vk vv vi K V C rest) (o:Obj):p+1<=(wr.alloc o).heap.size:=by
 have:=zab h.blk;simp;omega
theorem zjv {w wr:World} {p:Nat} {d:Nd} (h:Hid (∃ F,zc8 wr F p d/\(∀ k,F k->w.heap.size<=k)/\Below w.heap.size w wr)) (q:Nat):Hid (∃ F,zc8 (wr.drewN q) F p d/\(∀ k,F k->w.heap.size<=k)/\Below w.heap.size w (wr.drewN q)):=by
 obtain ⟨F,h1,h2,h3⟩:=h.out
 exact Hd ⟨F,h1.of λ k _=>rfl,h2,⟨h3.os,h3.tape,h3.output,h3.size,h3.block⟩⟩
def zs2 (w:World) (r p:Nat) (l:List (ByteArray × ByteArray)) (pad:List UInt8) (g:Nat) (s18:Value) (wr:World):Prop :=
 ∃ i vk vv vi,g=l.length-i/\i<=l.length/\s18=.int .i64 (i:Nat)/\Hid (PS w wr r p true vk vv vi ((l.take i).map Prod.fst) ((l.take i).map Prod.snd) [] ((l.drop i).flatMap ze5++pad))/\Hid (((l.drop i).flatMap ze5++pad).length<=1000000)
theorem zkA (l:List (ByteArray × ByteArray)) (pad:List UInt8) (w:World) (hd:(Nd.leaf l).Ok) (hl:((Nd.leaf l).bytes++pad).length<=1000000) :
 Calls Tryz.prog 184 #[.string (ofL ((Nd.leaf l).bytes++pad))] w λ e w'=>∃ p,e=.returned (.tuple #[.pointer (some ⟨p,0,none⟩),.bool true])/\Hid (∃ F,zc8 w' F p (.leaf l)/\(∀ k,F k->w.heap.size<=k)/\Below w.heap.size w w'):=by
 have hlen:(Nd.leaf l).len=l.length:=by simp [Nd.len,Nd.keys]
 have hn0:=hd.pos
 have hn1:=hd.few
 rw [hlen] at hn0 hn1
 have he:(Nd.leaf l).bytes++pad=[76]++([UInt8.ofNat (l.length / 256),UInt8.ofNat l.length]++(l.flatMap ze5++pad)):=by simp [Nd.bytes,Nd.kind,Nd.body,hlen]
 have hK:Hid (∀ p∈l,p.1.size<=96/\p.2.size<=56):=Hd λ p hp=>⟨hd.key _ (by simp [Nd.keys];exact ⟨_,hp⟩),hd.val _ (by simp [Nd.vals];exact ⟨_,hp⟩)⟩
 rw [he] at hl ⊢
 obtain ⟨jS,hjS,hS0,hS1,hS2⟩:=info_parts zpJ
 have TK:=Hd (zjt w.heap.size [76] _ (w.alloc (.cells #[.string (ofL ([76]++([UInt8.ofNat (l.length / 256),UInt8.ofNat l.length]++(l.flatMap ze5++pad)))),.bool false] 302)) (heap_alloc_new _ _) hl)
 rw [List.length_singleton,show ((1:Nat):Int)=1 from rfl,show ofL [76]=⟨#[76]⟩ from rfl] at TK
 have HL1:Hid (([UInt8.ofNat (l.length / 256),UInt8.ofNat l.length]++(l.flatMap ze5++pad)).length<=1000000):=Hd (by rw [zLa] at hl;omega)
 have HL2:Hid ((l.flatMap ze5++pad).length<=1000000):=Hd (by have:=HL1.out;rw [zLa] at this;omega)
 have HB2:Hid (beL [UInt8.ofNat (l.length / 256),UInt8.ofNat l.length]=l.length):=Hd (zlJ _ hn1)
 clear hl he hlen hd
 generalize ofL ([76]++([UInt8.ofNat (l.length / 256),UInt8.ofNat l.length]++(l.flatMap ze5++pad)))=s0 at *
 go_enter Tryz.func184,Tryz.ntmps184
 go_wp2_with fail
 refine (TK.out).mono ?_
 rintro e w1 ⟨rfl,H1⟩
 have P1:=Hd (zju (lf:=true) H1.out)
 have NM:=Hd (znL w.heap.size [UInt8.ofNat (l.length / 256),UInt8.ofNat l.length] (l.flatMap ze5++pad) _ P1.out.rd HL1.out (by simp))
 rw [HB2.out,show ([UInt8.ofNat (l.length / 256),UInt8.ofNat l.length].length:Nat)=2 from rfl,show ((2:Nat):Int)=2 from rfl] at NM
 clear TK H1 HL1 HB2
 go_wp2_with fail
 refine (NM.out).mono ?_
 rintro e w2 ⟨rfl,H2⟩
 have P2:=Hd (zkz P1.out H2.out)
 clear NM H2 P1
 generalize w1.heap.size=p at *
 generalize w.heap.size=r at *
 go_wp2_with fail
 go_loopg [18] l.length (λ g s18 wr=>zs2 w r p l pad g s18 wr)
 case atStart=>exact ⟨0,_,_,_,rfl,zNz _,rfl,by simpa using P2,by simpa using HL2⟩
 case round =>
  obtain ⟨i,vk,vv,vi,rfl,hi,rfl,HP,HLN⟩:=hrel
  clear P2 HL2
  by_cases hlt:i<l.length
  ·obtain ⟨kk,vv0,hx⟩:∃ a b,l[i]=(a,b):=⟨_,_,rfl⟩
   have hsz:=hK.out _ (List.getElem_mem hlt)
   rw [hx] at hsz;dsimp only at hsz
   have hrest:(l.drop i).flatMap ze5++pad=[UInt8.ofNat kk.size]++(kk.data.toList++([UInt8.ofNat vv0.size]++(vv0.data.toList++((l.drop (i+1)).flatMap ze5++pad)))):=by rw [zhv hlt,hx];simp [ze5]
   rw [hrest] at HP HLN
   have hk1:((l.take i).map Prod.fst).length<65536:=by simp;omega
   have hk2:((l.take i).map Prod.snd).length<65536:=by simp;omega
   have HN1:Hid ((l.take (i+1)).map Prod.fst=(l.take i).map Prod.fst++[kk]/\(l.take (i+1)).map Prod.snd=(l.take i).map Prod.snd++[vv0]):=Hd (by rw [zTs hlt,hx];simp)
   have TX1:=Hd (zlI r _ _ _ wr.drew HP.out.rd HLN.out (by rw [UInt8.toNat_ofNat',<-Lib.size_eq];omega))
   rw [show ofL kk.data.toList=kk from rfl] at TX1
   have HLN2:Hid (([UInt8.ofNat vv0.size]++(vv0.data.toList++((l.drop (i+1)).flatMap ze5++pad))).length<=1000000):=Hd (by have:=HLN.out;simp only [zLa] at this ⊢;omega)
   have HLN3:Hid (((l.drop (i+1)).flatMap ze5++pad).length<=1000000):=Hd (by have:=HLN.out;simp only [zLa] at this ⊢;omega)
   have HA2:Hid (vv0.data.toList.length=(UInt8.ofNat vv0.size).toNat):=Hd (by rw [UInt8.toNat_ofNat',<-Lib.size_eq];omega)
   have HLN_key:=Hd (And.intro (zdg hk1).1 (zdg hk1).2.1)
   have HLN_val:=Hd (And.intro (zdg hk2).1 (zdg hk2).2.1)
   clear hrest hsz hk1 hk2 HLN hx hK
   generalize (l.take i).map Prod.fst=K at *
   generalize (l.take i).map Prod.snd=V at *
   have r1:wr.cell? ⟨r,1,none⟩=some (.bool false):=zaa HP.out.rd rfl
   obtain ⟨a_,m_,c_,ev⟩:=zan HP.out.ks
   subst ev
   have d1:wr.cell? ⟨p,1,none⟩=some (.slice a_ m_ c_):=zaa HP.out.blk rfl
   have lp:=zab HP.out.blk
   go_wp2_with fail
   go_region_law ((first
    | (refine zat (by rfl) _ _ _ (by rfl) (p+1) 9 jS _ 1 16 Tryz.underlying63 hjS hS0 hS1 hS2 rfl (by decide) _ _ _ (by rfl) (PA.out.ks.alloc _) _ 1 _ (by rfl) (zai _ #[.string kk] _ 1 1) rfl (zkk _ rfl) HLN_key.out.1 HLN_key.out.2 (zgF PA.out _) ?_
       intro px W5 ho5 hg5 ha5
       obtain ⟨xa,xm,xc,rfl⟩:=zan ho5
       have PK:=Hd (zo3 HP.out HU.out ho5 hg5 ha5)
       have g1:W5.cell? ⟨p,1,none⟩=some (.slice a_ m_ c_):=zaa PK.out.2 rfl
       have g2:=zad PK.out.2 1
       clear ho5 hg5 ha5)
    | (go_simp;go_at_call 223;refine Calls.at_args TX1.out (by with_reducible rfl) ?_;rintro e W3 ⟨rfl,H3⟩
       have HU:=Hd (And.intro H3.out.1 H3.out.2.drew_left)
       have PA:=Hd (zkz HP.out HU.out)
       have e3:W3.cell? ⟨p,1,none⟩=some (.slice a_ m_ c_):=zaa PA.out.blk rfl
       have l3:=zab PA.out.blk
       clear H3)))
   all_goals (
    have P3:=Hd PK.out.1
    clear PK PA HU HP d1 lp TX1
    generalize W5.setCell ⟨p,1,none⟩ (.slice xa xm xc)=W6 at *
    have d0:W6.cell? ⟨p,0,none⟩=some (.bool true):=zaa P3.out.blk rfl
    have TX2:=Hd (zlI r _ _ _ W6.drew P3.out.rd HLN2.out HA2.out)
    rw [show ofL vv0.data.toList=vv0 from rfl] at TX2
    clear r1 g1 g2
    obtain ⟨a_,m_,c_,ev⟩:=zan P3.out.vs
    subst ev
    have d1:W6.cell? ⟨p,2,none⟩=some (.slice a_ m_ c_):=zaa P3.out.blk rfl
    have lp:=zab P3.out.blk
    go_wp2_with fail
    go_region_law ((first
     | (refine zat (by rfl) _ _ _ (by rfl) (p+1) 9 jS _ 1 16 Tryz.underlying63 hjS hS0 hS1 hS2 rfl (by decide) _ _ _ (by rfl) (PA.out.vs.alloc _) _ 1 _ (by rfl) (zai _ #[.string vv0] _ 1 1) rfl (zkk _ rfl) HLN_val.out.1 HLN_val.out.2 (zgF PA.out _) ?_
        intro px W5 ho5 hg5 ha5
        obtain ⟨xa,xm,xc,rfl⟩:=zan ho5
        have PK:=Hd (zrl P3.out HU.out ho5 hg5 ha5)
        have g1:W5.cell? ⟨p,2,none⟩=some (.slice a_ m_ c_):=zaa PK.out.2 rfl
        have g2:=zad PK.out.2 2
        clear ho5 hg5 ha5)
     | (go_simp;go_at_call 223;refine Calls.at_args TX2.out (by with_reducible rfl) ?_;rintro e W3 ⟨rfl,H3⟩
        have HU:=Hd (And.intro H3.out.1 H3.out.2.drew_left)
        have PA:=Hd (zkz P3.out HU.out)
        have e3:W3.cell? ⟨p,2,none⟩=some (.slice a_ m_ c_):=zaa PA.out.blk rfl
        have l3:=zab PA.out.blk
        clear H3))))
   all_goals (
    have P4:=Hd PK.out.1
    clear PK PA HU P3 d1 lp TX2
    go_wp2_with fail
    go_roundg (l.length-(i+1)))
   all_goals (first|omega|exact ⟨i+1,_,_,_,rfl,by omega,by simp,by rw [HN1.out.1,HN1.out.2];exact P4,HLN3⟩)
  ·obtain rfl:i=l.length:=by omega
   have P5:PS w wr r p (Nd.leaf l).isLeaf vk vv vi (Nd.leaf l).keys (Nd.leaf l).vals (Nd.leaf l).kids (([]:List (ByteArray × ByteArray)).flatMap ze5++pad):=by
    have:=HP.out
    rw [List.take_length,List.drop_length] at this
    exact this
   have HE:=Hd P5.nd
   obtain ⟨a_,c_,ev⟩:=(zbu.of_own P5.ks).form
   rw [zLm,show (Nd.leaf l).keys.length=l.length by simp [Nd.keys]] at ev
   subst ev
   have d0:wr.cell? ⟨p,0,none⟩=some (.bool true):=zaa P5.blk rfl
   have d1:wr.cell? ⟨p,1,none⟩=some (.slice a_ l.length c_):=zaa P5.blk rfl
   have r1:wr.cell? ⟨r,1,none⟩=some (.bool false):=zaa P5.rd rfl
   have hn2:(0:Int)<(l.length:Int):=by omega
   have hn3:decide ((l.length:Int) > 0)=true:=by simpa using hn2
   have hn4:decide ((0:Int)<(l.length:Int))=true:=by simpa using hn2
   clear HP HLN hK P5
   go_wp2_with fail
   go_quiet (fail)
   go_wp2_with fail
   go_ret2
   exact ⟨p,rfl,zjv HE _⟩
def zs3 (w:World) (r p:Nat) (l:List (ByteArray × Nat)) (pad:List UInt8) (g:Nat) (s18:Value) (wr:World):Prop :=
 ∃ i vk vv vi,g=l.length-i/\i<=l.length/\s18=.int .i64 (i:Nat)/\Hid (PS w wr r p false vk vv vi ((l.take i).map Prod.fst) [] ((l.take i).map Prod.snd) ((l.drop i).flatMap ze6++pad))/\Hid (((l.drop i).flatMap ze6++pad).length<=1000000)
theorem ziz (l:List (ByteArray × Nat)) (pad:List UInt8) (w:World) (hd:(Nd.inner l).Ok) (hl:((Nd.inner l).bytes++pad).length<=1000000) :
 Calls Tryz.prog 184 #[.string (ofL ((Nd.inner l).bytes++pad))] w λ e w'=>∃ p,e=.returned (.tuple #[.pointer (some ⟨p,0,none⟩),.bool true])/\Hid (∃ F,zc8 w' F p (.inner l)/\(∀ k,F k->w.heap.size<=k)/\Below w.heap.size w w'):=by
 have hlen:(Nd.inner l).len=l.length:=by simp [Nd.len,Nd.keys]
 have hn0:=hd.pos
 have hn1:=hd.few
 rw [hlen] at hn0 hn1
 have he:(Nd.inner l).bytes++pad=[78]++([UInt8.ofNat (l.length / 256),UInt8.ofNat l.length]++(l.flatMap ze6++pad)):=by simp [Nd.bytes,Nd.kind,Nd.body,hlen]
 have hK:Hid (∀ p∈l,p.1.size<=96/\p.2<4294967296):=Hd λ p hp=>⟨hd.key _ (by simp [Nd.keys];exact ⟨_,hp⟩),hd.kid _ (by simp [Nd.kids];exact ⟨_,hp⟩)⟩
 rw [he] at hl ⊢
 obtain ⟨jS,hjS,hS0,hS1,hS2⟩:=info_parts zpJ
 obtain ⟨jN,hjN,hN0,hN1,hN2⟩:=info_parts zlo
 have TK:=Hd (zjt w.heap.size [78] _ (w.alloc (.cells #[.string (ofL ([78]++([UInt8.ofNat (l.length / 256),UInt8.ofNat l.length]++(l.flatMap ze6++pad)))),.bool false] 302)) (heap_alloc_new _ _) hl)
 rw [List.length_singleton,show ((1:Nat):Int)=1 from rfl,show ofL [78]=⟨#[78]⟩ from rfl] at TK
 have HL1:Hid (([UInt8.ofNat (l.length / 256),UInt8.ofNat l.length]++(l.flatMap ze6++pad)).length<=1000000):=Hd (by rw [zLa] at hl;omega)
 have HL2:Hid ((l.flatMap ze6++pad).length<=1000000):=Hd (by have:=HL1.out;rw [zLa] at this;omega)
 have HB2:Hid (beL [UInt8.ofNat (l.length / 256),UInt8.ofNat l.length]=l.length):=Hd (zlJ _ hn1)
 clear hl he hlen hd
 generalize ofL ([78]++([UInt8.ofNat (l.length / 256),UInt8.ofNat l.length]++(l.flatMap ze6++pad)))=s0 at *
 go_enter Tryz.func184,Tryz.ntmps184
 go_wp2_with fail
 refine (TK.out).mono ?_
 rintro e w1 ⟨rfl,H1⟩
 have P1:=Hd (zju (lf:=false) H1.out)
 have NM:=Hd (znL w.heap.size [UInt8.ofNat (l.length / 256),UInt8.ofNat l.length] (l.flatMap ze6++pad) _ P1.out.rd HL1.out (by simp))
 rw [HB2.out,show ([UInt8.ofNat (l.length / 256),UInt8.ofNat l.length].length:Nat)=2 from rfl,show ((2:Nat):Int)=2 from rfl] at NM
 clear TK H1 HL1 HB2
 go_wp2_with fail
 refine (NM.out).mono ?_
 rintro e w2 ⟨rfl,H2⟩
 have P2:=Hd (zkz P1.out H2.out)
 clear NM H2 P1
 generalize w1.heap.size=p at *
 generalize w.heap.size=r at *
 go_wp2_with fail
 go_loopg [18] l.length (λ g s18 wr=>zs3 w r p l pad g s18 wr)
 case atStart=>exact ⟨0,_,_,_,rfl,zNz _,rfl,by simpa using P2,by simpa using HL2⟩
 case round =>
  obtain ⟨i,vk,vv,vi,rfl,hi,rfl,HP,HLN⟩:=hrel
  clear P2 HL2
  by_cases hlt:i<l.length
  ·obtain ⟨kk,cc,hx⟩:∃ a b,l[i]=(a,b):=⟨_,_,rfl⟩
   have hsz:=hK.out _ (List.getElem_mem hlt)
   rw [hx] at hsz;dsimp only at hsz
   have hrest:(l.drop i).flatMap ze6++pad=[UInt8.ofNat kk.size]++(kk.data.toList++(be4 cc++((l.drop (i+1)).flatMap ze6++pad))):=by rw [zhv hlt,hx];simp [ze6]
   rw [hrest] at HP HLN
   have hk1:((l.take i).map Prod.fst).length<65536:=by simp;omega
   have hk2:((l.take i).map Prod.snd).length<65536:=by simp;omega
   have HN1:Hid ((l.take (i+1)).map Prod.fst=(l.take i).map Prod.fst++[kk]/\(l.take (i+1)).map Prod.snd=(l.take i).map Prod.snd++[cc]):=Hd (by rw [zTs hlt,hx];simp)
   have TX1:=Hd (zlI r _ _ _ wr.drew HP.out.rd HLN.out (by rw [UInt8.toNat_ofNat',<-Lib.size_eq];omega))
   rw [show ofL kk.data.toList=kk from rfl] at TX1
   have HLN2:Hid ((be4 cc++((l.drop (i+1)).flatMap ze6++pad)).length<=1000000):=Hd (by have:=HLN.out;simp only [zLa] at this ⊢;omega)
   have HLN3:Hid (((l.drop (i+1)).flatMap ze6++pad).length<=1000000):=Hd (by have:=HLN.out;simp only [zLa] at this ⊢;omega)
   have HA2:Hid (beL (be4 cc)=cc):=Hd (zpI cc hsz.2)
   have HLN_key:=Hd (And.intro (zdg hk1).1 (zdg hk1).2.1)
   have HLN_kid:=Hd (And.intro (zdg hk2).1 (zdg hk2).2.2)
   clear hrest hsz hk1 hk2 HLN hx hK
   generalize (l.take i).map Prod.fst=K at *
   generalize (l.take i).map Prod.snd=C at *
   have r1:wr.cell? ⟨r,1,none⟩=some (.bool false):=zaa HP.out.rd rfl
   obtain ⟨a_,m_,c_,ev⟩:=zan HP.out.ks
   subst ev
   have d1:wr.cell? ⟨p,1,none⟩=some (.slice a_ m_ c_):=zaa HP.out.blk rfl
   have lp:=zab HP.out.blk
   go_wp2_with fail
   go_region_law ((first
    | (refine zat (by rfl) _ _ _ (by rfl) (p+1) 9 jS _ 1 16 Tryz.underlying63 hjS hS0 hS1 hS2 rfl (by decide) _ _ _ (by rfl) (PA.out.ks.alloc _) _ 1 _ (by rfl) (zai _ #[.string kk] _ 1 1) rfl (zkk _ rfl) HLN_key.out.1 HLN_key.out.2 (zgF PA.out _) ?_
       intro px W5 ho5 hg5 ha5
       obtain ⟨xa,xm,xc,rfl⟩:=zan ho5
       have PK:=Hd (zo3 HP.out HU.out ho5 hg5 ha5)
       have g1:W5.cell? ⟨p,1,none⟩=some (.slice a_ m_ c_):=zaa PK.out.2 rfl
       have g2:=zad PK.out.2 1
       clear ho5 hg5 ha5)
    | (go_simp;go_at_call 223;refine Calls.at_args TX1.out (by with_reducible rfl) ?_;rintro e W3 ⟨rfl,H3⟩
       have HU:=Hd (And.intro H3.out.1 H3.out.2.drew_left)
       have PA:=Hd (zkz HP.out HU.out)
       have e3:W3.cell? ⟨p,1,none⟩=some (.slice a_ m_ c_):=zaa PA.out.blk rfl
       have l3:=zab PA.out.blk
       clear H3)))
   all_goals (
    have P3:=Hd PK.out.1
    clear PK PA HU HP d1 lp TX1
    generalize W5.setCell ⟨p,1,none⟩ (.slice xa xm xc)=W6 at *
    have d0:W6.cell? ⟨p,0,none⟩=some (.bool false):=zaa P3.out.blk rfl
    have TX2:=Hd (znL r (be4 cc) _ W6.drew P3.out.rd HLN2.out (by simp [be4]))
    rw [HA2.out,show ((be4 cc).length:Nat)=4 from rfl,show ((4:Nat):Int)=4 from rfl] at TX2
    clear r1 g1 g2
    obtain ⟨a_,m_,c_,ev⟩:=zan P3.out.is
    subst ev
    have d1:W6.cell? ⟨p,3,none⟩=some (.slice a_ m_ c_):=zaa P3.out.blk rfl
    have lp:=zab P3.out.blk
    go_wp2_with fail
    go_region_law ((first
     | (refine zat (by rfl) _ _ _ (by rfl) (p+1) 3 jN _ 1 8 Tryz.underlying191 hjN hN0 hN1 hN2 rfl (by decide) _ _ _ (by rfl) (PA.out.is.alloc _) _ 1 _ (by rfl) (zai _ #[.int .i64 (cc:Int)] _ 1 1) rfl (zkk _ rfl) HLN_kid.out.1 HLN_kid.out.2 (zgF PA.out _) ?_
        intro px W5 ho5 hg5 ha5
        obtain ⟨xa,xm,xc,rfl⟩:=zan ho5
        have PK:=Hd (zrm P3.out HU.out ho5 hg5 ha5)
        have g1:W5.cell? ⟨p,3,none⟩=some (.slice a_ m_ c_):=zaa PK.out.2 rfl
        have g2:=zad PK.out.2 3
        clear ho5 hg5 ha5)
     | (go_simp;go_at_call 222;refine Calls.at_args TX2.out (by with_reducible rfl) ?_;rintro e W3 ⟨rfl,H3⟩
        have HU:=Hd (And.intro H3.out.1 H3.out.2.drew_left)
        have PA:=Hd (zkz P3.out HU.out)
        have e3:W3.cell? ⟨p,3,none⟩=some (.slice a_ m_ c_):=zaa PA.out.blk rfl
        have l3:=zab PA.out.blk
        clear H3))))
   all_goals (
    have P4:=Hd PK.out.1
    clear PK PA HU P3 d1 lp TX2
    go_wp2_with fail
    go_roundg (l.length-(i+1)))
   all_goals (first|omega|exact ⟨i+1,_,_,_,rfl,by omega,by simp,by rw [HN1.out.1,HN1.out.2];exact P4,HLN3⟩)
  ·obtain rfl:i=l.length:=by omega
   have P5:PS w wr r p (Nd.inner l).isLeaf vk vv vi (Nd.inner l).keys (Nd.inner l).vals (Nd.inner l).kids (([]:List (ByteArray × Nat)).flatMap ze6++pad):=by
    have:=HP.out
    rw [List.take_length,List.drop_length] at this
    exact this
   have HE:=Hd P5.nd
   obtain ⟨a_,c_,ev⟩:=(zbu.of_own P5.ks).form
   rw [zLm,show (Nd.inner l).keys.length=l.length by simp [Nd.keys]] at ev
   subst ev
   have d0:wr.cell? ⟨p,0,none⟩=some (.bool false):=zaa P5.blk rfl
   have d1:wr.cell? ⟨p,1,none⟩=some (.slice a_ l.length c_):=zaa P5.blk rfl
   have r1:wr.cell? ⟨r,1,none⟩=some (.bool false):=zaa P5.rd rfl
   have hn2:(0:Int)<(l.length:Int):=by omega
   have hn3:decide ((l.length:Int) > 0)=true:=by simpa using hn2
   have hn4:decide ((0:Int)<(l.length:Int))=true:=by simpa using hn2
   clear HP HLN hK P5
   go_wp2_with fail
   go_quiet (fail)
   go_wp2_with fail
   go_ret2
   exact ⟨p,rfl,zjv HE _⟩
theorem zpK (d:Nd) (pad:List UInt8) (w:World) (hd:d.Ok) (hl:(d.bytes++pad).length<=1000000) :
 Calls Tryz.prog 184 #[.string (ofL (d.bytes++pad))] w λ e w'=>∃ p,e=.returned (.tuple #[.pointer (some ⟨p,0,none⟩),.bool true])/\Hid (∃ F,zc8 w' F p d/\(∀ k,F k->w.heap.size<=k)/\Below w.heap.size w w'):=by
 cases d with
 | leaf l=>exact zkA l pad w hd hl
 | inner l=>exact ziz l pad w hd hl
theorem zbu.below {w w':World} {v:Value} {xs:List Value} (h:zbu w v xs) (hb:Below w.heap.size w w'):zbu w' v xs:=by
 rcases h with h|⟨g,off,cap,rfl,hn,hc⟩
 ·exact .inl h
 ·refine .inr ⟨g,off,cap,rfl,hn,λ i hi=>?_⟩
  have:=hc i hi
  exact (zCb (hb.block _ (World.block_lt_of_cell? w _ this))).trans this
theorem NdV.below {w w':World} {p:Nat} {d:Nd} {vk vv vi:Value} (h:NdV w p d vk vv vi) (hb:Below w.heap.size w w'):NdV w' p d vk vv vi :=
 ⟨(hb.block p (zab h.blk)).trans h.blk,h.ks.below hb,h.vs.below hb,h.is.below hb⟩
def zbj (l:List UInt8):List Value:=l.map λ c=>Value.int .u8 (c.toNat:Int)
theorem zef (a b:List UInt8):zbj (a++b)=zbj a++zbj b:=by simp [zbj]
theorem zcv (s:ByteArray):Lib.strCells s=zbj s.data.toList:=by rw [Lib.strCells_eq];rfl
theorem zcO (n:Nat):IntKind.u8.wrap (n:Int)=((UInt8.ofNat n).toNat:Int):=by
 rw [UInt8.toNat_ofNat']
 simp [IntKind.wrap,IntKind.bits,IntKind.signed]
theorem zhw {w:World} {base:Nat} {v:Value} {n:Nat} {l:List UInt8} (h:w.ownsRow base 5 1 v n (zbj l)) :
 (convert 91 9 v).run Tryz.prog w=.ok (.string (ofL l)) w:=by
 have hl:l.length=n:=by have:=h.1;simpa [zbj] using this
 rcases h.2 with ⟨rfl,h0⟩|⟨g,cap,cur,rfl,-⟩
 ·have:l=[]:=List.eq_nil_of_length_eq_zero (by omega)
  subst this
  exact run_convert_bytes_nil w 91 5 Tryz.underlying91 Tryz.underlying5 0 0 9 Tryz.underlying9
 ·have:=run_convert_bytes_arg (P:=Tryz.prog) w 91 5 Tryz.underlying91 Tryz.underlying5 g 0 n cap (l.map λ c=>(c.toNat:Int)) (by simpa using hl) (λ i hi=>by
   rw [Nat.zero_add,h.cellAt i (by omega)]
   simp [zbj,hl,hi]) 9 Tryz.underlying9
  rw [this]
  congr 2
  apply ByteArray.ext
  simp only [strOfNums,List.map_map,ofL]
  rw [show ((λ n:Int=>UInt8.ofNat n.toNat) ∘ λ c:UInt8=>(c.toNat:Int))=id from funext λ c=>by simp]
  simp
structure TR (w wr:World) (v:Value) (l:List UInt8):Prop where
 row:wr.ownsRow w.heap.size 5 1 v l.length (zbj l)
 bel:Below w.heap.size w wr
theorem zdS {w wr W W':World} {v v':Value} {l m:List UInt8} (h:TR w wr v l) (hw:Below wr.heap.size wr W) (ho:W'.ownsRow w.heap.size 5 1 v' (l.length+m.length) (zbj l++zbj m)) (hg:W.grownBy W' v.ownBlock):TR w W' v' (l++m):=by
 refine ⟨by rw [zLa,zef];exact ho,?_⟩
 have h1:=h.bel.trans (hw.mono h.bel.size)
 exact h1.grown hg h1.size (λ k e=>(h.row.lt k e).1)
theorem zjw {w wr W:World} {v:Value} {l:List UInt8} (h:TR w wr v l) (hw:Below wr.heap.size wr W):W.ownsRow w.heap.size 5 1 v l.length (zbj l):=zap h.row λ k e=>hw.block k (h.row.lt k e).2
theorem ziA {n m:Nat} (h:n<=19000000) (h2:m<=100):n+m<=maxLen/\(n+m)*1<=140737488355328/\n+m<=140737488355328:=by unfold maxLen;omega
theorem znM (l:List (ByteArray × ByteArray)) (h:∀ p∈l,p.1.size<=96/\p.2.size<=56):(l.flatMap ze5).length<=154*l.length:=by
 induction l with
 | nil=>simp
 | cons p t ih =>
   have h1:=h p (by simp)
   have h2:=ih λ q hq=>h q (by simp [hq])
   rw [Lib.size_eq,Lib.size_eq] at h1
   simp only [List.flatMap_cons,zLa,zLc,ze5,List.length_nil]
   omega
theorem zeI {n:Nat} (h:n<=96):((UInt8.ofNat n).toNat:Int)=(n:Int):=by rw [UInt8.toNat_ofNat'];omega
theorem zjx {w wr:World} {a b c:Nat} {x y z:Int} (hb:Below w.heap.size w wr) (hx:x=((UInt8.ofNat a).toNat:Int)) (hy:y=((UInt8.ofNat b).toNat:Int)) (hz:z=((UInt8.ofNat c).toNat:Int)) :
 TR w (wr.alloc (.cells #[.int .u8 x,.int .u8 y,.int .u8 z] 5)) (.slice (some ⟨wr.heap.size,0,none⟩) 3 3) [UInt8.ofNat a,UInt8.ofNat b,UInt8.ofNat c]:=by
 subst hx hy hz
 refine ⟨?_,hb.alloc hb.size _⟩
 have:=World.ownsRow_lit (base:=w.heap.size) (e:=5) (size:=1) wr #[.int .u8 ((UInt8.ofNat a).toNat:Int),.int .u8 ((UInt8.ofNat b).toNat:Int),.int .u8 ((UInt8.ofNat c).toNat:Int)] 3 hb.size (by unfold maxLen;omega) rfl
 exact this
theorem zlK {w wr:World} {v:Value} {l:List UInt8} (h:TR w wr v l):TR w wr.drew v l:=⟨h.row,h.bel.drew⟩
theorem zeA (t u:TypeId) {P:Program} {w:World} {ops:Array Oper} {rest:List Oper} {o:Oper} {a:Act} {Q:Exit->Act->World->Prop}
 (ho:∃ s x,o.op=.call { callee:=.builtin .append,args:=#[s,x],argTypes:=#[t,u] }) (h:wpList P ops Q (o::rest) a w):wpList P ops Q (o::rest) a w:=h
theorem zlL (l:List (ByteArray × ByteArray)) (p:Nat) (vk vv vi:Value) (w:World) (hd:(Nd.leaf l).Ok) (h:NdV w p (.leaf l) vk vv vi) :
 Calls Tryz.prog 212 #[.pointer (some ⟨p,0,none⟩)] w λ e w'=>e=.returned (.string (ofL (Nd.leaf l).bytes))/\Below w.heap.size w w':=by
 have hlen:(Nd.leaf l).len=l.length:=by simp [Nd.len,Nd.keys]
 have hn0:=hd.pos
 have hn1:=hd.few
 rw [hlen] at hn0 hn1
 have hK:Hid (∀ p∈l,p.1.size<=96/\p.2.size<=56):=Hd λ p hp=>⟨hd.key _ (by simp [Nd.keys];exact ⟨_,hp⟩),hd.val _ (by simp [Nd.vals];exact ⟨_,hp⟩)⟩
 obtain ⟨g1,o1,cap1,ev1,hc1,hk1⟩:=h.ks.lit (by simp [Nd.keys];omega)
 obtain ⟨g2,o2,cap2,ev2,hc2,hv1⟩:=h.vs.lit (by simp [Nd.vals];omega)
 rw [zLm,show (Nd.leaf l).keys.length=l.length by simp [Nd.keys]] at ev1
 rw [zLm,show (Nd.leaf l).vals.length=l.length by simp [Nd.vals]] at ev2
 subst ev1 ev2
 have HB:Hid ((Nd.leaf l).bytes=[UInt8.ofNat 76,UInt8.ofNat (l.length / 256),UInt8.ofNat l.length]++l.flatMap ze5):=Hd (by simp [Nd.bytes,Nd.kind,Nd.body,hlen])
 have HC:Hid (∀ W,Below w.heap.size w W->W.cell? ⟨p,0,none⟩=some (.bool true)/\W.cell? ⟨p,1,none⟩=some (.slice (some ⟨g1,o1,none⟩) l.length cap1)/\W.cell? ⟨p,2,none⟩=some (.slice (some ⟨g2,o2,none⟩) l.length cap2)) :=
  Hd λ W hW=>⟨zaa (h.below hW).blk rfl,zaa (h.below hW).blk rfl,zaa (h.below hW).blk rfl⟩
 have HKC:Hid (∀ W i (hi:i<l.length),Below w.heap.size w W->W.cell? ⟨g1,o1+i,none⟩=some (.string l[i].1)/\W.cell? ⟨g2,o2+i,none⟩=some (.string l[i].2)) :=
  Hd λ W i hi hW=>by
   have a:=hk1 i (by simpa [Nd.keys] using hi)
   have b:=hv1 i (by simpa [Nd.vals] using hi)
   refine ⟨((zCb (hW.block _ (World.block_lt_of_cell? w _ a))).trans a).trans ?_,((zCb (hW.block _ (World.block_lt_of_cell? w _ b))).trans b).trans ?_⟩
   ·simp [Nd.keys]
   ·simp [Nd.vals]
 obtain ⟨jB,hjB,hB0,hB1,hB2⟩:=info_parts zra
 obtain ⟨c0,c1,c2⟩:=HC.out w (zBr _ _)
 have W1:=Hd (zcO (l.length / 256))
 have W2:=Hd (zcO l.length)
 rw [HB.out]
 clear h hk1 hv1 hc1 hc2 hd hlen
 go_enter Tryz.func212,Tryz.ntmps212
 go_wp2_with fail
 go_region_held3 (λ w'=>w'.cell? ⟨p,1,none⟩=some (.slice (some ⟨g1,o1,none⟩) l.length cap1)) (go_keep) (fail)
 have T0:=Hd (zlK (zjx (w:=w) (wr:=w) (a:=76) (b:=l.length / 256) (c:=l.length) (x:=76) (y:=IntKind.u8.wrap ((l.length:Int) / 256)) (z:=IntKind.u8.wrap (l.length:Int)) (zBr _ _) rfl (by rw [<-W1.out];rfl) W2.out))
 generalize (w.alloc (.cells #[.int .u8 76,.int .u8 (IntKind.u8.wrap ((l.length:Int) / 256)),.int .u8 (IntKind.u8.wrap (l.length:Int))] 5)).drew=W0 at *
 obtain ⟨c0',c1',c2'⟩:=HC.out W0 T0.out.bel
 clear W1 W2
 generalize IntKind.u8.wrap ((l.length:Int) / 256)=z1 at *
 generalize IntKind.u8.wrap (l.length:Int)=z2 at *
 go_wp2_with fail
 go_loopg [4,32] l.length (λ g s4 s32 wr=>∃ i,g=l.length-i/\i<=l.length/\s32=.int .i64 (i:Nat)/\Hid (TR w wr s4 ([UInt8.ofNat 76,UInt8.ofNat (l.length / 256),UInt8.ofNat l.length]++(l.take i).flatMap ze5)))
 case atStart=>exact ⟨0,rfl,zNz _,rfl,by simpa using T0⟩
 case round =>
  obtain ⟨i,rfl,hi,rfl,HT⟩:=hrel
  clear T0 c0 c1 c2 c0' c1' c2'
  by_cases hlt:i<l.length
  ·have hsz:=hK.out _ (List.getElem_mem hlt)
   obtain ⟨d0,d1,d2⟩:=HC.out wr HT.out.bel
   obtain ⟨d3,d4⟩:=HKC.out wr i hlt HT.out.bel
   obtain ⟨x1,hx1⟩:=exE (l[i].1)
   obtain ⟨x2,hx2⟩:=exE (l[i].2)
   have HX2:=Hd hx2
   rw [hx1] at d3 hsz
   rw [hx2] at d4 hsz
   have HQ:Hid (([UInt8.ofNat 76,UInt8.ofNat (l.length / 256),UInt8.ofNat l.length]++(l.take i).flatMap ze5).length<=18000000):=Hd (by
    have:=znM (l.take i) λ q hq=>hK.out q (List.mem_of_mem_take hq)
    simp at this ⊢;omega)
   have HN:Hid ([UInt8.ofNat 76,UInt8.ofNat (l.length / 256),UInt8.ofNat l.length]++(l.take (i+1)).flatMap ze5=([UInt8.ofNat 76,UInt8.ofNat (l.length / 256),UInt8.ofNat l.length]++(l.take i).flatMap ze5)++[UInt8.ofNat x1.size]++x1.data.toList++[UInt8.ofNat x2.size]++x2.data.toList):=Hd (by
    rw [zTs hlt,List.flatMap_append,<-hx1,<-hx2];simp [ze5])
   have E1:=Hd (zeI hsz.1)
   have E2:=Hd (zeI (show x2.size<=96 by omega))
   have s1:=hsz.1
   have s2:=hsz.2
   generalize [UInt8.ofNat 76,UInt8.ofNat (l.length / 256),UInt8.ofNat l.length]++(l.take i).flatMap ze5=q at *
   have L1:=Hd (ziA (n:=q.length) (m:=1) (by have:=HQ.out;omega) (by omega))
   clear hK hx1 hx2 hsz
   go_wp2_with (first
    | (refine zeA 91 9 ⟨_,_,by with_reducible rfl⟩ ?_
       refine Lib.wpList_append_own_string _ (by rfl) _ _ _ _ rfl w.heap.size 5 jB Tryz.underlying91 Tryz.underlying9 hjB hB0 hB1 hB2 _ _ _ (by rfl) T3.out.row x2 (by rfl) L4.out.1 L4.out.2.2 T3.out.bel.size ?_
       intro v4 Y4 ho4 hg4 ha4
       have T4:Hid (TR w Y4 v4 (q++[UInt8.ofNat x1.size]++x1.data.toList++[UInt8.ofNat x2.size]++x2.data.toList)):=Hd (zdS T3.out (zBr _ _) (by rw [<-zcv,<-Lib.size_eq];exact ho4) hg4)
       clear ho4 hg4 ha4)
    | (refine zeA 91 91 ⟨_,_,by with_reducible rfl⟩ ?_
       refine zag (by rfl) _ _ _ rfl w.heap.size 5 jB _ 1 1 Tryz.underlying91 hjB hB0 hB1 hB2 rfl (by decide) _ _ _ (by rfl) (zjw T2.out ((zBr _ _).alloc (zNr _) _)) _ 1 _ (by rfl) (zai _ #[.int .u8 (x2.size:Int)] _ 1 1) rfl (zkk _ rfl) L3.out.1 L3.out.2.1 (T2.out.bel.alloc T2.out.bel.size _).size ?_
       intro v3 Y3 ho3 hg3 ha3
       have T3:Hid (TR w Y3 v3 (q++[UInt8.ofNat x1.size]++x1.data.toList++[UInt8.ofNat x2.size])):=Hd (zdS T2.out ((zBr _ _).alloc (zNr _) _) (by simp only [zbj,List.map_cons,List.map_nil,E2.out];exact ho3) hg3)
       have L4:=Hd (ziA (n:=(q++[UInt8.ofNat x1.size]++x1.data.toList++[UInt8.ofNat x2.size]).length) (m:=x2.size) (by have:=HQ.out;simp only [zLa,zLc,List.length_nil,<-Lib.size_eq];omega) (by omega))
       have f5:=(HC.out Y3 T3.out.bel).2.2
       have f6:Y3.cell? ⟨g2,o2+i,none⟩=some (.string x2):=by have:=(HKC.out Y3 i hlt T3.out.bel).2;rwa [HX2.out] at this
       clear ho3 hg3 ha3)
    | (refine zeA 91 9 ⟨_,_,by with_reducible rfl⟩ ?_
       refine Lib.wpList_append_own_string _ (by rfl) _ _ _ _ rfl w.heap.size 5 jB Tryz.underlying91 Tryz.underlying9 hjB hB0 hB1 hB2 _ _ _ (by rfl) T1.out.row x1 (by rfl) L2.out.1 L2.out.2.2 T1.out.bel.size ?_
       intro v2 Y2 ho2 hg2 ha2
       have T2:Hid (TR w Y2 v2 (q++[UInt8.ofNat x1.size]++x1.data.toList)):=Hd (zdS T1.out (zBr _ _) (by rw [<-zcv,<-Lib.size_eq];exact ho2) hg2)
       have L3:=Hd (ziA (n:=(q++[UInt8.ofNat x1.size]++x1.data.toList).length) (m:=1) (by have:=HQ.out;simp only [zLa,zLc,List.length_nil,<-Lib.size_eq];omega) (by omega))
       have f0:=(HC.out Y2 T2.out.bel).1
       have f2:=(HC.out Y2 T2.out.bel).2.2
       have f4:Y2.cell? ⟨g2,o2+i,none⟩=some (.string x2):=by have:=(HKC.out Y2 i hlt T2.out.bel).2;rwa [HX2.out] at this
       clear ho2 hg2 ha2)
    | (refine zeA 91 91 ⟨_,_,by with_reducible rfl⟩ ?_
       refine zag (by rfl) _ _ _ rfl w.heap.size 5 jB _ 1 1 Tryz.underlying91 hjB hB0 hB1 hB2 rfl (by decide) _ _ _ (by rfl) (zjw HT.out ((zBr _ _).alloc (zNr _) _)) _ 1 _ (by rfl) (zai _ #[.int .u8 (x1.size:Int)] _ 1 1) rfl (zkk _ rfl) L1.out.1 L1.out.2.1 (HT.out.bel.alloc HT.out.bel.size _).size ?_
       intro v1 Y1 ho1 hg1 ha1
       have T1:Hid (TR w Y1 v1 (q++[UInt8.ofNat x1.size])):=Hd (zdS HT.out ((zBr _ _).alloc (zNr _) _) (by simp only [zbj,List.map_cons,List.map_nil,E1.out];exact ho1) hg1)
       have L2:=Hd (ziA (n:=(q++[UInt8.ofNat x1.size]).length) (m:=x1.size) (by have:=HQ.out;simp;omega) (by omega))
       clear ho1 hg1 ha1))
   go_roundg (l.length-(i+1))
   case measure=>omega
   case rel=>exact ⟨i+1,rfl,by omega,by simp,by rw [HN.out];exact T4⟩
  ·obtain rfl:i=l.length:=by omega
   have hcv:=zhw HT.out.row
   have HB3:=Hd HT.out.bel
   rw [List.take_length] at hcv
   clear HT hK HKC
   go_wp2_with fail
   go_ret
   exact ⟨rfl,HB3.out⟩
theorem znN (l:List (ByteArray × Nat)) (h:∀ p∈l,p.1.size<=96/\p.2<4294967296):(l.flatMap ze6).length<=154*l.length:=by
 induction l with
 | nil=>simp
 | cons p t ih =>
   have h1:=h p (by simp)
   have h2:=ih λ q hq=>h q (by simp [hq])
   rw [Lib.size_eq] at h1
   simp only [List.flatMap_cons,zLa,zLc,ze6,be4,List.length_nil]
   omega
theorem zs4 (a b c d:Value) (ha:a.oneCell'=true) (hb:b.oneCell'=true) (hc:c.oneCell'=true) (hd:d.oneCell'=true):∀ u∈[a,b,c,d],u.oneCell'=true:=by
 intro u hu;simp at hu;rcases hu with rfl|rfl|rfl|rfl <;> assumption
theorem zlM (c:Nat) (h:c<4294967296):zbj (be4 c)=[.int .u8 ((c:Int) / 16777216),.int .u8 ((c:Int) / 65536%256),.int .u8 ((c:Int) / 256%256),.int .u8 ((c:Int)%256)]:=by
 have e:∀ n:Nat,((UInt8.ofNat n).toNat:Int)=((n%256:Nat):Int):=λ n=>by rw [UInt8.toNat_ofNat']
 have e1:((c / 16777216%256:Nat):Int)=(c:Int) / 16777216:=by omega
 have e2:((c / 65536%256:Nat):Int)=(c:Int) / 65536%256:=by omega
 have e3:((c / 256%256:Nat):Int)=(c:Int) / 256%256:=by omega
 have e4:((c%256:Nat):Int)=(c:Int)%256:=by omega
 simp only [zbj,be4,List.map_cons,List.map_nil,e,e1,e2,e3,e4]
theorem zkB (l:List (ByteArray × Nat)) (p:Nat) (vk vv vi:Value) (w:World) (hd:(Nd.inner l).Ok) (h:NdV w p (.inner l) vk vv vi) :
 Calls Tryz.prog 212 #[.pointer (some ⟨p,0,none⟩)] w λ e w'=>e=.returned (.string (ofL (Nd.inner l).bytes))/\Below w.heap.size w w':=by
 have hlen:(Nd.inner l).len=l.length:=by simp [Nd.len,Nd.keys]
 have hn0:=hd.pos
 have hn1:=hd.few
 rw [hlen] at hn0 hn1
 have hK:Hid (∀ p∈l,p.1.size<=96/\p.2<4294967296):=Hd λ p hp=>⟨hd.key _ (by simp [Nd.keys];exact ⟨_,hp⟩),hd.kid _ (by simp [Nd.kids];exact ⟨_,hp⟩)⟩
 obtain ⟨g1,o1,cap1,ev1,hc1,hk1⟩:=h.ks.lit (by simp [Nd.keys];omega)
 obtain ⟨g2,o2,cap2,ev2,hc2,hv1⟩:=h.is.lit (by simp [Nd.kids];omega)
 rw [zLm,show (Nd.inner l).keys.length=l.length by simp [Nd.keys]] at ev1
 rw [zLm,show (Nd.inner l).kids.length=l.length by simp [Nd.kids]] at ev2
 subst ev1 ev2
 have HB:Hid ((Nd.inner l).bytes=[UInt8.ofNat 78,UInt8.ofNat (l.length / 256),UInt8.ofNat l.length]++l.flatMap ze6):=Hd (by simp [Nd.bytes,Nd.kind,Nd.body,hlen])
 have HC:Hid (∀ W,Below w.heap.size w W->W.cell? ⟨p,0,none⟩=some (.bool false)/\W.cell? ⟨p,1,none⟩=some (.slice (some ⟨g1,o1,none⟩) l.length cap1)/\W.cell? ⟨p,3,none⟩=some (.slice (some ⟨g2,o2,none⟩) l.length cap2)) :=
  Hd λ W hW=>⟨zaa (h.below hW).blk rfl,zaa (h.below hW).blk rfl,zaa (h.below hW).blk rfl⟩
 have HKC:Hid (∀ W i (hi:i<l.length),Below w.heap.size w W->W.cell? ⟨g1,o1+i,none⟩=some (.string l[i].1)/\W.cell? ⟨g2,o2+i,none⟩=some (.int .i64 (l[i].2:Int))) :=
  Hd λ W i hi hW=>by
   have a:=hk1 i (by simpa [Nd.keys] using hi)
   have b:=hv1 i (by simpa [Nd.kids] using hi)
   refine ⟨((zCb (hW.block _ (World.block_lt_of_cell? w _ a))).trans a).trans ?_,((zCb (hW.block _ (World.block_lt_of_cell? w _ b))).trans b).trans ?_⟩
   ·simp [Nd.keys]
   ·simp [Nd.kids]
 obtain ⟨jB,hjB,hB0,hB1,hB2⟩:=info_parts zra
 obtain ⟨c0,c1,c2⟩:=HC.out w (zBr _ _)
 have W1:=Hd (zcO (l.length / 256))
 have W2:=Hd (zcO l.length)
 rw [HB.out]
 clear h hk1 hv1 hc1 hc2 hd hlen
 go_enter Tryz.func212,Tryz.ntmps212
 go_wp2_with fail
 go_region_held3 (λ w'=>w'.cell? ⟨p,1,none⟩=some (.slice (some ⟨g1,o1,none⟩) l.length cap1)) (go_keep) (fail)
 have T0:=Hd (zlK (zjx (w:=w) (wr:=w) (a:=78) (b:=l.length / 256) (c:=l.length) (x:=78) (y:=IntKind.u8.wrap ((l.length:Int) / 256)) (z:=IntKind.u8.wrap (l.length:Int)) (zBr _ _) rfl (by rw [<-W1.out];rfl) W2.out))
 generalize (w.alloc (.cells #[.int .u8 78,.int .u8 (IntKind.u8.wrap ((l.length:Int) / 256)),.int .u8 (IntKind.u8.wrap (l.length:Int))] 5)).drew=W0 at *
 obtain ⟨c0',c1',c2'⟩:=HC.out W0 T0.out.bel
 clear W1 W2
 generalize IntKind.u8.wrap ((l.length:Int) / 256)=z1 at *
 generalize IntKind.u8.wrap (l.length:Int)=z2 at *
 go_wp2_with fail
 go_loopg [4,32] l.length (λ g s4 s32 wr=>∃ i,g=l.length-i/\i<=l.length/\s32=.int .i64 (i:Nat)/\Hid (TR w wr s4 ([UInt8.ofNat 78,UInt8.ofNat (l.length / 256),UInt8.ofNat l.length]++(l.take i).flatMap ze6)))
 case atStart=>exact ⟨0,rfl,zNz _,rfl,by simpa using T0⟩
 case round =>
  obtain ⟨i,rfl,hi,rfl,HT⟩:=hrel
  clear T0 c0 c1 c2 c0' c1' c2'
  by_cases hlt:i<l.length
  ·have hsz:=hK.out _ (List.getElem_mem hlt)
   obtain ⟨d0,d1,d2⟩:=HC.out wr HT.out.bel
   obtain ⟨d3,d4⟩:=HKC.out wr i hlt HT.out.bel
   obtain ⟨x1,hx1⟩:=exE (l[i].1)
   obtain ⟨x2,hx2⟩:=exE (l[i].2)
   have HX2:=Hd hx2
   rw [hx1] at d3 hsz
   rw [hx2] at d4 hsz
   have HQ:Hid (([UInt8.ofNat 78,UInt8.ofNat (l.length / 256),UInt8.ofNat l.length]++(l.take i).flatMap ze6).length<=18000000):=Hd (by
    have:=znN (l.take i) λ q hq=>hK.out q (List.mem_of_mem_take hq)
    simp at this ⊢;omega)
   have HN:Hid ([UInt8.ofNat 78,UInt8.ofNat (l.length / 256),UInt8.ofNat l.length]++(l.take (i+1)).flatMap ze6=([UInt8.ofNat 78,UInt8.ofNat (l.length / 256),UInt8.ofNat l.length]++(l.take i).flatMap ze6)++[UInt8.ofNat x1.size]++x1.data.toList++be4 x2):=Hd (by
    rw [zTs hlt,List.flatMap_append,<-hx1,<-hx2];simp [ze6])
   have E1:=Hd (zeI hsz.1)
   have E2:=Hd (zlM x2 hsz.2)
   have s1:=hsz.1
   have s2:=hsz.2
   generalize [UInt8.ofNat 78,UInt8.ofNat (l.length / 256),UInt8.ofNat l.length]++(l.take i).flatMap ze6=q at *
   have L1:=Hd (ziA (n:=q.length) (m:=1) (by have:=HQ.out;omega) (by omega))
   clear hK hx1 hx2 hsz
   go_wp2_with (first
    | (refine zeA 91 91 ⟨_,_,by with_reducible rfl⟩ ?_
       refine zag (by rfl) _ _ _ rfl w.heap.size 5 jB _ 1 1 Tryz.underlying91 hjB hB0 hB1 hB2 rfl (by decide) _ _ _ (by rfl) (zjw T2.out ((zBr _ _).alloc (zNr _) _)) _ 4 _ (by rfl) (zai _ #[.int .u8 ((x2:Int) / 16777216),.int .u8 ((x2:Int) / 65536%256),.int .u8 ((x2:Int) / 256%256),.int .u8 ((x2:Int)%256)] _ 4 4) rfl (zs4 _ _ _ _ rfl rfl rfl rfl) L3.out.1 L3.out.2.1 (T2.out.bel.alloc T2.out.bel.size _).size ?_
       intro v3 Y3 ho3 hg3 ha3
       have T3:Hid (TR w Y3 v3 (q++[UInt8.ofNat x1.size]++x1.data.toList++be4 x2)):=Hd (zdS T2.out ((zBr _ _).alloc (zNr _) _) (by rw [E2.out];exact ho3) hg3)
       clear ho3 hg3 ha3)
    | (refine zeA 91 9 ⟨_,_,by with_reducible rfl⟩ ?_
       refine Lib.wpList_append_own_string _ (by rfl) _ _ _ _ rfl w.heap.size 5 jB Tryz.underlying91 Tryz.underlying9 hjB hB0 hB1 hB2 _ _ _ (by rfl) T1.out.row x1 (by rfl) L2.out.1 L2.out.2.2 T1.out.bel.size ?_
       intro v2 Y2 ho2 hg2 ha2
       have T2:Hid (TR w Y2 v2 (q++[UInt8.ofNat x1.size]++x1.data.toList)):=Hd (zdS T1.out (zBr _ _) (by rw [<-zcv,<-Lib.size_eq];exact ho2) hg2)
       have L3:=Hd (ziA (n:=(q++[UInt8.ofNat x1.size]++x1.data.toList).length) (m:=4) (by have:=HQ.out;simp only [zLa,zLc,List.length_nil,<-Lib.size_eq];omega) (by omega))
       have f0:=(HC.out Y2 T2.out.bel).1
       have f2:=(HC.out Y2 T2.out.bel).2.2
       have f4:Y2.cell? ⟨g2,o2+i,none⟩=some (.int .i64 (x2:Int)):=by have:=(HKC.out Y2 i hlt T2.out.bel).2;rwa [HX2.out] at this
       clear ho2 hg2 ha2)
    | (refine zeA 91 91 ⟨_,_,by with_reducible rfl⟩ ?_
       refine zag (by rfl) _ _ _ rfl w.heap.size 5 jB _ 1 1 Tryz.underlying91 hjB hB0 hB1 hB2 rfl (by decide) _ _ _ (by rfl) (zjw HT.out ((zBr _ _).alloc (zNr _) _)) _ 1 _ (by rfl) (zai _ #[.int .u8 (x1.size:Int)] _ 1 1) rfl (zkk _ rfl) L1.out.1 L1.out.2.1 (HT.out.bel.alloc HT.out.bel.size _).size ?_
       intro v1 Y1 ho1 hg1 ha1
       have T1:Hid (TR w Y1 v1 (q++[UInt8.ofNat x1.size])):=Hd (zdS HT.out ((zBr _ _).alloc (zNr _) _) (by simp only [zbj,List.map_cons,List.map_nil,E1.out];exact ho1) hg1)
       have L2:=Hd (ziA (n:=(q++[UInt8.ofNat x1.size]).length) (m:=x1.size) (by have:=HQ.out;simp;omega) (by omega))
       clear ho1 hg1 ha1))
   go_roundg (l.length-(i+1))
   case measure=>omega
   case rel=>exact ⟨i+1,rfl,by omega,by simp,by rw [HN.out];exact T3⟩
  ·obtain rfl:i=l.length:=by omega
   have hcv:=zhw HT.out.row
   have HB3:=Hd HT.out.bel
   rw [List.take_length] at hcv
   clear HT hK HKC
   go_wp2_with fail
   go_ret
   exact ⟨rfl,HB3.out⟩
def wrA (cur:Array Value) (o:Nat):List Value->Array Value
 | []=>cur
 | v::r=>wrA (cur.setIfInBounds o v) (o+1) r
theorem zbp:∀ (vs:List Value) (o:Nat) (cur:Array Value),(wrA cur o vs).size=cur.size
 | [],o,cur=>rfl
 | v::r,o,cur=>by rw [wrA,zbp r];simp
theorem zaL:∀ (vs:List Value) (o:Nat) (cur:Array Value) (X Y Z:List Value),cur.toList=X++Y++Z->X.length=o->Y.length=vs.length->(wrA cur o vs).toList=X++vs++Z
 | [],o,cur,X,Y,Z,h,hX,hY=>by
   obtain rfl:Y=[]:=List.eq_nil_of_length_eq_zero hY
   exact h
 | v::r,o,cur,X,Y,Z,h,hX,hY=>by
   cases Y with
   | nil=>simp at hY
   | cons y Y =>
     rw [wrA,zaL r (o+1) (cur.setIfInBounds o v) (X++[v]) Y Z ?_ (by simp [hX]) (by simpa using hY)]
     ·simp
     ·rw [Array.toList_setIfInBounds,h,<-hX];simp
theorem zaw (b:Nat) {e:TypeId} {fr:Nat × Nat}:∀ (vs:List Value) (o:Nat) (w:World) (cur:Array Value),w.heap[b]?=some (.cells cur e fr)->(w.setCells b o vs).heap[b]?=some (.cells (wrA cur o vs) e fr)
 | [],o,w,cur,h=>h
 | v::r,o,w,cur,h=>zaw b r (o+1) _ _ (zac h v)
theorem Upd.setCells {S:Nat->Prop} {a:World} {b:Nat} (hb:S b\/a.heap.size<=b):∀ (vs:List Value) (o:Nat) {w:World},Upd S a w->Upd S a (w.setCells b o vs)
 | [],o,w,h=>h
 | v::r,o,w,h=>Upd.setCells hb r (o+1) (h.setCell (p:=⟨b,o,none⟩) hb v)
theorem zeg {w:World} {b:Nat} {cs:Array Value} {T:TypeId} {fr:Nat × Nat} (h:w.heap[b]?=some (.cells cs T fr)):w.shape? b=some (T,cs.size):=by simp [World.shape?,h]
theorem zcw {w:World} {base:Nat} {e:TypeId} {n:Nat} {g cap:Nat} {xs:List Value} (h:w.ownsRow base e 1 (.slice (some ⟨g,0,none⟩) n cap) n xs):∃ cur,w.heap[g]?=some (.cells cur e (0,0))/\base<=g/\n<=cap/\cap<=maxLen/\cur.size=cap/\cur.toList.take n=xs/\xs.length=n/\∃ Z,cur.toList=xs++Z/\Z.length=cap-n:=by
 obtain ⟨h1,h⟩:=h
 rcases h with ⟨h,-⟩|⟨g',cap',cur,e',h2,h3,h4,h5,h6,h7⟩
 ·cases h
 ·cases e'
  refine ⟨cur,h3,h2,h4,h5,by omega,by simpa using h7,by omega,cur.toList.drop n,?_,?_⟩
  ·rw [<-h7,Nat.mul_one,List.take_append_drop]
  ·rw [List.length_drop,Array.length_toList];omega
theorem zeh {w:World} {base:Nat} {e:TypeId} {n:Nat} {g cap:Nat} {xs Z:List Value} {cur:Array Value} (h:w.heap[g]?=some (.cells cur e (0,0))) (hb:base<=g) (hn:n<=cap) (hm:cap<=maxLen) (hs:cur.size=cap) (hc:cur.toList=xs++Z) (hx:xs.length=n):w.ownsRow base e 1 (.slice (some ⟨g,0,none⟩) n cap) n xs :=
 ⟨by omega,.inr ⟨g,cap,cur,rfl,hb,h,hn,hm,by omega,by rw [hc,Nat.mul_one,<-hx,List.take_left]⟩⟩
def zei (e:TypeId) (base:Nat) (v:Value) (n:Nat) (xs:List Value) (w:World) (v':Value) (w':World):Prop :=
 w'.ownsRow base e 1 v' (n+1) xs/\Upd (λ k=>v.ownBlock=some k) w w'/\∀ k,v'.ownBlock=some k->v.ownBlock=some k\/w.heap.size<=k
theorem zfo {w:World} {e:TypeId} {base n:Nat} {xs:List Value} {cur:Array Value} {v:Value} {c:Nat} (hb:base<=w.heap.size) (hn:n+1<=maxLen) (T:Nat) (hT:T=grownCap w (n+1) c e) (hs:cur.size=T) (hx:xs.length=n+1) (Z:List Value) (hc:cur.toList=xs++Z) :
 zei e base v n xs w (.slice (some ⟨w.heap.size,0,none⟩) (n+1) T) (w.drew.alloc (.cells cur e)):=by
 have h1:=grownCap_ge w (n+1) c e
 have h2:=grownCap_le_maxLen w (n+1) c e hn
 refine ⟨zeh (heap_alloc_new _ _) hb (by omega) (by omega) hs hc hx,((Upd.refl _ _).drew).alloc _,λ k hk=>.inr ?_⟩
 simp [Value.ownBlock] at hk;omega
theorem zlN (base n:Nat) (v:Value) (A B:List Value) (x:Value) (vb:Nat) (w:World) (h:w.ownsRow base 9 1 v n (A++B)) (hB:base<=w.heap.size) (hn:n<=100000) (h1:∀ y∈A++B,y.oneCell'=true) (hx:x.oneCell'=true)
 (hvb:w.heap[vb]?=some (.cells #[x] 9 (0,0))) (hne:v.ownBlock≠some vb) :
 Calls Tryz.prog 213 #[v,.int .i64 (A.length:Nat),.slice (some ⟨vb,0,none⟩) 1 1] w λ e w'=>∃ v',e=.returned v'/\Hid (zei 9 base v n (A++x::B) w v' w'):=by
 have hlen:(A++B).length=n:=by have:=h.1;omega
 have hlen2:(A++x::B).length=n+1:=by simp at hlen ⊢;omega
 have hml:n+1<=maxLen:=by unfold maxLen;omega
 have hvs:∀ j u,([x]:List Value)[j]?=some u->w.cell? ⟨vb,0+j,none⟩=some u:=λ j u hj=>by
  rw [Nat.zero_add];exact zaa hvb (by simpa using hj)
 have h1v:∀ u∈([x]:List Value),u.oneCell'=true:=λ u hu=>by simp at hu;rw [hu];exact hx
 rcases hB0:B with _|⟨y,B'⟩
 ·subst hB0
  have hA:A.length=n:=by simpa using hlen
  rw [List.append_nil] at h h1 hlen
  rw [hA]
  rcases h.2 with ⟨rfl,h0⟩|⟨g,cap,cur0,rfl,-⟩
  ·subst h0
   obtain rfl:A=[]:=List.eq_nil_of_length_eq_zero hA
   refine (Any2.slices_Insert_string_end_grow Tryz.laysNm222 none 0 0 vb 0 1 1 [] [x] w (by omega) (by omega) (by omega) (by omega) rfl rfl (λ _=>rfl) (λ a e=>by cases e) hvs h1v).mono ?_
   rintro e w' ⟨rfl,rfl⟩
   refine ⟨_,rfl,zfo hB (by unfold maxLen;omega) _ rfl ?_ (by simp) _ (by simp;rfl)⟩
   have:=grownCap_ge w (0+1) 0 9
   simp only [Array.size_append,List.size_toArray,size_zeroCells,zLa,zLc,List.length_nil]
   show 0+(0+1)+(grownCap w (0+1) 0 9-(0+1))*1=grownCap w (0+1) 0 9
   omega
  ·obtain ⟨cur,g1,g2,g3,g4,g5,g6,g7,Z,g8,g9⟩:=zcw h
   have hcs:∀ j u,A[j]?=some u->w.cell? ⟨g,0+j,none⟩=some u:=λ j u hj=>by
    rw [Nat.zero_add];refine zaa g1 ?_
    rw [<-Array.getElem?_toList,g8,List.getElem?_append_left (List.getElem?_eq_some_iff.1 hj).1];exact hj
   by_cases hroom:n+1<=cap
   ·refine (Any2.slices_Insert_string_end_room Tryz.laysNm222 g 0 n cap vb 0 1 1 [x] w (by omega) hroom (by unfold maxLen at g4;omega) rfl (λ j hj=>?_) (λ j hj=>zad g1 _) hvs h1v).mono ?_
    ·obtain rfl:j=0:=by omega
     have:n<cur.size:=by omega
     simp [World.cell?,g1,this]
    ·rintro e w' ⟨rfl,rfl⟩
     rw [Nat.zero_add]
     cases Z with
     | nil=>simp at g9;omega
     | cons z Z =>
       refine ⟨_,rfl,zeh (zaw g [x] n w cur g1) g2 hroom g4 (by rw [zbp];exact g5) (Z:=Z) ?_ hlen2,Upd.setCells (S:=λ k=>(Value.slice (some (⟨g,0,none⟩:Addr)) n cap).ownBlock=some k) (b:=g) (.inl rfl) _ _ (Upd.refl _ _),λ k hk=>.inl hk⟩
       exact (zaL [x] n cur A [z] Z (by rw [g8];simp) hA rfl).trans (by simp)
   ·refine (Any2.slices_Insert_string_end_grow Tryz.laysNm222 (some ⟨g,0,none⟩) n cap vb 0 1 1 A [x] w (by omega) g3 (by omega) (by omega) hA rfl (λ e=>by cases e) (λ a e j u hj=>by cases e;rw [Addr.add_lit];exact hcs j u hj) hvs h1v).mono ?_
    rintro e w' ⟨rfl,rfl⟩
    refine ⟨_,rfl,zfo hB hml _ rfl ?_ hlen2 _ (by simp;rfl)⟩
    have:=grownCap_ge w (n+1) cap 9
    simp only [Array.size_append,List.size_toArray,size_zeroCells,zLa,hA,zLc,List.length_nil]
    show n+(0+1)+(grownCap w (n+1) cap 9-(n+1))*1=grownCap w (n+1) cap 9
    omega
 ·subst hB0
  have hi:A.length<n:=by simp at hlen;omega
  rcases h.2 with ⟨rfl,h0⟩|⟨g,cap,cur0,rfl,-⟩
  ·omega
  ·obtain ⟨cur,g1,g2,g3,g4,g5,g6,g7,Z,g8,g9⟩:=zcw h
   have hgv:vb≠g:=λ e=>hne (by rw [e];rfl)
   have hcs:∀ j u,(A++y::B')[j]?=some u->w.cell? ⟨g,0+j,none⟩=some u:=λ j u hj=>by
    rw [Nat.zero_add];refine zaa g1 ?_
    rw [<-Array.getElem?_toList,g8,List.getElem?_append_left (List.getElem?_eq_some_iff.1 hj).1];exact hj
   have hdr:(A++y::B').drop A.length=y::B':=by simp
   have htk:(A++y::B').take A.length=A:=by simp
   by_cases hroom:n+1<=cap
   ·refine (Any2.slices_Insert_string_shift Tryz.laysNm222 g 0 n cap A.length vb 0 1 1 (A++y::B') [x] w hi (by omega) hroom (by unfold maxLen at g4;omega) hgv hlen rfl hcs (λ j hj=>?_) (λ j hj=>zad g1 _) hvs h1 h1v _ _ _ _ (zeg hvb) (zeg g1) (by omega) (zad hvb _) (zad hvb _)).mono ?_
    ·have:0+j<cur.size:=by omega
     simp at this
     simp [World.cell?,g1,this]
    ·rintro e w' ⟨rfl,rfl⟩
     rw [hdr,Nat.zero_add,Nat.zero_add]
     cases Z with
     | nil=>simp at g9;omega
     | cons z Z =>
       have a1:(w.drew.setCells g (A.length+1) (y::B')).heap[g]?=_:=zaw g (y::B') (A.length+1) w.drew cur g1
       have a2:=zaw g [x] A.length _ _ a1
       refine ⟨_,rfl,zeh a2 g2 hroom g4 (by rw [zbp,zbp];exact g5) (Z:=Z) ?_ hlen2,Upd.setCells (S:=λ k=>(Value.slice (some (⟨g,0,none⟩:Addr)) n cap).ownBlock=some k) (b:=g) (.inl rfl) _ _ (Upd.setCells (S:=λ k=>(Value.slice (some (⟨g,0,none⟩:Addr)) n cap).ownBlock=some k) (b:=g) (.inl rfl) _ _ (Upd.refl _ _).drew),λ k hk=>.inl hk⟩
       have b1:(wrA cur (A.length+1) (y::B')).toList=(A++[y])++(y::B')++Z:=by
        refine zaL (y::B') (A.length+1) cur (A++[y]) (B'++[z]) Z (by rw [g8];simp) (by simp) (by simp)
       exact (zaL [x] A.length _ A [y] (y::B'++Z) (by rw [b1];simp) rfl rfl).trans (by simp)
   ·refine (Any2.slices_Insert_string_grow Tryz.laysNm222 g 0 n cap A.length vb 0 1 1 (A++y::B') [x] w hi (by omega) g3 (by omega) (by omega) hlen rfl hcs hvs h1 h1v).mono ?_
    rintro e w' ⟨rfl,rfl⟩
    rw [hdr,htk]
    have c1:=grownCap_ge w (n+1) cap 9
    have c2:=grownCap_le_maxLen w (n+1) cap 9 hml
    change ∃ v',_=_/\Hid (zei 9 base _ n _ w v' ((((w.alloc (.cells (A.toArray++Builtin.zeroCells (Value.string ⟨#[]⟩).cells (n+1-A.length)++Builtin.zeroCells (Value.string ⟨#[]⟩).cells (grownCap w (n+1) cap 9-(n+1))) 9)).drew.setCells w.heap.size A.length [x]).drew).setCells w.heap.size (A.length+1) (y::B')))
    obtain ⟨Y,hY⟩:=exE (A.toArray++Builtin.zeroCells (Value.string ⟨#[]⟩).cells (n+1-A.length)++Builtin.zeroCells (Value.string ⟨#[]⟩).cells (grownCap w (n+1) cap 9-(n+1)))
    have hY1:Y.size=grownCap w (n+1) cap 9:=by
     rw [<-hY]
     simp only [Array.size_append,List.size_toArray,size_zeroCells]
     show A.length+(n+1-A.length)*1+(grownCap w (n+1) cap 9-(n+1))*1=_
     omega
    have hY2:∃ M Z',Y.toList=A++M++Z'/\M.length=n+1-A.length:=by
     refine ⟨(Builtin.zeroCells (Value.string ⟨#[]⟩).cells (n+1-A.length)).toList,(Builtin.zeroCells (Value.string ⟨#[]⟩).cells (grownCap w (n+1) cap 9-(n+1))).toList,by rw [<-hY];simp,?_⟩
     rw [Array.length_toList,size_zeroCells]
     show (n+1-A.length)*1=_
     omega
    rw [hY]
    clear hY
    obtain ⟨M,Z',hM,hML⟩:=hY2
    have hBl:B'.length+1=n-A.length:=by simp at hlen;omega
    cases M with
    | nil=>simp at hML;omega
    | cons m0 M =>
      have a0:((w.alloc (.cells Y 9)).drew).heap[w.heap.size]?=some (.cells Y 9 (0,0)):=heap_alloc_new _ _
      have a1:=zaw w.heap.size [x] A.length _ _ a0
      have a2:=zaw w.heap.size (y::B') (A.length+1) (((w.alloc (.cells Y 9)).drew.setCells w.heap.size A.length [x]).drew) _ a1
      refine ⟨_,rfl,zeh a2 hB c1 c2 (by rw [zbp,zbp];exact hY1) (Z:=Z') ?_ hlen2,Upd.setCells (b:=w.heap.size) (.inr (zNr _)) _ _ (Upd.drew (Upd.setCells (b:=w.heap.size) (.inr (zNr _)) _ _ ((Upd.refl _ _).alloc _).drew)),λ k hk=>.inr (by simp [Value.ownBlock] at hk;omega)⟩
      have b1:(wrA Y A.length [x]).toList=A++[x]++(M++Z'):=zaL [x] A.length Y A [m0] (M++Z') (by rw [hM];simp) rfl rfl
      exact (zaL (y::B') (A.length+1) _ (A++[x]) M Z' (by rw [b1];simp) (by simp) (by simp at hML ⊢;omega)).trans (by simp)
theorem zrn (base n:Nat) (v:Value) (A B:List Value) (x:Value) (vb:Nat) (w:World) (h:w.ownsRow base 3 1 v n (A++B)) (hB:base<=w.heap.size) (hn:n<=100000) (h1:∀ y∈A++B,y.oneCell'=true) (hx:x.oneCell'=true)
 (hvb:w.heap[vb]?=some (.cells #[x] 3 (0,0))) (hne:v.ownBlock≠some vb) :
 Calls Tryz.prog 214 #[v,.int .i64 (A.length:Nat),.slice (some ⟨vb,0,none⟩) 1 1] w λ e w'=>∃ v',e=.returned v'/\Hid (zei 3 base v n (A++x::B) w v' w'):=by
 have hlen:(A++B).length=n:=by have:=h.1;omega
 have hlen2:(A++x::B).length=n+1:=by simp at hlen ⊢;omega
 have hml:n+1<=maxLen:=by unfold maxLen;omega
 have hvs:∀ j u,([x]:List Value)[j]?=some u->w.cell? ⟨vb,0+j,none⟩=some u:=λ j u hj=>by
  rw [Nat.zero_add];exact zaa hvb (by simpa using hj)
 have h1v:∀ u∈([x]:List Value),u.oneCell'=true:=λ u hu=>by simp at hu;rw [hu];exact hx
 rcases hB0:B with _|⟨y,B'⟩
 ·subst hB0
  have hA:A.length=n:=by simpa using hlen
  rw [List.append_nil] at h h1 hlen
  rw [hA]
  rcases h.2 with ⟨rfl,h0⟩|⟨g,cap,cur0,rfl,-⟩
  ·subst h0
   obtain rfl:A=[]:=List.eq_nil_of_length_eq_zero hA
   refine (Any2.slices_Insert_int_end_grow Tryz.laysNm221 none 0 0 vb 0 1 1 [] [x] w (by omega) (by omega) (by omega) (by omega) rfl rfl (λ _=>rfl) (λ a e=>by cases e) hvs h1v).mono ?_
   rintro e w' ⟨rfl,rfl⟩
   refine ⟨_,rfl,zfo hB (by unfold maxLen;omega) _ rfl ?_ (by simp) _ (by simp;rfl)⟩
   have:=grownCap_ge w (0+1) 0 3
   simp only [Array.size_append,List.size_toArray,size_zeroCells,zLa,zLc,List.length_nil]
   show 0+(0+1)+(grownCap w (0+1) 0 3-(0+1))*1=grownCap w (0+1) 0 3
   omega
  ·obtain ⟨cur,g1,g2,g3,g4,g5,g6,g7,Z,g8,g9⟩:=zcw h
   have hcs:∀ j u,A[j]?=some u->w.cell? ⟨g,0+j,none⟩=some u:=λ j u hj=>by
    rw [Nat.zero_add];refine zaa g1 ?_
    rw [<-Array.getElem?_toList,g8,List.getElem?_append_left (List.getElem?_eq_some_iff.1 hj).1];exact hj
   by_cases hroom:n+1<=cap
   ·refine (Any2.slices_Insert_int_end_room Tryz.laysNm221 g 0 n cap vb 0 1 1 [x] w (by omega) hroom (by unfold maxLen at g4;omega) rfl (λ j hj=>?_) (λ j hj=>zad g1 _) hvs h1v).mono ?_
    ·obtain rfl:j=0:=by omega
     have:n<cur.size:=by omega
     simp [World.cell?,g1,this]
    ·rintro e w' ⟨rfl,rfl⟩
     rw [Nat.zero_add]
     cases Z with
     | nil=>simp at g9;omega
     | cons z Z =>
       refine ⟨_,rfl,zeh (zaw g [x] n w cur g1) g2 hroom g4 (by rw [zbp];exact g5) (Z:=Z) ?_ hlen2,Upd.setCells (S:=λ k=>(Value.slice (some (⟨g,0,none⟩:Addr)) n cap).ownBlock=some k) (b:=g) (.inl rfl) _ _ (Upd.refl _ _),λ k hk=>.inl hk⟩
       exact (zaL [x] n cur A [z] Z (by rw [g8];simp) hA rfl).trans (by simp)
   ·refine (Any2.slices_Insert_int_end_grow Tryz.laysNm221 (some ⟨g,0,none⟩) n cap vb 0 1 1 A [x] w (by omega) g3 (by omega) (by omega) hA rfl (λ e=>by cases e) (λ a e j u hj=>by cases e;rw [Addr.add_lit];exact hcs j u hj) hvs h1v).mono ?_
    rintro e w' ⟨rfl,rfl⟩
    refine ⟨_,rfl,zfo hB hml _ rfl ?_ hlen2 _ (by simp;rfl)⟩
    have:=grownCap_ge w (n+1) cap 3
    simp only [Array.size_append,List.size_toArray,size_zeroCells,zLa,hA,zLc,List.length_nil]
    show n+(0+1)+(grownCap w (n+1) cap 3-(n+1))*1=grownCap w (n+1) cap 3
    omega
 ·subst hB0
  have hi:A.length<n:=by simp at hlen;omega
  rcases h.2 with ⟨rfl,h0⟩|⟨g,cap,cur0,rfl,-⟩
  ·omega
  ·obtain ⟨cur,g1,g2,g3,g4,g5,g6,g7,Z,g8,g9⟩:=zcw h
   have hgv:vb≠g:=λ e=>hne (by rw [e];rfl)
   have hcs:∀ j u,(A++y::B')[j]?=some u->w.cell? ⟨g,0+j,none⟩=some u:=λ j u hj=>by
    rw [Nat.zero_add];refine zaa g1 ?_
    rw [<-Array.getElem?_toList,g8,List.getElem?_append_left (List.getElem?_eq_some_iff.1 hj).1];exact hj
   have hdr:(A++y::B').drop A.length=y::B':=by simp
   have htk:(A++y::B').take A.length=A:=by simp
   by_cases hroom:n+1<=cap
   ·refine (Any2.slices_Insert_int_shift Tryz.laysNm221 g 0 n cap A.length vb 0 1 1 (A++y::B') [x] w hi (by omega) hroom (by unfold maxLen at g4;omega) hgv hlen rfl hcs (λ j hj=>?_) (λ j hj=>zad g1 _) hvs h1 h1v _ _ _ _ (zeg hvb) (zeg g1) (by omega) (zad hvb _) (zad hvb _)).mono ?_
    ·have:0+j<cur.size:=by omega
     simp at this
     simp [World.cell?,g1,this]
    ·rintro e w' ⟨rfl,rfl⟩
     rw [hdr,Nat.zero_add,Nat.zero_add]
     cases Z with
     | nil=>simp at g9;omega
     | cons z Z =>
       have a1:(w.drew.setCells g (A.length+1) (y::B')).heap[g]?=_:=zaw g (y::B') (A.length+1) w.drew cur g1
       have a2:=zaw g [x] A.length _ _ a1
       refine ⟨_,rfl,zeh a2 g2 hroom g4 (by rw [zbp,zbp];exact g5) (Z:=Z) ?_ hlen2,Upd.setCells (S:=λ k=>(Value.slice (some (⟨g,0,none⟩:Addr)) n cap).ownBlock=some k) (b:=g) (.inl rfl) _ _ (Upd.setCells (S:=λ k=>(Value.slice (some (⟨g,0,none⟩:Addr)) n cap).ownBlock=some k) (b:=g) (.inl rfl) _ _ (Upd.refl _ _).drew),λ k hk=>.inl hk⟩
       have b1:(wrA cur (A.length+1) (y::B')).toList=(A++[y])++(y::B')++Z:=by
        refine zaL (y::B') (A.length+1) cur (A++[y]) (B'++[z]) Z (by rw [g8];simp) (by simp) (by simp)
       exact (zaL [x] A.length _ A [y] (y::B'++Z) (by rw [b1];simp) rfl rfl).trans (by simp)
   ·refine (Any2.slices_Insert_int_grow Tryz.laysNm221 g 0 n cap A.length vb 0 1 1 (A++y::B') [x] w hi (by omega) g3 (by omega) (by omega) hlen rfl hcs hvs h1 h1v).mono ?_
    rintro e w' ⟨rfl,rfl⟩
    rw [hdr,htk]
    have c1:=grownCap_ge w (n+1) cap 3
    have c2:=grownCap_le_maxLen w (n+1) cap 3 hml
    change ∃ v',_=_/\Hid (zei 3 base _ n _ w v' ((((w.alloc (.cells (A.toArray++Builtin.zeroCells (Value.int .i64 0).cells (n+1-A.length)++Builtin.zeroCells (Value.int .i64 0).cells (grownCap w (n+1) cap 3-(n+1))) 3)).drew.setCells w.heap.size A.length [x]).drew).setCells w.heap.size (A.length+1) (y::B')))
    obtain ⟨Y,hY⟩:=exE (A.toArray++Builtin.zeroCells (Value.int .i64 0).cells (n+1-A.length)++Builtin.zeroCells (Value.int .i64 0).cells (grownCap w (n+1) cap 3-(n+1)))
    have hY1:Y.size=grownCap w (n+1) cap 3:=by
     rw [<-hY]
     simp only [Array.size_append,List.size_toArray,size_zeroCells]
     show A.length+(n+1-A.length)*1+(grownCap w (n+1) cap 3-(n+1))*1=_
     omega
    have hY2:∃ M Z',Y.toList=A++M++Z'/\M.length=n+1-A.length:=by
     refine ⟨(Builtin.zeroCells (Value.int .i64 0).cells (n+1-A.length)).toList,(Builtin.zeroCells (Value.int .i64 0).cells (grownCap w (n+1) cap 3-(n+1))).toList,by rw [<-hY];simp,?_⟩
     rw [Array.length_toList,size_zeroCells]
     show (n+1-A.length)*1=_
     omega
    rw [hY]
    clear hY
    obtain ⟨M,Z',hM,hML⟩:=hY2
    have hBl:B'.length+1=n-A.length:=by simp at hlen;omega
    cases M with
    | nil=>simp at hML;omega
    | cons m0 M =>
      have a0:((w.alloc (.cells Y 3)).drew).heap[w.heap.size]?=some (.cells Y 3 (0,0)):=heap_alloc_new _ _
      have a1:=zaw w.heap.size [x] A.length _ _ a0
      have a2:=zaw w.heap.size (y::B') (A.length+1) (((w.alloc (.cells Y 3)).drew.setCells w.heap.size A.length [x]).drew) _ a1
      refine ⟨_,rfl,zeh a2 hB c1 c2 (by rw [zbp,zbp];exact hY1) (Z:=Z') ?_ hlen2,Upd.setCells (b:=w.heap.size) (.inr (zNr _)) _ _ (Upd.drew (Upd.setCells (b:=w.heap.size) (.inr (zNr _)) _ _ ((Upd.refl _ _).alloc _).drew)),λ k hk=>.inr (by simp [Value.ownBlock] at hk;omega)⟩
      have b1:(wrA Y A.length [x]).toList=A++[x]++(M++Z'):=zaL [x] A.length Y A [m0] (M++Z') (by rw [hM];simp) rfl rfl
      exact (zaL (y::B') (A.length+1) _ (A++[x]) M Z' (by rw [b1];simp) (by simp) (by simp at hML ⊢;omega)).trans (by simp)
def zah (a b:ByteArray):Bool:=Op.bytesLess a.toList b.toList
theorem zcc (a b:ByteArray):zah a b=true ↔ a.data.toList<b.data.toList:=by
 unfold zah;rw [bytesLess_eq,Lib.toList_data,Lib.toList_data];simp
theorem zal (a:ByteArray):zah a a=false:=by
 cases h:zah a a with
 | false=>rfl
 | true=>exact absurd ((zcc _ _).1 h) (List.lt_irrefl _)
theorem za9 {a b c:ByteArray} (h:zah a b=true) (g:zah b c=true):zah a c=true :=
 (zcc _ _).2 (List.lt_trans ((zcc _ _).1 h) ((zcc _ _).1 g))
theorem zcd {a b:ByteArray} (h:zah a b=false) (g:zah b a=false):a=b:=by
 have h1:¬a.data.toList<b.data.toList:=λ e=>by rw [(zcc _ _).2 e] at h;cases h
 have g1:¬b.data.toList<a.data.toList:=λ e=>by rw [(zcc _ _).2 e] at g;cases g
 have:a.data.toList=b.data.toList:=List.le_antisymm (List.not_lt.1 g1) (List.not_lt.1 h1)
 exact ByteArray.ext (Array.toList_inj.1 this)
theorem zbx {a b:ByteArray} (h:zah a b=true):zah b a=false:=by
 cases g:zah b a with
 | false=>rfl
 | true=>have k:=za9 h g;rw [zal] at k;cases k
theorem zfC {a b c:ByteArray} (h:zah b a=false) (g:zah b c=true):zah a c=true:=by
 by_cases e:a=b
 ·rw [e];exact g
 ·cases k:zah a b with
  | true=>exact za9 k g
  | false=>exact absurd (zcd k h) e
theorem zaK {a b c:ByteArray} (h:zah a b=true) (g:zah c b=false):zah a c=true:=by
 by_cases e:b=c
 ·rw [<-e];exact h
 ·cases k:zah b c with
  | true=>exact za9 h k
  | false=>exact absurd (zcd k g) e
theorem zaW {a b:ByteArray} (h:zah a b=true):a≠b:=λ e=>by rw [e,zal] at h;cases h
theorem zhx {a b c:ByteArray} (h:zah b a=false) (g:zah c b=false):zah c a=false:=by
 cases k:zah c a with
 | false=>rfl
 | true=>rw [zfC g k] at h;cases h
@[reducible] def PT:Nat->Type
 | 0=>List (ByteArray × ByteArray)
 | h+1=>List (ByteArray × Nat × PT h)
def nd:(h:Nat)->PT h->Nd
 | 0,l=>.leaf l
 | h+1,l=>.inner (List.map (λ x=>(x.1,x.2.1)) l)
def ents:(h:Nat)->PT h->List (ByteArray × ByteArray)
 | 0,l=>l
 | h+1,l=>List.flatMap (λ x=>ents h x.2.2) l
def pgs:(h:Nat)->Nat->PT h->List Nat
 | 0,p,_=>[p]
 | h+1,p,l=>p::List.flatMap (λ x=>pgs h x.2.1 x.2.2) l
def zdO:(h:Nat)->PT h->Nat
 | 0,_=>0
 | h+1,l=>(if List.length l=1 then 1 else 0)+(List.map (λ x=>zdO h x.2.2) l).sum
def zf8 (h:Nat) (l:List (ByteArray × Nat × PT h)):Prop :=
 l.Pairwise (λ x y=>∀ e∈ents h x.2.2,zah e.1 y.1=true)/\∀ y∈l.tail,∀ e∈ents h y.2.2,zah e.1 y.1=false
def Wf:(h:Nat)->PT h->Prop
 | 0,l=>(∀ e∈(l:List (ByteArray × ByteArray)),e.1.size<=96/\e.2.size<=56)/\List.Pairwise (λ a b:ByteArray × ByteArray=>zah a.1 b.1=true) l
 | h+1,l=>(∀ x∈(l:List (ByteArray × Nat × PT h)),x.1.size<=96/\x.2.1<65536/\0<(nd h x.2.2).len/\(nd h x.2.2).size<=512/\Wf h x.2.2)/\zf8 h l
def On (S:RS):(h:Nat)->Nat->PT h->Prop
 | 0,p,l=>S.used p=true/\S.cont p=pad (ofL (nd 0 l).bytes)
 | h+1,p,l=>(S.used p=true/\S.cont p=pad (ofL (nd (h+1) l).bytes))/\∀ x∈(l:List (ByteArray × Nat × PT h)),On S h x.2.1 x.2.2
structure Tr (S:RS) (h p:Nat) (t:PT h):Prop where
 wf:Wf h t
 pos:0<(nd h t).len
 fit:(nd h t).size<=512
 on:On S h p t
 nod:(pgs h p t).Nodup
theorem On.top {S:RS} {h p:Nat} {t:PT h} (H:On S h p t):S.used p=true/\S.cont p=pad (ofL (nd h t).bytes):=by
 cases h with
 | zero=>exact H
 | succ h=>exact H.1
theorem On.used {S:RS}:∀ {h p:Nat} {t:PT h},On S h p t->∀ q∈pgs h p t,S.used q=true
 | 0,p,t,H,q,hq=>by simp [pgs] at hq;rw [hq];exact H.1
 | h+1,p,t,H,q,hq=>by
   simp only [pgs,List.mem_cons,List.mem_flatMap] at hq
   rcases hq with rfl|⟨x,hx,hq⟩
   ·exact H.1.1
   ·exact (H.2 x hx).used q hq
theorem On.frame {S S':RS}:∀ {h p:Nat} {t:PT h},On S h p t->(∀ q∈pgs h p t,S'.used q=S.used q/\S'.cont q=S.cont q)->On S' h p t
 | 0,p,t,H,hq=>by
   have:=hq p (by simp [pgs])
   exact ⟨this.1.trans H.1,this.2.trans H.2⟩
 | h+1,p,t,H,hq=>by
   have:=hq p (by simp [pgs])
   refine ⟨⟨this.1.trans H.1.1,this.2.trans H.1.2⟩,λ x hx=>(H.2 x hx).frame λ q h'=>hq q ?_⟩
   simp only [pgs,List.mem_cons,List.mem_flatMap]
   exact .inr ⟨x,hx,h'⟩
theorem Tr.frame {S S':RS} {h p:Nat} {t:PT h} (H:Tr S h p t) (hq:∀ q∈pgs h p t,S'.used q=S.used q/\S'.cont q=S.cont q):Tr S' h p t:=⟨H.wf,H.pos,H.fit,H.on.frame hq,H.nod⟩
theorem Tr.kid {S:RS} {h p:Nat} {l:PT (h+1)} (H:Tr S (h+1) p l) {x:ByteArray × Nat × PT h} (hx:x∈(l:List (ByteArray × Nat × PT h))):Tr S h x.2.1 x.2.2:=by
 obtain ⟨h1,h2,h3,h4,h5⟩:=H.wf.1 x hx
 refine ⟨h5,h3,h4,H.on.2 x hx,?_⟩
 have:=(List.nodup_cons.1 H.nod).2
 obtain ⟨A,B,rfl⟩:=List.append_of_mem hx
 rw [List.flatMap_append,List.flatMap_cons] at this
 exact (List.nodup_append.1 (List.nodup_append.1 this).2.1).1
theorem zeJ (l:PT 0):nd 0 l=.leaf l:=rfl
theorem zaP (l:PT 0):(nd 0 l).len=List.length l:=by simp [nd,Nd.len,Nd.keys]
theorem zaq (h:Nat) (l:PT (h+1)):(nd (h+1) l).len=List.length l:=by simp [nd,Nd.len,Nd.keys]
theorem zbG:∀ {h:Nat} {t:PT h},Wf h t->0<(nd h t).len->0<(ents h t).length
 | 0,t,_,hp=>by rw [zaP] at hp;exact hp
 | h+1,t,H,hp=>by
   rw [zaq] at hp
   cases t with
   | nil=>simp at hp
   | cons x t =>
     obtain ⟨h1,h2,h3,h4,h5⟩:=H.1 x (by simp)
     have:=zbG h5 h3
     simp only [ents,List.flatMap_cons,zLa];omega
def esL (e:ByteArray × ByteArray):Nat:=2+e.1.size+e.2.size
def esI (e:ByteArray × Nat):Nat:=5+e.1.size
theorem zfD (l:List (ByteArray × ByteArray)) (n:Nat) (hn:n<=l.length):zbK true (l.map Prod.fst) (l.map Prod.snd) n=3+((l.take n).map esL).sum:=by
 induction n with
 | zero=>simp [zbK]
 | succ n ih =>
   have hlt:n<l.length:=hn
   rw [zbK,ih (by omega),zTs hlt,List.map_append,List.sum_append]
   simp only [esz,if_true,List.map_cons,List.map_nil,List.sum_cons,List.sum_nil,esL]
   rw [za3 _ _ (by simpa using hlt),za3 _ _ (by simpa using hlt)]
   simp;omega
theorem zeK (l:List (ByteArray × Nat)) (V:List ByteArray) (n:Nat) (hn:n<=l.length):zbK false (l.map Prod.fst) V n=3+((l.take n).map esI).sum:=by
 induction n with
 | zero=>simp [zbK]
 | succ n ih =>
   have hlt:n<l.length:=hn
   rw [zbK,ih (by omega),zTs hlt,List.map_append,List.sum_append]
   simp only [esz,Bool.false_eq_true,if_false,List.map_cons,List.map_nil,List.sum_cons,List.sum_nil,esI]
   rw [za3 _ _ (by simpa using hlt)]
   simp;omega
theorem zaE (l:List (ByteArray × ByteArray)):(Nd.leaf l).size=3+(l.map esL).sum:=by
 have:=zfD l l.length (zNr _)
 rw [List.take_length] at this
 simpa [Nd.size,Nd.isLeaf,Nd.keys,Nd.vals,Nd.len] using this
theorem zaM (l:List (ByteArray × Nat)):(Nd.inner l).size=3+(l.map esI).sum:=by
 have:=zeK l [] l.length (zNr _)
 rw [List.take_length] at this
 simpa [Nd.size,Nd.isLeaf,Nd.keys,Nd.vals,Nd.len] using this
theorem zo4 {α:Type} (f:α->Nat) (c:Nat) (l:List α) (h:∀ x∈l,c<=f x):c*l.length<=(l.map f).sum:=by
 induction l with
 | nil=>simp
 | cons x t ih =>
   have h1:=h x (by simp)
   have h2:=ih λ y hy=>h y (by simp [hy])
   simp only [zLc,List.map_cons,List.sum_cons,Nat.mul_add];omega
theorem zlO {α:Type} (f:α->Nat) (c:Nat) (l:List α) (h:∀ x∈l,f x<=c):(l.map f).sum<=c*l.length:=by
 induction l with
 | nil=>simp
 | cons x t ih =>
   have h1:=h x (by simp)
   have h2:=ih λ y hy=>h y (by simp [hy])
   simp only [zLc,List.map_cons,List.sum_cons,Nat.mul_add];omega
theorem zfp (d:Nd):3+2*d.len<=d.size:=by
 cases d with
 | leaf l =>
   rw [zaE]
   have:=zo4 esL 2 l λ x _=>by unfold esL;omega
   simp [Nd.len,Nd.keys];omega
 | inner l =>
   rw [zaM]
   have:=zo4 esI 2 l λ x _=>by unfold esI;omega
   simp [Nd.len,Nd.keys];omega
theorem Wf.ok {h:Nat} {t:PT h} (H:Wf h t) (hp:0<(nd h t).len) (hs:(nd h t).size<=100000):(nd h t).Ok:=by
 have hl:=zfp (nd h t)
 cases h with
 | zero =>
   refine ⟨hp,by omega,λ k hk=>?_,λ v hv=>?_,λ c hc=>?_⟩
   ·simp only [nd,Nd.keys,List.mem_map] at hk
    obtain ⟨e,he,rfl⟩:=hk
    exact (H.1 e he).1
   ·simp only [nd,Nd.vals,List.mem_map] at hv
    obtain ⟨e,he,rfl⟩:=hv
    exact (H.1 e he).2
   ·simp [nd,Nd.kids] at hc
 | succ h =>
   refine ⟨hp,by omega,λ k hk=>?_,λ v hv=>?_,λ c hc=>?_⟩
   ·simp only [nd,Nd.keys,List.map_map,List.mem_map] at hk
    obtain ⟨e,he,rfl⟩:=hk
    exact (H.1 e he).1
   ·simp [nd,Nd.vals] at hv
   ·simp only [nd,Nd.kids,List.map_map,List.mem_map] at hc
    obtain ⟨e,he,rfl⟩:=hc
    have:=(H.1 e he).2.1
    exact Nat.lt_trans this (by decide)
theorem Tr.ok {S:RS} {h p:Nat} {t:PT h} (H:Tr S h p t):(nd h t).Ok:=H.wf.ok H.pos (Nat.le_trans H.fit (by decide))
theorem zhy (d:Nd):d.bytes.length=d.size:=by
 cases d with
 | leaf l =>
   have e:(l.flatMap ze5).length=(l.map esL).sum:=by
    rw [List.length_flatMap]
    congr 1
    refine List.map_congr_left λ e _=>?_
    simp only [ze5,esL,zLa,zLc,List.length_nil,Lib.size_eq];omega
   rw [zaE,<-e]
   simp [Nd.bytes,Nd.body];omega
 | inner l =>
   have e:(l.flatMap ze6).length=(l.map esI).sum:=by
    rw [List.length_flatMap]
    congr 1
    refine List.map_congr_left λ e _=>?_
    simp only [ze6,esI,be4,zLa,zLc,List.length_nil,Lib.size_eq];omega
   rw [zaM,<-e]
   simp [Nd.bytes,Nd.body];omega
def Srt (E:List (ByteArray × ByteArray)):Prop:=List.Pairwise (λ a b:ByteArray × ByteArray=>zah a.1 b.1=true) E
def Ins (key val:ByteArray) (E E':List (ByteArray × ByteArray)):Prop :=
 ∃ A B,E'=A++(key,val)::B/\(E=A++B\/∃ v,E=A++(key,v)::B)/\(∀ a∈A,zah a.1 key=true)/\∀ b∈B,zah key b.1=true
theorem Ins.lift {key val:ByteArray} {E E':List (ByteArray × ByteArray)} (H:Ins key val E E') (X Y:List (ByteArray × ByteArray)) (hX:∀ a∈X,zah a.1 key=true) (hY:∀ b∈Y,zah key b.1=true):Ins key val (X++(E++Y)) (X++(E'++Y)):=by
 obtain ⟨A,B,rfl,h,hA,hB⟩:=H
 refine ⟨X++A,B++Y,by simp,?_,λ a ha=>?_,λ b hb=>?_⟩
 ·rcases h with rfl|⟨v,rfl⟩
  ·exact .inl (by simp)
  ·exact .inr ⟨v,by simp⟩
 ·rcases List.mem_append.1 ha with h|h
  ·exact hX a h
  ·exact hA a h
 ·rcases List.mem_append.1 hb with h|h
  ·exact hB b h
  ·exact hY b h
theorem Ins.mem {key val:ByteArray} {E E':List (ByteArray × ByteArray)} (H:Ins key val E E'):∀ e∈E',e.1=key\/e∈E:=by
 obtain ⟨A,B,rfl,h,hA,hB⟩:=H
 intro e he
 rcases List.mem_append.1 he with h1|h1
 ·right;rcases h with rfl|⟨v,rfl⟩ <;> simp [h1]
 ·rcases List.mem_cons.1 h1 with rfl|h1
  ·exact .inl rfl
  ·right;rcases h with rfl|⟨v,rfl⟩ <;> simp [h1]
theorem zpL {A B:List (ByteArray × ByteArray)} {key val:ByteArray} (h:Srt (A++B)) (hA:∀ a∈A,zah a.1 key=true) (hB:∀ b∈B,zah key b.1=true):Srt (A++(key,val)::B):=by
 obtain ⟨h1,h2,h3⟩:=List.pairwise_append.1 h
 refine List.pairwise_append.2 ⟨h1,List.pairwise_cons.2 ⟨hB,h2⟩,λ a ha b hb=>?_⟩
 rcases List.mem_cons.1 hb with rfl|hb
 ·exact hA a ha
 ·exact h3 a ha b hb
theorem zhz {A B:List (ByteArray × ByteArray)} {e:ByteArray × ByteArray} (h:Srt (A++e::B)):Srt (A++B)/\(∀ a∈A,zah a.1 e.1=true)/\∀ b∈B,zah e.1 b.1=true:=by
 obtain ⟨h1,h2,h3⟩:=List.pairwise_append.1 h
 obtain ⟨h4,h5⟩:=List.pairwise_cons.1 h2
 exact ⟨List.pairwise_append.2 ⟨h1,h5,λ a ha b hb=>h3 a ha b (by simp [hb])⟩,λ a ha=>h3 a ha e (by simp),h4⟩
theorem zcP (l:List (ByteArray × ByteArray)) (key:ByteArray) (h:Srt l):∃ A B,l=A++B/\(∀ a∈A,zah a.1 key=true)/\(∀ b∈B,zah b.1 key=false)/\((∃ v B',B=(key,v)::B'/\∀ b∈B',zah key b.1=true)\/(∀ b∈B,zah key b.1=true)):=by
 induction l with
 | nil=>exact ⟨[],[],rfl,by simp,by simp,.inr (by simp)⟩
 | cons x t ih =>
   obtain ⟨hx,ht⟩:=List.pairwise_cons.1 h
   cases hk:zah x.1 key with
   | true =>
     obtain ⟨A,B,rfl,hA,hB,h3⟩:=ih ht
     exact ⟨x::A,B,rfl,λ a ha=>(by rcases List.mem_cons.1 ha with rfl|ha <;> first|exact hk|exact hA a ha),hB,h3⟩
   | false =>
     have hle:∀ b∈x::t,zah b.1 key=false:=λ b hb=>by
      rcases List.mem_cons.1 hb with rfl|hb
      ·exact hk
      ·cases g:zah b.1 key with
       | false=>rfl
       | true=>rw [za9 (hx b hb) g] at hk;cases hk
     refine ⟨[],x::t,rfl,by simp,hle,?_⟩
     cases g:zah key x.1 with
     | true =>
       refine .inr λ b hb=>?_
       rcases List.mem_cons.1 hb with rfl|hb
       ·exact g
       ·exact za9 g (hx b hb)
     | false =>
       have e:x.1=key:=zcd hk g
       refine .inl ⟨x.2,t,by rw [<-e],λ b hb=>by rw [<-e];exact hx b hb⟩
abbrev Kid (h:Nat):=ByteArray × Nat × PT h
def Way (key:ByteArray) {h:Nat} (A:List (Kid h)) (x:Kid h) (B:List (Kid h)):Prop:=(A≠[]->zah key x.1=false)/\∀ y∈B,zah key y.1=true
theorem zaX {h:Nat} {A:List (Kid h)} {x:Kid h} {B:List (Kid h)}:(∀ y∈(A++x::B).tail,∀ e∈ents h y.2.2,zah e.1 y.1=false) ↔ (∀ y∈A.tail,∀ e∈ents h y.2.2,zah e.1 y.1=false)/\(A≠[]->∀ e∈ents h x.2.2,zah e.1 x.1=false)/\∀ y∈B,∀ e∈ents h y.2.2,zah e.1 y.1=false:=by
 cases A with
 | nil=>simp
 | cons a A =>
   simp only [List.cons_append,List.tail_cons,List.mem_append,List.mem_cons]
   constructor
   ·intro H;exact ⟨λ y hy=>H y (.inl hy),λ _=>H x (.inr (.inl rfl)),λ y hy=>H y (.inr (.inr hy))⟩
   ·rintro ⟨h1,h2,h3⟩ y (hy|rfl|hy) <;> first|exact h1 y hy|exact h2 (by simp)|exact h3 y hy
theorem za4 {h:Nat} {A:List (Kid h)} {x:Kid h} {B:List (Kid h)}:((A++x::B).Pairwise (λ x y=>∀ e∈ents h x.2.2,zah e.1 y.1=true)) ↔
 A.Pairwise (λ x y=>∀ e∈ents h x.2.2,zah e.1 y.1=true)/\B.Pairwise (λ x y=>∀ e∈ents h x.2.2,zah e.1 y.1=true)/\(∀ a∈A,∀ e∈ents h a.2.2,zah e.1 x.1=true)/\(∀ b∈B,∀ e∈ents h x.2.2,zah e.1 b.1=true)/\∀ a∈A,∀ b∈B,∀ e∈ents h a.2.2,zah e.1 b.1=true:=by
 rw [List.pairwise_append,List.pairwise_cons]
 constructor
 ·rintro ⟨h1,⟨h2,h3⟩,h4⟩
  exact ⟨h1,h3,λ a ha=>h4 a ha x (by simp),h2,λ a ha b hb=>h4 a ha b (by simp [hb])⟩
 ·rintro ⟨h1,h2,h3,h4,h5⟩
  refine ⟨h1,⟨h4,h2⟩,λ a ha b hb=>?_⟩
  rcases List.mem_cons.1 hb with rfl|hb <;> first|exact h3 a ha|exact h5 a ha b hb
theorem zf8.way {h:Nat} {A B:List (Kid h)} {x:Kid h} {key:ByteArray} (H:zf8 h (A++x::B)) (W:Way key A x B):(∀ a∈A,∀ e∈ents h a.2.2,zah e.1 key=true)/\∀ b∈B,∀ e∈ents h b.2.2,zah key e.1=true:=by
 obtain ⟨-,-,h3,-,-⟩:=za4.1 H.1
 obtain ⟨-,-,h6⟩:=zaX.1 H.2
 refine ⟨λ a ha e he=>?_,λ b hb e he=>?_⟩
 ·exact zaK (h3 a ha e he) (W.1 (List.ne_nil_of_mem ha))
 ·exact zaK (W.2 b hb) (h6 b hb e he)
theorem zf8.set {h:Nat} {A B:List (Kid h)} {x:Kid h} {key:ByteArray} (H:zf8 h (A++x::B)) (W:Way key A x B) (p:Nat) (t:PT h) (ht:∀ e∈ents h t,e.1=key\/e∈ents h x.2.2):zf8 h (A++(x.1,p,t)::B):=by
 obtain ⟨h1,h2,h3,h4,h5⟩:=za4.1 H.1
 obtain ⟨h6,h7,h8⟩:=zaX.1 H.2
 refine ⟨za4.2 ⟨h1,h2,h3,λ b hb e he=>?_,h5⟩,zaX.2 ⟨h6,λ hA e he=>?_,h8⟩⟩
 ·rcases ht e he with h|h
  ·rw [h];exact W.2 b hb
  ·exact h4 b hb e h
 ·rcases ht e he with h|h
  ·rw [h];exact W.1 hA
  ·exact h7 hA e h
theorem zf8.part {h:Nat} {A B:List (Kid h)} {x:Kid h} {key k:ByteArray} (H:zf8 h (A++x::B)) (W:Way key A x B) (p q:Nat) (t u:PT h) (ht:∀ e∈ents h t,e.1=key\/e∈ents h x.2.2) (hu:∀ e∈ents h u,e.1=key\/e∈ents h x.2.2)
 (h0:0<(ents h t).length) (hk:∀ e∈ents h t,zah e.1 k=true) (hk2:∀ e∈ents h u,zah e.1 k=false):zf8 h (A++(x.1,p,t)::(k,q,u)::B):=by
 obtain ⟨h1,h2,h3,h4,h5⟩:=za4.1 H.1
 obtain ⟨h6,h7,h8⟩:=zaX.1 H.2
 have T:=H.set W p t ht
 obtain ⟨g1,g2,g3,g4,g5⟩:=za4.1 T.1
 obtain ⟨g6,g7,g8⟩:=zaX.1 T.2
 have hu':∀ b∈B,∀ e∈ents h u,zah e.1 b.1=true:=λ b hb e he=>by
  rcases hu e he with h|h
  ·rw [h];exact W.2 b hb
  ·exact h4 b hb e h
 obtain ⟨e0,he0⟩:∃ e0,e0∈ents h t:=⟨_,List.getElem_mem h0⟩
 refine ⟨za4.2 ⟨h1,List.pairwise_cons.2 ⟨hu',h2⟩,h3,λ b hb e he=>?_,λ a ha b hb e he=>?_⟩,zaX.2 ⟨h6,g7,λ y hy=>?_⟩⟩
 ·rcases List.mem_cons.1 hb with rfl|hb
  ·exact hk e he
  ·exact g4 b hb e he
 ·rcases List.mem_cons.1 hb with rfl|hb
  ·exact za9 (zaK (h3 a ha e he) (g7 (List.ne_nil_of_mem ha) e0 he0)) (hk e0 he0)
  ·exact h5 a ha b hb e he
 ·rcases List.mem_cons.1 hy with rfl|hy
  ·exact hk2
  ·exact h8 y hy
theorem zf8.away {h:Nat} {A B:List (Kid h)} {x:Kid h} (H:zf8 h (A++x::B)):zf8 h (A++B):=by
 obtain ⟨h6,h7,h8⟩:=zaX.1 H.2
 refine ⟨H.1.sublist (by simp),λ y hy=>?_⟩
 cases A with
 | nil=>exact h8 y (List.mem_of_mem_tail hy)
 | cons a A =>
   simp only [List.cons_append,List.tail_cons,List.mem_append] at hy
   rcases hy with hy|hy
   ·exact h6 y hy
   ·exact h8 y hy
theorem zf8.join {h:Nat} {A B:List (Kid h)} {x y:Kid h} (H:zf8 h (A++x::y::B)) (p:Nat) (t:PT h) (ht:ents h t=ents h x.2.2++ents h y.2.2) (h0:0<(ents h x.2.2).length):zf8 h (A++(x.1,p,t)::B):=by
 obtain ⟨h1,h2,h3,h4,h5⟩:=za4.1 H.1
 obtain ⟨h6,h7,h8⟩:=zaX.1 H.2
 obtain ⟨h9,h10⟩:=List.pairwise_cons.1 h2
 obtain ⟨e0,he0⟩:∃ e0,e0∈ents h x.2.2:=⟨_,List.getElem_mem h0⟩
 refine ⟨za4.2 ⟨h1,h10,h3,λ b hb e he=>?_,λ a ha b hb=>h5 a ha b (by simp [hb])⟩,zaX.2 ⟨h6,λ hA e he=>?_,λ b hb=>h8 b (by simp [hb])⟩⟩
 ·simp only [ht,List.mem_append] at he
  rcases he with he|he
  ·exact h4 b (by simp [hb]) e he
  ·exact h9 b hb e he
 ·simp only [ht,List.mem_append] at he
  rcases he with he|he
  ·exact h7 hA e he
  ·have a1:=h7 hA e0 he0
   have a2:=h4 y (by simp) e0 he0
   have a3:=h8 y (by simp) e he
   have:=zaK a2 a3
   exact zhx a1 (zbx this)
theorem zb4 (h:Nat) (A B:List (Kid h)) (x:Kid h):ents (h+1) (A++x::B)=ents (h+1) A++(ents h x.2.2++ents (h+1) B):=by
 simp [ents]
theorem zcQ (h:Nat) (A B:List (Kid h)):ents (h+1) (A++B:List (Kid h))=ents (h+1) A++ents (h+1) B:=by
 simp [ents]
theorem zbq (h:Nat) (A:List (Kid h)) (e:ByteArray × ByteArray):e∈ents (h+1) A ↔ ∃ a∈A,e∈ents h a.2.2:=by
 simp [ents]
theorem Wf.srt:∀ {h:Nat} {t:PT h},Wf h t->Srt (ents h t)
 | 0,t,H=>H.2
 | h+1,t,H=>by
   show List.Pairwise _ (List.flatMap (λ x:Kid h=>ents h x.2.2) t)
   rw [List.pairwise_flatMap]
   refine ⟨λ x hx=>Wf.srt (H.1 x hx).2.2.2.2,?_⟩
   have:=H.2
   have hs:∀ l:List (Kid h),zf8 h l->l.Pairwise (λ x y=>∀ e∈ents h x.2.2,∀ f∈ents h y.2.2,zah e.1 f.1=true):=by
    intro l
    induction l with
    | nil=>intro _;exact List.Pairwise.nil
    | cons x l ih =>
      intro hl
      obtain ⟨a1,a2⟩:=List.pairwise_cons.1 hl.1
      refine List.pairwise_cons.2 ⟨λ y hy e he f hf=>zaK (a1 y hy e he) (hl.2 y hy f hf),ih ⟨a2,λ y hy=>hl.2 y (List.mem_of_mem_tail hy)⟩⟩
   exact hs t this
theorem zcA {h:Nat} (l:List (Kid h)) (key:ByteArray) (hs:l.tail.Pairwise (λ x y=>zah x.1 y.1=true)) (hp:0<l.length):∃ A x B,l=A++x::B/\Way key A x B/\∀ y∈A.tail,zah key y.1=false:=by
 cases l with
 | nil=>simp at hp
 | cons x0 l =>
   simp only [List.tail_cons] at hs
   clear hp
   induction l generalizing x0 with
   | nil=>exact ⟨[],x0,[],rfl,⟨by simp,by simp⟩,by simp⟩
   | cons x1 l ih =>
     obtain ⟨a1,a2⟩:=List.pairwise_cons.1 hs
     cases hk:zah key x1.1 with
     | true =>
       refine ⟨[],x0,x1::l,rfl,⟨by simp,λ y hy=>?_⟩,by simp⟩
       rcases List.mem_cons.1 hy with rfl|hy
       ·exact hk
       ·exact za9 hk (a1 y hy)
     | false =>
       obtain ⟨A,x,B,e,W,hA⟩:=ih x1 a2
       refine ⟨x0::A,x,B,by rw [e];rfl,⟨λ _=>?_,W.2⟩,λ y hy=>?_⟩
       ·cases A with
        | nil=>simp at e;rw [<-e.1];exact hk
        | cons a A=>exact W.1 (by simp)
       ·cases A with
        | nil=>simp at hy
        | cons a A =>
          simp at e
          rcases List.mem_cons.1 hy with rfl|hy
          ·rw [<-e.1];exact hk
          ·exact hA y hy
theorem zf8.keys {h:Nat} {l:List (Kid h)} (H:zf8 h l) (hp:∀ x∈l,0<(ents h x.2.2).length):l.tail.Pairwise (λ x y=>zah x.1 y.1=true):=by
 cases l with
 | nil=>exact List.Pairwise.nil
 | cons x l =>
   refine List.Pairwise.imp_of_mem (R:=λ x y=>∀ e∈ents h x.2.2,zah e.1 y.1=true) (λ {a b} ha hb hab=>?_) (List.pairwise_cons.1 H.1).2
   obtain ⟨e0,he0⟩:∃ e0,e0∈ents h a.2.2:=⟨_,List.getElem_mem (hp a (by simp at ha;simp [ha]))⟩
   exact zfC (H.2 a ha e0 he0) (hab e0 he0)
theorem Upd.drewN {S:Nat->Prop} {a w:World} (h:Upd S a w) (q:Nat):Upd S a (w.drewN q):=⟨h.os,h.tape,h.output,h.size,h.block⟩
def zlP (e:TypeId) (base:Nat) (v:Value) (n:Nat) (xs:List Value) (w:World) (v':Value) (w':World):Prop :=
 w'.ownsRow base e 1 v' n xs/\Upd (λ k=>v.ownBlock=some k) w w'/\v'.ownBlock=v.ownBlock
theorem znO (K:List ByteArray) (d:ByteArray):(Lib.strsOf (λ i=>K.getD i d) K.length).map encStr=K.map Value.string:=by
 apply List.ext_getElem
 ·simp [Lib.strsOf]
 ·intro i h1 h2
  have h3:i<K.length:=by simpa using h2
  simp [Lib.strsOf,encStr,za3 _ _ h3]
  simp [h3]
theorem zgG {α:Type} (A B:List α) (x:α):(A++x::B).take A.length=A/\(A++x::B).drop (A.length+1)=B:=by
 refine ⟨List.take_left,?_⟩
 rw [show A++x::B=(A++[x])++B by simp]
 exact List.drop_left' (by simp)
theorem zlQ (base:Nat) (v:Value) (A B:List ByteArray) (x:ByteArray) (w:World) (h:w.ownsRow base 9 1 v (A.length+1+B.length) ((A++x::B).map Value.string)) :
 Calls Tryz.prog 217 #[v,.int .i64 (A.length:Nat),.int .i64 ((A.length:Int)+1)] w λ e w'=>∃ v',e=.returned v'/\Hid (zlP 9 base v (A.length+B.length) ((A++B).map Value.string) w v' w'):=by
 rcases h.2 with ⟨rfl,h0⟩|⟨g,cap,cur0,rfl,-⟩
 ·omega
 ·obtain ⟨cur,g1,g2,g3,g4,g5,g6,g7,Z,g8,g9⟩:=zcw h
  have hl:(A++x::B).length=A.length+1+B.length:=by simp;omega
  have hc:∀ i,i<A.length+1+B.length->w.cell? ⟨g,0+i,none⟩=some (.string ((A++x::B).getD i ByteArray.empty)):=λ i hi=>by
   rw [Nat.zero_add];refine zaa g1 ?_
   have hi':i<(A++x::B).length:=by omega
   rw [<-Array.getElem?_toList,g8,List.getElem?_append_left (by simpa using hi'),za3 _ _ hi',List.getElem?_map,List.getElem?_eq_getElem hi']
   rfl
  have e1:((A.length:Int)+1)=((A.length+1:Nat):Int):=by omega
  rw [e1]
  refine (Any.slices_Delete_string_cells Tryz.laysNm224 g 0 (A.length+1+B.length) cap A.length (A.length+1) (λ i=>(A++x::B).getD i ByteArray.empty) w g3 (by unfold maxLen at g4;omega) (by omega) (by omega) hc (λ j hj=>zad g1 _)).mono ?_
  rintro e w' ⟨rfl,q,rfl⟩
  have e2:(Lib.strsOf (λ i=>(A++x::B).getD i ByteArray.empty) (A.length+1+B.length)).map encStr=(A++x::B).map Value.string:=by rw [<-hl];exact znO _ _
  have hlA:A.length=(A.map Value.string).length:=by simp
  have e3:(((Lib.strsOf (λ i=>(A++x::B).getD i ByteArray.empty) (A.length+1+B.length)).take A.length++(Lib.strsOf (λ i=>(A++x::B).getD i ByteArray.empty) (A.length+1+B.length)).drop (A.length+1)++List.replicate (A.length+1-A.length) []).map encStr)=(A++B).map Value.string++[Value.string ⟨#[]⟩]:=by
   rw [List.map_append,List.map_append,List.map_take,List.map_drop,e2,List.map_append,List.map_cons,hlA,(zgG _ _ _).1,(zgG _ _ _).2,List.map_append,Nat.add_sub_cancel_left]
   rfl
  rw [e3,show A.length+1+B.length-(A.length+1-A.length)=A.length+B.length by omega]
  have a1:=zaw g ((A++B).map Value.string++[Value.string ⟨#[]⟩]) 0 (w.drewN q) cur g1
  refine ⟨_,rfl,zeh a1 g2 (by omega) g4 (by rw [zbp];exact g5) (Z:=Value.string ⟨#[]⟩::Z) ?_ (by simp),Upd.setCells (S:=λ k=>(Value.slice (some (⟨g,0,none⟩:Addr)) (A.length+1+B.length) cap).ownBlock=some k) (b:=g) (.inl rfl) _ _ ((Upd.refl _ _).drewN q),rfl⟩
  exact (zaL ((A++B).map Value.string++[Value.string ⟨#[]⟩]) 0 cur [] ((A++x::B).map Value.string) Z (by rw [g8];rfl) rfl (by simp)).trans (by rw [List.nil_append,List.append_assoc];rfl)
theorem zro (base:Nat) (v:Value) (A B:List Nat) (x:Nat) (w:World) (h:w.ownsRow base 3 1 v (A.length+1+B.length) ((A++x::B).map λ c:Nat=>Value.int .i64 (c:Int))) :
 Calls Tryz.prog 218 #[v,.int .i64 (A.length:Nat),.int .i64 ((A.length:Int)+1)] w λ e w'=>∃ v',e=.returned v'/\Hid (zlP 3 base v (A.length+B.length) ((A++B).map λ c:Nat=>Value.int .i64 (c:Int)) w v' w'):=by
 rcases h.2 with ⟨rfl,h0⟩|⟨g,cap,cur0,rfl,-⟩
 ·omega
 ·obtain ⟨cur,g1,g2,g3,g4,g5,g6,g7,Z,g8,g9⟩:=zcw h
  have hl:((A++x::B).map λ c:Nat=>(c:Int)).length=A.length+1+B.length:=by simp;omega
  have hc:∀ i,i<((A++x::B).map λ c:Nat=>(c:Int)).length->w.cell? ⟨g,0+i,none⟩=some (.int .i64 (((A++x::B).map λ c:Nat=>(c:Int)).getD i 0)):=λ i hi=>by
   rw [Nat.zero_add];refine zaa g1 ?_
   have hi':i<(A++x::B).length:=by simpa using hi
   rw [<-Array.getElem?_toList,g8,List.getElem?_append_left (by simpa using hi'),za3 _ _ hi,List.getElem?_map,List.getElem?_eq_getElem hi',List.getElem_map]
   rfl
  have e1:((A.length:Int)+1)=((A.length+1:Nat):Int):=by omega
  rw [e1]
  refine (Any.slices_Delete_int_cells Tryz.laysNm223 g 0 (A.length+1+B.length) cap A.length (A.length+1) ((A++x::B).map λ c:Nat=>(c:Int)) w (by omega) g3 (by unfold maxLen at g4;omega) (by omega) (by omega) hc (λ j hj=>zad g1 _)).mono ?_
  rintro e w' ⟨rfl,q,rfl⟩
  have hlA:A.length=(A.map λ c:Nat=>(c:Int)).length:=by simp
  have e3:((((((A++x::B).map λ c:Nat=>(c:Int)).take (A.length+1+B.length)).take A.length)++((((A++x::B).map λ c:Nat=>(c:Int)).take (A.length+1+B.length)).drop (A.length+1))++List.replicate (A.length+1-A.length) 0).map (Value.int .i64))=((A++B).map λ c:Nat=>Value.int .i64 (c:Int))++[Value.int .i64 0]:=by
   rw [List.take_of_length_le (by omega:((A++x::B).map λ c:Nat=>(c:Int)).length<=A.length+1+B.length),show ((A++x::B).map λ c:Nat=>(c:Int))=(A.map λ c:Nat=>(c:Int))++(x:Int)::(B.map λ c:Nat=>(c:Int)) by simp,hlA,(zgG _ _ _).1,(zgG _ _ _).2,Nat.add_sub_cancel_left,List.map_append,List.map_append,List.map_append,List.map_map,List.map_map]
   rfl
  rw [e3,show A.length+1+B.length-(A.length+1-A.length)=A.length+B.length by omega]
  have a1:=zaw g (((A++B).map λ c:Nat=>Value.int .i64 (c:Int))++[Value.int .i64 0]) 0 (w.drewN q) cur g1
  refine ⟨_,rfl,zeh a1 g2 (by omega) g4 (by rw [zbp];exact g5) (Z:=Value.int .i64 0::Z) ?_ (by simp),Upd.setCells (S:=λ k=>(Value.slice (some (⟨g,0,none⟩:Addr)) (A.length+1+B.length) cap).ownBlock=some k) (b:=g) (.inl rfl) _ _ ((Upd.refl _ _).drewN q),rfl⟩
  exact (zaL (((A++B).map λ c:Nat=>Value.int .i64 (c:Int))++[Value.int .i64 0]) 0 cur [] ((A++x::B).map λ c:Nat=>Value.int .i64 (c:Int)) Z (by rw [g8];rfl) rfl (by simp)).trans (by rw [List.nil_append,List.append_assoc];rfl)
theorem zpM (less:Nat->Bool) (n k:Nat) (hk:k<=n) (h1:∀ t,t<k->less t=true) (h2:∀ t,k<=t->less t=false):Lib.bsGo less n 0 n=k:=Lib.bsGo_spec less k h1 h2 n 0 n (by omega) (by omega) hk
theorem zdh (there:Bool) (p:Nat) (d:Nd) (vk vv vi:Value) (A B:List ByteArray) (key:ByteArray) (w:World) (h:NdV w p d vk vv vi) (hd:d.keys=A++B) (hp:0<d.len) (hl:d.len<=1000000) (hA:∀ a∈A,zah a key=true) (hB:∀ b∈B,zah b key=false) (hth:there=true ↔ ∃ B',B=key::B') :
 Calls Tryz.prog 165 #[.pointer (some ⟨p,0,none⟩),.string key] w λ e w'=>e=.returned (.tuple #[.int .i64 (A.length:Nat),.bool there])/\∃ q,w'=w.drewN q:=by
 obtain ⟨g,off,cap,ev,hcap,hc⟩:=h.ks.lit (by simpa [Nd.len] using hp)
 have hlen:d.keys.length=A.length+B.length:=by rw [hd];simp
 have hlt:d.keys.length<=1000000:=hl
 have hp':0<d.keys.length:=hp
 rw [zLm] at ev hcap
 subst ev
 have HC:=zeH hc
 have BS:=Any2.slices_BinarySearch_string Tryz.laysNm226 g off d.keys.length cap (λ t=>d.keys.getD t key) key w (by omega) (λ j hj=>by rw [HC j hj,za3 _ _ hj,za3 _ _ hj])
 have e1:Lib.bsGo (λ t=>Op.bytesLess (d.keys.getD t key).toList key.toList) d.keys.length 0 d.keys.length=A.length:=by
  refine zpM _ _ _ (by omega) (λ t ht=>?_) λ t ht=>?_
  ·rw [za3 _ _ (by omega)]
   have:d.keys[t]'(by omega)=A[t]:=by simp only [hd];exact List.getElem_append_left ht
   rw [this];exact hA _ (List.getElem_mem ht)
  ·by_cases hx:t<d.keys.length
   ·rw [za3 _ _ hx]
    have:d.keys[t]=B[t-A.length]'(by omega):=by simp only [hd];exact List.getElem_append_right ht
    rw [this];exact hB _ (List.getElem_mem _)
   ·rw [zgE _ _ (by omega)];exact zal key
 rw [e1] at BS
 have e2:(decide (A.length<d.keys.length/\d.keys.getD A.length key=key))=there:=by
  cases B with
  | nil =>
    have:there=false:=by cases there with|false=>rfl|true=>obtain ⟨B',e⟩:=hth.1 rfl;cases e
    rw [this,decide_eq_false_iff_not]
    simp at hlen;omega
  | cons b B =>
    have h1:A.length<d.keys.length:=by rw [hlen];simp
    rw [za3 _ _ h1]
    have h2:d.keys[A.length]=b:=by simp only [hd];simp
    rw [h2]
    cases there with
    | true=>obtain ⟨B',e⟩:=hth.1 rfl;cases e;simp [h1]
    | false =>
      rw [decide_eq_false_iff_not]
      rintro ⟨-,rfl⟩
      exact absurd (hth.2 ⟨B,rfl⟩) (by simp)
 rw [e2] at BS
 have BS':Hid (Calls Tryz.prog 204 #[.slice (some ⟨g,off,none⟩) (d.keys.length:Nat) cap,.string key] w λ e w'=>e=.returned (.tuple #[.int .i64 (A.length:Nat),.bool there])/\∃ q,w'=w.drewN q):=Hd BS
 have c1:w.cell? ⟨p,1,none⟩=some (.slice (some ⟨g,off,none⟩) d.keys.length cap):=zaa h.blk rfl
 generalize d.keys.length=nn at *
 clear BS e1 e2 HC hc hA hB hd h hth hlen hlt hl hp hp' hcap
 go_enter Tryz.func165,Tryz.ntmps165
 go_wp2_with fail
 refine BS'.out.mono ?_
 rintro e w' ⟨rfl,hq⟩
 have HQ:=Hd hq
 clear hq BS' c1
 go_wp2_with fail
 go_ret2
 exact ⟨rfl,HQ.out⟩
def NdF (p:Nat) (vk vv vi:Value) (k:Nat):Prop:=k=p\/vk.ownBlock=some k\/vv.ownBlock=some k\/vi.ownBlock=some k
def zge (c:Nat):Value:=Value.int .i64 (c:Int)
structure NdP (w:World) (p:Nat) (leaf:Bool) (K V:List ByteArray) (C:List Nat) (vk vv vi:Value):Prop where
 blk:w.heap[p]?=some (.cells #[.bool leaf,vk,vv,vi] 222 (0,0))
 ks:w.ownsRow 0 9 1 vk K.length (K.map Value.string)
 vs:w.ownsRow 0 9 1 vv V.length (V.map Value.string)
 is:w.ownsRow 0 3 1 vi C.length (C.map zge)
 pk:vk.ownBlock≠some p
 pv:vv.ownBlock≠some p
 pi:vi.ownBlock≠some p
 kv:∀ k,vk.ownBlock=some k->vv.ownBlock≠some k
 ki:∀ k,vk.ownBlock=some k->vi.ownBlock≠some k
 vi':∀ k,vv.ownBlock=some k->vi.ownBlock≠some k
theorem NdO.parts {w:World} {F:Nat->Prop} {p:Nat} {d:Nd} {vk vv vi:Value} (h:NdO w F p d vk vv vi):NdP w p d.isLeaf d.keys d.vals d.kids vk vv vi :=
 ⟨h.blk,h.ks,h.vs,h.is,h.pk,h.pv,h.pi,h.kv,h.ki,h.vi'⟩
theorem NdP.nd {w:World} {p:Nat} {d:Nd} {vk vv vi:Value} (h:NdP w p d.isLeaf d.keys d.vals d.kids vk vv vi):NdO w (NdF p vk vv vi) p d vk vv vi :=
 ⟨h.blk,h.ks,h.vs,h.is,h.pk,h.pv,h.pi,h.kv,h.ki,h.vi',λ _=>Iff.rfl⟩
section
variable {w W:World} {p:Nat} {leaf:Bool} {K V:List ByteArray} {C:List Nat} {vk vv vi:Value}
theorem NdP.ltp (h:NdP w p leaf K V C vk vv vi):p<w.heap.size:=zab h.blk
theorem NdP.lt (h:NdP w p leaf K V C vk vv vi):∀ k,NdF p vk vv vi k->k<w.heap.size:=by
 intro k hk
 rcases hk with rfl|e|e|e
 ·exact h.ltp
 ·exact (h.ks.lt k e).2
 ·exact (h.vs.lt k e).2
 ·exact (h.is.lt k e).2
theorem NdP.below (h:NdP w p leaf K V C vk vv vi) (hb:Below w.heap.size w W):NdP W p leaf K V C vk vv vi :=
 ⟨(hb.block p h.ltp).trans h.blk,zap h.ks λ k e=>hb.block k (h.ks.lt k e).2,zap h.vs λ k e=>hb.block k (h.vs.lt k e).2,zap h.is λ k e=>hb.block k (h.is.lt k e).2,h.pk,h.pv,h.pi,h.kv,h.ki,h.vi'⟩
theorem zcB {e:TypeId} {v:Value} {n:Nat} {xs:List Value} {S:Nat->Prop} (h:w.ownsRow 0 e 1 v n xs) (hu:Upd S w W) (hS:∀ k,v.ownBlock=some k->¬S k):W.ownsRow 0 e 1 v n xs :=
 zap h λ k e=>hu.block k (h.lt k e).2 (hS k e)
theorem zce {e:TypeId} {v:Value} {n:Nat} {xs:List Value} (h:W.ownsRow 0 e 1 v n xs) (i:Nat) (u:Value) (hp:v.ownBlock≠some p):(W.setCell ⟨p,i,none⟩ u).ownsRow 0 e 1 v n xs :=
 zap h λ k e=>zae u λ e'=>hp (by rw [<-e'];exact e)
theorem NdP.setK (h:NdP w p leaf K V C vk vv vi) {vk':Value} {K':List ByteArray} (hu:Upd (λ k=>vk.ownBlock=some k) w W) (ho:W.ownsRow 0 9 1 vk' K'.length (K'.map Value.string)) (hn:∀ k,vk'.ownBlock=some k->vk.ownBlock=some k\/w.heap.size<=k) :
 NdP (W.setCell ⟨p,1,none⟩ vk') p leaf K' V C vk' vv vi/\Upd (NdF p vk vv vi) w (W.setCell ⟨p,1,none⟩ vk')/\∀ k,NdF p vk' vv vi k->NdF p vk vv vi k\/w.heap.size<=k:=by
 have hp:vk'.ownBlock≠some p:=λ e=>by rcases hn p e with a|a <;> first|exact h.pk a|exact by have:=h.ltp;omega
 refine ⟨⟨zac (hu.at h.blk h.pk) vk',zce ho 1 vk' hp,zce (zcB h.vs hu λ k e e'=>h.kv k e' e) 1 vk' h.pv,zce (zcB h.is hu λ k e e'=>h.ki k e' e) 1 vk' h.pi,hp,h.pv,h.pi,λ k e e'=>?_,λ k e e'=>?_,h.vi'⟩,Upd.setCell (hu.mono λ k _ e=>.inr (.inl e)) (p:=⟨p,1,none⟩) (.inl (.inl rfl)) vk',λ k hk=>?_⟩
 ·rcases hn k e with a|a
  ·exact h.kv k a e'
  ·have:=(h.vs.lt k e').2;omega
 ·rcases hn k e with a|a
  ·exact h.ki k a e'
  ·have:=(h.is.lt k e').2;omega
 ·rcases hk with e|e|e|e
  ·exact .inl (.inl e)
  ·exact (hn k e).imp (λ a=>.inr (.inl a)) id
  ·exact .inl (.inr (.inr (.inl e)))
  ·exact .inl (.inr (.inr (.inr e)))
theorem NdP.setV (h:NdP w p leaf K V C vk vv vi) {vv':Value} {V':List ByteArray} (hu:Upd (λ k=>vv.ownBlock=some k) w W) (ho:W.ownsRow 0 9 1 vv' V'.length (V'.map Value.string)) (hn:∀ k,vv'.ownBlock=some k->vv.ownBlock=some k\/w.heap.size<=k) :
 NdP (W.setCell ⟨p,2,none⟩ vv') p leaf K V' C vk vv' vi/\Upd (NdF p vk vv vi) w (W.setCell ⟨p,2,none⟩ vv')/\∀ k,NdF p vk vv' vi k->NdF p vk vv vi k\/w.heap.size<=k:=by
 have hp:vv'.ownBlock≠some p:=λ e=>by rcases hn p e with a|a <;> first|exact h.pv a|exact by have:=h.ltp;omega
 refine ⟨⟨zac (hu.at h.blk h.pv) vv',zce (zcB h.ks hu λ k e e'=>h.kv k e e') 2 vv' h.pk,zce ho 2 vv' hp,zce (zcB h.is hu λ k e e'=>h.vi' k e' e) 2 vv' h.pi,h.pk,hp,h.pi,λ k e e'=>?_,h.ki,λ k e e'=>?_⟩,Upd.setCell (hu.mono λ k _ e=>.inr (.inr (.inl e))) (p:=⟨p,2,none⟩) (.inl (.inl rfl)) vv',λ k hk=>?_⟩
 ·rcases hn k e' with a|a
  ·exact h.kv k e a
  ·have:=(h.ks.lt k e).2;omega
 ·rcases hn k e with a|a
  ·exact h.vi' k a e'
  ·have:=(h.is.lt k e').2;omega
 ·rcases hk with e|e|e|e
  ·exact .inl (.inl e)
  ·exact .inl (.inr (.inl e))
  ·exact (hn k e).imp (λ a=>.inr (.inr (.inl a))) id
  ·exact .inl (.inr (.inr (.inr e)))
theorem NdP.setI (h:NdP w p leaf K V C vk vv vi) {vi':Value} {C':List Nat} (hu:Upd (λ k=>vi.ownBlock=some k) w W) (ho:W.ownsRow 0 3 1 vi' C'.length (C'.map zge)) (hn:∀ k,vi'.ownBlock=some k->vi.ownBlock=some k\/w.heap.size<=k) :
 NdP (W.setCell ⟨p,3,none⟩ vi') p leaf K V C' vk vv vi'/\Upd (NdF p vk vv vi) w (W.setCell ⟨p,3,none⟩ vi')/\∀ k,NdF p vk vv vi' k->NdF p vk vv vi k\/w.heap.size<=k:=by
 have hp:vi'.ownBlock≠some p:=λ e=>by rcases hn p e with a|a <;> first|exact h.pi a|exact by have:=h.ltp;omega
 refine ⟨⟨zac (hu.at h.blk h.pi) vi',zce (zcB h.ks hu λ k e e'=>h.ki k e e') 3 vi' h.pk,zce (zcB h.vs hu λ k e e'=>h.vi' k e e') 3 vi' h.pv,zce ho 3 vi' hp,h.pk,h.pv,hp,h.kv,λ k e e'=>?_,λ k e e'=>?_⟩,Upd.setCell (hu.mono λ k _ e=>.inr (.inr (.inr e))) (p:=⟨p,3,none⟩) (.inl (.inl rfl)) vi',λ k hk=>?_⟩
 ·rcases hn k e' with a|a
  ·exact h.ki k e a
  ·have:=(h.ks.lt k e).2;omega
 ·rcases hn k e' with a|a
  ·exact h.vi' k e a
  ·have:=(h.vs.lt k e).2;omega
 ·rcases hk with e|e|e|e
  ·exact .inl (.inl e)
  ·exact .inl (.inr (.inl e))
  ·exact .inl (.inr (.inr (.inl e)))
  ·exact (hn k e).imp (λ a=>.inr (.inr (.inr a))) id
end
theorem zdT (l:List ByteArray):∀ y∈l.map Value.string,y.oneCell'=true:=by
 intro y hy
 obtain ⟨x,-,rfl⟩:=List.mem_map.1 hy
 rfl
theorem ziB (l:List Nat):∀ y∈l.map zge,y.oneCell'=true:=by
 intro y hy
 obtain ⟨x,-,rfl⟩:=List.mem_map.1 hy
 rfl
def zo5 (w w':World) (F:Nat->Prop) (p:Nat) (d:Nd):Prop:=∃ F',zc8 w' F' p d/\(∀ k,F' k->F k\/w.heap.size<=k)/\Upd F w w'
structure NdS (w w':World) (F:Nat->Prop) (p:Nat) (leaf:Bool) (K V:List ByteArray) (C:List Nat) (vk vv vi:Value):Prop where
 nd:NdP w' p leaf K V C vk vv vi
 sub:∀ k,NdF p vk vv vi k->F k\/w.heap.size<=k
 upd:Upd F w w'
section
variable {w w' W:World} {F:Nat->Prop} {p:Nat} {leaf:Bool} {K V:List ByteArray} {C:List Nat} {vk vv vi:Value}
theorem NdS.start {d:Nd} (h:NdO w F p d vk vv vi):NdS w w F p d.isLeaf d.keys d.vals d.kids vk vv vi :=
 ⟨h.parts,λ k hk=>.inl ((h.own k).2 hk),Upd.refl _ _⟩
theorem NdS.go {d:Nd} (h:NdS w w' F p d.isLeaf d.keys d.vals d.kids vk vv vi):zo5 w w' F p d:=⟨_,⟨_,_,_,h.nd.nd⟩,h.sub,h.upd⟩
theorem NdS.below (h:NdS w w' F p leaf K V C vk vv vi) (hb:Below w'.heap.size w' W):NdS w W F p leaf K V C vk vv vi :=
 ⟨h.nd.below hb,h.sub,h.upd.trans' (hb.upd' (zNr _)) λ j _ e=>False.elim e⟩
theorem NdS.alloc (h:NdS w w' F p leaf K V C vk vv vi) (o:Obj):NdS w (w'.alloc o) F p leaf K V C vk vv vi :=
 h.below ((zBr _ _).alloc (zNr _) o)
theorem NdS.step {vk' vv' vi':Value} {K' V':List ByteArray} {C':List Nat} (h:NdS w w' F p leaf K V C vk vv vi) (hn:NdP W p leaf K' V' C' vk' vv' vi') (hu:Upd (NdF p vk vv vi) w' W) (hs:∀ k,NdF p vk' vv' vi' k->NdF p vk vv vi k\/w'.heap.size<=k):NdS w W F p leaf K' V' C' vk' vv' vi':=by
 refine ⟨hn,λ k hk=>?_,h.upd.trans' hu λ j hj e=>?_⟩
 ·rcases hs k hk with a|a
  ·exact h.sub k a
  ·have:=h.upd.size;exact .inr (by omega)
 ·rcases h.sub j e with a|a
  ·exact a
  ·omega
theorem NdS.setK (h:NdS w w' F p leaf K V C vk vv vi) {vk':Value} {K':List ByteArray} (hu:Upd (λ k=>vk.ownBlock=some k) w' W) (ho:W.ownsRow 0 9 1 vk' K'.length (K'.map Value.string)) (hn:∀ k,vk'.ownBlock=some k->vk.ownBlock=some k\/w'.heap.size<=k):NdS w (W.setCell ⟨p,1,none⟩ vk') F p leaf K' V C vk' vv vi:=by
 obtain ⟨a,b,c⟩:=h.nd.setK hu ho hn;exact h.step a b c
theorem NdS.setV (h:NdS w w' F p leaf K V C vk vv vi) {vv':Value} {V':List ByteArray} (hu:Upd (λ k=>vv.ownBlock=some k) w' W) (ho:W.ownsRow 0 9 1 vv' V'.length (V'.map Value.string)) (hn:∀ k,vv'.ownBlock=some k->vv.ownBlock=some k\/w'.heap.size<=k):NdS w (W.setCell ⟨p,2,none⟩ vv') F p leaf K V' C vk vv' vi:=by
 obtain ⟨a,b,c⟩:=h.nd.setV hu ho hn;exact h.step a b c
theorem NdS.setI (h:NdS w w' F p leaf K V C vk vv vi) {vi':Value} {C':List Nat} (hu:Upd (λ k=>vi.ownBlock=some k) w' W) (ho:W.ownsRow 0 3 1 vi' C'.length (C'.map zge)) (hn:∀ k,vi'.ownBlock=some k->vi.ownBlock=some k\/w'.heap.size<=k):NdS w (W.setCell ⟨p,3,none⟩ vi') F p leaf K V C' vk vv vi':=by
 obtain ⟨a,b,c⟩:=h.nd.setI hu ho hn;exact h.step a b c
theorem NdP.cells (h:NdP w p leaf K V C vk vv vi):w.cell? ⟨p,0,none⟩=some (.bool leaf)/\w.cell? ⟨p,1,none⟩=some vk/\w.cell? ⟨p,2,none⟩=some vv/\w.cell? ⟨p,3,none⟩=some vi/\(∀ i,w.frozen? ⟨p,i,none⟩=false)/\p<w.heap.size :=
 ⟨zaa h.blk rfl,zaa h.blk rfl,zaa h.blk rfl,zaa h.blk rfl,λ i=>zad h.blk i,h.ltp⟩
theorem NdP.cellsU (h:NdP w p leaf K V C vk vv vi) {v:Value} (hu:Upd (λ k=>v.ownBlock=some k) w W) (hv:v.ownBlock≠some p):W.cell? ⟨p,0,none⟩=some (.bool leaf)/\W.cell? ⟨p,1,none⟩=some vk/\W.cell? ⟨p,2,none⟩=some vv/\W.cell? ⟨p,3,none⟩=some vi/\(∀ i,W.frozen? ⟨p,i,none⟩=false)/\p<W.heap.size :=
 have hb:=hu.at h.blk hv
 ⟨zaa hb rfl,zaa hb rfl,zaa hb rfl,zaa hb rfl,λ i=>zad hb i,zab hb⟩
end
theorem zfE (F:Nat->Prop) (p:Nat) (A B:List (ByteArray × ByteArray)) (key val:ByteArray) (kid:Int) (w:World) (h:zc8 w F p (.leaf (A++B))) (hl:(A++B).length<=90000) :
 Calls Tryz.prog 177 #[.pointer (some ⟨p,0,none⟩),.int .i64 (A.length:Nat),.string key,.string val,.int .i64 kid] w λ e w'=>e=.returned (.tuple #[])/\Hid (zo5 w w' F p (.leaf (A++(key,val)::B))):=by
 obtain ⟨vk,vv,vi,hO⟩:=h
 have S0:Hid (NdS w w F p true ((A++B).map Prod.fst) ((A++B).map Prod.snd) [] vk vv vi):=Hd (NdS.start hO)
 have I1:Hid (∀ W K V C vk vv vi,NdP W p true K V C vk vv vi->K=(A++B).map Prod.fst->Calls Tryz.prog 213 #[vk,.int .i64 (A.length:Nat),.slice (some ⟨W.heap.size,0,none⟩) 1 1] (W.alloc (.cells #[.string key] 9)) λ e w'=>∃ v',e=.returned v'/\Hid (w'.ownsRow 0 9 1 v' ((A++(key,val)::B).map Prod.fst).length (((A++(key,val)::B).map Prod.fst).map Value.string)/\Upd (λ k=>vk.ownBlock=some k) (W.alloc (.cells #[.string key] 9)) w'/\∀ k,v'.ownBlock=some k->vk.ownBlock=some k\/(W.alloc (.cells #[.string key] 9)).heap.size<=k)):=Hd λ W K V C vk vv vi hW hK=>by
  subst hK
  have hW2:=hW.below ((zBr W.heap.size W).alloc (zNr _) (.cells #[.string key] 9))
  have:=zlN 0 ((A++B).map Prod.fst).length vk ((A.map Prod.fst).map Value.string) ((B.map Prod.fst).map Value.string) (.string key) W.heap.size (W.alloc (.cells #[.string key] 9)) (by simpa using hW2.ks) (zNz _) (by simpa using Nat.le_trans hl (by omega)) (by rw [<-List.map_append];exact zdT _) rfl (heap_alloc_new _ _) (λ e=>by have:=(hW.ks.lt _ e).2;omega)
  rw [zLm,zLm] at this
  simpa [zei,Nat.add_assoc] using this
 have I2:Hid (∀ W K V C vk vv vi,NdP W p true K V C vk vv vi->V=(A++B).map Prod.snd->Calls Tryz.prog 213 #[vv,.int .i64 (A.length:Nat),.slice (some ⟨W.heap.size,0,none⟩) 1 1] (W.alloc (.cells #[.string val] 9)) λ e w'=>∃ v',e=.returned v'/\Hid (w'.ownsRow 0 9 1 v' ((A++(key,val)::B).map Prod.snd).length (((A++(key,val)::B).map Prod.snd).map Value.string)/\Upd (λ k=>vv.ownBlock=some k) (W.alloc (.cells #[.string val] 9)) w'/\∀ k,v'.ownBlock=some k->vv.ownBlock=some k\/(W.alloc (.cells #[.string val] 9)).heap.size<=k)):=Hd λ W K V C vk vv vi hW hK=>by
  subst hK
  have hW2:=hW.below ((zBr W.heap.size W).alloc (zNr _) (.cells #[.string val] 9))
  have:=zlN 0 ((A++B).map Prod.snd).length vv ((A.map Prod.snd).map Value.string) ((B.map Prod.snd).map Value.string) (.string val) W.heap.size (W.alloc (.cells #[.string val] 9)) (by simpa using hW2.vs) (zNz _) (by simpa using Nat.le_trans hl (by omega)) (by rw [<-List.map_append];exact zdT _) rfl (heap_alloc_new _ _) (λ e=>by have:=(hW.vs.lt _ e).2;omega)
  rw [zLm,zLm] at this
  simpa [zei,Nat.add_assoc] using this
 clear hO hl
 obtain ⟨c0,c1,c2,c3,cf,cl⟩:=S0.out.nd.cells
 go_enter Tryz.func177,Tryz.ntmps177
 go_wp2_with fail
 refine (I1.out w _ _ _ _ _ _ S0.out.nd rfl).mono ?_
 rintro e w1 ⟨v1,rfl,hR⟩
 have HR:=Hd hR
 obtain ⟨xa,xm,xc,rfl⟩:=zan hR.1
 clear hR I1
 have S1:=Hd (NdS.setK (S0.out.alloc (.cells #[.string key] 9)) HR.out.2.1 HR.out.1 HR.out.2.2)
 obtain ⟨d0,d1,d2,d3,df,dl⟩:=(S0.out.alloc (.cells #[.string key] 9)).nd.cellsU HR.out.2.1 S0.out.nd.pk
 have d1f:=df 1
 clear S0 HR c0 c1 c2 c3 cf cl
 have J2:=I2.out _ _ _ _ _ _ _ S1.out.nd rfl
 simp only [World.size_setCell] at J2
 have K2:=Hd J2
 clear J2 I2
 go_wp2_with fail
 refine K2.out.mono ?_
 rintro e w2 ⟨v2,rfl,hR⟩
 have HR:=Hd hR
 obtain ⟨ya,ym,yc,rfl⟩:=zan hR.1
 clear hR K2
 have S1':=Hd (S1.out.alloc (.cells #[.string val] 9))
 have S2:=Hd (NdS.setV S1'.out HR.out.2.1 HR.out.1 (λ k hk=>(HR.out.2.2 k hk).imp id λ h=>by simpa using h))
 obtain ⟨g0,g1,g2,g3,gf,gl⟩:=S1'.out.nd.cellsU HR.out.2.1 S1'.out.nd.pv
 have g2f:=gf 2
 clear S1 S1' HR d0 d1 d2 d3 df dl d1f
 go_wp2_with fail
 go_end0
 exact ⟨rfl,NdS.go (d:=.leaf (A++(key,val)::B)) S2.out⟩
theorem ze7 (F:Nat->Prop) (p:Nat) (A B:List (ByteArray × Nat)) (key val:ByteArray) (kid:Nat) (w:World) (h:zc8 w F p (.inner (A++B))) (hl:(A++B).length<=90000) :
 Calls Tryz.prog 177 #[.pointer (some ⟨p,0,none⟩),.int .i64 (A.length:Nat),.string key,.string val,.int .i64 (kid:Int)] w λ e w'=>e=.returned (.tuple #[])/\Hid (zo5 w w' F p (.inner (A++(key,kid)::B))):=by
 obtain ⟨vk,vv,vi,hO⟩:=h
 have S0:Hid (NdS w w F p false ((A++B).map Prod.fst) [] ((A++B).map Prod.snd) vk vv vi):=Hd (NdS.start hO)
 have I1:Hid (∀ W K V C vk vv vi,NdP W p false K V C vk vv vi->K=(A++B).map Prod.fst->Calls Tryz.prog 213 #[vk,.int .i64 (A.length:Nat),.slice (some ⟨W.heap.size,0,none⟩) 1 1] (W.alloc (.cells #[.string key] 9)) λ e w'=>∃ v',e=.returned v'/\Hid (w'.ownsRow 0 9 1 v' ((A++(key,kid)::B).map Prod.fst).length (((A++(key,kid)::B).map Prod.fst).map Value.string)/\Upd (λ k=>vk.ownBlock=some k) (W.alloc (.cells #[.string key] 9)) w'/\∀ k,v'.ownBlock=some k->vk.ownBlock=some k\/(W.alloc (.cells #[.string key] 9)).heap.size<=k)):=Hd λ W K V C vk vv vi hW hK=>by
  subst hK
  have hW2:=hW.below ((zBr W.heap.size W).alloc (zNr _) (.cells #[.string key] 9))
  have:=zlN 0 ((A++B).map Prod.fst).length vk ((A.map Prod.fst).map Value.string) ((B.map Prod.fst).map Value.string) (.string key) W.heap.size (W.alloc (.cells #[.string key] 9)) (by simpa using hW2.ks) (zNz _) (by simpa using Nat.le_trans hl (by omega)) (by rw [<-List.map_append];exact zdT _) rfl (heap_alloc_new _ _) (λ e=>by have:=(hW.ks.lt _ e).2;omega)
  rw [zLm,zLm] at this
  simpa [zei,Nat.add_assoc] using this
 have I2:Hid (∀ W K V C vk vv vi,NdP W p false K V C vk vv vi->C=(A++B).map Prod.snd->Calls Tryz.prog 214 #[vi,.int .i64 (A.length:Nat),.slice (some ⟨W.heap.size,0,none⟩) 1 1] (W.alloc (.cells #[.int .i64 (kid:Int)] 3)) λ e w'=>∃ v',e=.returned v'/\Hid (w'.ownsRow 0 3 1 v' ((A++(key,kid)::B).map Prod.snd).length (((A++(key,kid)::B).map Prod.snd).map zge)/\Upd (λ k=>vi.ownBlock=some k) (W.alloc (.cells #[.int .i64 (kid:Int)] 3)) w'/\∀ k,v'.ownBlock=some k->vi.ownBlock=some k\/(W.alloc (.cells #[.int .i64 (kid:Int)] 3)).heap.size<=k)):=Hd λ W K V C vk vv vi hW hK=>by
  subst hK
  have hW2:=hW.below ((zBr W.heap.size W).alloc (zNr _) (.cells #[.int .i64 (kid:Int)] 3))
  have:=zrn 0 ((A++B).map Prod.snd).length vi ((A.map Prod.snd).map zge) ((B.map Prod.snd).map zge) (zge kid) W.heap.size (W.alloc (.cells #[.int .i64 (kid:Int)] 3)) (by simpa using hW2.is) (zNz _) (by simpa using Nat.le_trans hl (by omega)) (by rw [<-List.map_append];exact ziB _) rfl (heap_alloc_new _ _) (λ e=>by have:=(hW.is.lt _ e).2;omega)
  rw [zLm,zLm] at this
  simpa [zei,Nat.add_assoc] using this
 clear hO hl
 obtain ⟨c0,c1,c2,c3,cf,cl⟩:=S0.out.nd.cells
 go_enter Tryz.func177,Tryz.ntmps177
 go_wp2_with fail
 refine (I1.out w _ _ _ _ _ _ S0.out.nd rfl).mono ?_
 rintro e w1 ⟨v1,rfl,hR⟩
 have HR:=Hd hR
 obtain ⟨xa,xm,xc,rfl⟩:=zan hR.1
 clear hR I1
 have S1:=Hd (NdS.setK (S0.out.alloc (.cells #[.string key] 9)) HR.out.2.1 HR.out.1 HR.out.2.2)
 obtain ⟨d0,d1,d2,d3,df,dl⟩:=(S0.out.alloc (.cells #[.string key] 9)).nd.cellsU HR.out.2.1 S0.out.nd.pk
 have d1f:=df 1
 clear S0 HR c0 c1 c2 c3 cf cl
 have J2:=I2.out _ _ _ _ _ _ _ S1.out.nd rfl
 simp only [World.size_setCell] at J2
 have K2:=Hd J2
 clear J2 I2
 go_wp2_with fail
 refine K2.out.mono ?_
 rintro e w2 ⟨v2,rfl,hR⟩
 have HR:=Hd hR
 obtain ⟨ya,ym,yc,rfl⟩:=zan hR.1
 clear hR K2
 have S1':=Hd (S1.out.alloc (.cells #[.int .i64 (kid:Int)] 3))
 have S2:=Hd (NdS.setI S1'.out HR.out.2.1 HR.out.1 (λ k hk=>(HR.out.2.2 k hk).imp id λ h=>by simpa using h))
 obtain ⟨g0,g1,g2,g3,gf,gl⟩:=S1'.out.nd.cellsU HR.out.2.1 S1'.out.nd.pi
 have g3f:=gf 3
 clear S1 S1' HR d0 d1 d2 d3 df dl d1f
 go_wp2_with fail
 go_end0
 exact ⟨rfl,NdS.go (d:=.inner (A++(key,kid)::B)) S2.out⟩
theorem zrp (base:Nat) (v:Value) (A B:List Nat) (x:Nat) (w:World) (h:w.ownsRow base 3 1 v (A.length+1+B.length) ((A++x::B).map zge)) :
 Calls Tryz.prog 218 #[v,.int .i64 (A.length:Nat),.int .i64 ((A.length:Int)+1)] w λ e w'=>∃ v',e=.returned v'/\Hid (zlP 3 base v (A.length+B.length) ((A++B).map zge) w v' w') :=
 zro base v A B x w h
theorem ziC (F:Nat->Prop) (p:Nat) (A B:List (ByteArray × ByteArray)) (x:ByteArray × ByteArray) (w:World) (h:zc8 w F p (.leaf (A++x::B))) (hl:A.length<=90000) :
 Calls Tryz.prog 180 #[.pointer (some ⟨p,0,none⟩),.int .i64 (A.length:Nat)] w λ e w'=>e=.returned (.tuple #[])/\Hid (zo5 w w' F p (.leaf (A++B))):=by
 obtain ⟨vk,vv,vi,hO⟩:=h
 have S0:Hid (NdS w w F p true ((A++x::B).map Prod.fst) ((A++x::B).map Prod.snd) [] vk vv vi):=Hd (NdS.start hO)
 have I1:Hid (∀ W K V C vk vv vi,NdP W p true K V C vk vv vi->K=(A++x::B).map Prod.fst->Calls Tryz.prog 217 #[vk,.int .i64 (A.length:Nat),.int .i64 ((A.length:Int)+1)] W λ e w'=>∃ v',e=.returned v'/\Hid (w'.ownsRow 0 9 1 v' ((A++B).map Prod.fst).length (((A++B).map Prod.fst).map Value.string)/\Upd (λ k=>vk.ownBlock=some k) W w'/\∀ k,v'.ownBlock=some k->vk.ownBlock=some k\/W.heap.size<=k)):=Hd λ W K V C vk vv vi hW hK=>by
  subst hK
  have:=zlQ 0 vk (A.map Prod.fst) (B.map Prod.fst) x.1 W (by have:=hW.ks;simpa [Nat.add_assoc,Nat.add_comm 1] using this)
  rw [zLm,zLm] at this
  refine this.mono ?_
  rintro e w' ⟨v',rfl,a,b,c⟩
  exact ⟨v',rfl,by simpa using a,b,λ k hk=>.inl (by rw [<-c];exact hk)⟩
 have I2:Hid (∀ W K V C vk vv vi,NdP W p true K V C vk vv vi->V=(A++x::B).map Prod.snd->Calls Tryz.prog 217 #[vv,.int .i64 (A.length:Nat),.int .i64 ((A.length:Int)+1)] W λ e w'=>∃ v',e=.returned v'/\Hid (w'.ownsRow 0 9 1 v' ((A++B).map Prod.snd).length (((A++B).map Prod.snd).map Value.string)/\Upd (λ k=>vv.ownBlock=some k) W w'/\∀ k,v'.ownBlock=some k->vv.ownBlock=some k\/W.heap.size<=k)):=Hd λ W K V C vk vv vi hW hK=>by
  subst hK
  have:=zlQ 0 vv (A.map Prod.snd) (B.map Prod.snd) x.2 W (by have:=hW.vs;simpa [Nat.add_assoc,Nat.add_comm 1] using this)
  rw [zLm,zLm] at this
  refine this.mono ?_
  rintro e w' ⟨v',rfl,a,b,c⟩
  exact ⟨v',rfl,by simpa using a,b,λ k hk=>.inl (by rw [<-c];exact hk)⟩
 clear hO
 obtain ⟨c0,c1,c2,c3,cf,cl⟩:=S0.out.nd.cells
 go_enter Tryz.func180,Tryz.ntmps180
 go_wp2_with fail
 refine (I1.out w _ _ _ _ _ _ S0.out.nd rfl).mono ?_
 rintro e w1 ⟨v1,rfl,hR⟩
 have HR:=Hd hR
 obtain ⟨xa,xm,xc,rfl⟩:=zan hR.1
 clear hR I1
 have S1:=Hd (NdS.setK S0.out HR.out.2.1 HR.out.1 HR.out.2.2)
 obtain ⟨d0,d1,d2,d3,df,dl⟩:=S0.out.nd.cellsU HR.out.2.1 S0.out.nd.pk
 have d1f:=df 1
 clear S0 HR c0 c1 c2 c3 cf cl
 go_wp2_with fail
 refine (I2.out _ _ _ _ _ _ _ S1.out.nd rfl).mono ?_
 rintro e w2 ⟨v2,rfl,hR⟩
 have HR:=Hd hR
 obtain ⟨ya,ym,yc,rfl⟩:=zan hR.1
 clear hR I2
 have S2:=Hd (NdS.setV S1.out HR.out.2.1 HR.out.1 HR.out.2.2)
 obtain ⟨g0,g1,g2,g3,gf,gl⟩:=S1.out.nd.cellsU HR.out.2.1 S1.out.nd.pv
 have g2f:=gf 2
 clear S1 HR d0 d1 d2 d3 df dl d1f
 go_wp2_with fail
 go_end0
 exact ⟨rfl,NdS.go (d:=.leaf (A++B)) S2.out⟩
theorem ze8 (F:Nat->Prop) (p:Nat) (A B:List (ByteArray × Nat)) (x:ByteArray × Nat) (w:World) (h:zc8 w F p (.inner (A++x::B))) (hl:A.length<=90000) :
 Calls Tryz.prog 180 #[.pointer (some ⟨p,0,none⟩),.int .i64 (A.length:Nat)] w λ e w'=>e=.returned (.tuple #[])/\Hid (zo5 w w' F p (.inner (A++B))):=by
 obtain ⟨vk,vv,vi,hO⟩:=h
 have S0:Hid (NdS w w F p false ((A++x::B).map Prod.fst) [] ((A++x::B).map Prod.snd) vk vv vi):=Hd (NdS.start hO)
 have I1:Hid (∀ W K V C vk vv vi,NdP W p false K V C vk vv vi->K=(A++x::B).map Prod.fst->Calls Tryz.prog 217 #[vk,.int .i64 (A.length:Nat),.int .i64 ((A.length:Int)+1)] W λ e w'=>∃ v',e=.returned v'/\Hid (w'.ownsRow 0 9 1 v' ((A++B).map Prod.fst).length (((A++B).map Prod.fst).map Value.string)/\Upd (λ k=>vk.ownBlock=some k) W w'/\∀ k,v'.ownBlock=some k->vk.ownBlock=some k\/W.heap.size<=k)):=Hd λ W K V C vk vv vi hW hK=>by
  subst hK
  have:=zlQ 0 vk (A.map Prod.fst) (B.map Prod.fst) x.1 W (by have:=hW.ks;simpa [Nat.add_assoc,Nat.add_comm 1] using this)
  rw [zLm,zLm] at this
  refine this.mono ?_
  rintro e w' ⟨v',rfl,a,b,c⟩
  exact ⟨v',rfl,by simpa using a,b,λ k hk=>.inl (by rw [<-c];exact hk)⟩
 have I2:Hid (∀ W K V C vk vv vi,NdP W p false K V C vk vv vi->C=(A++x::B).map Prod.snd->Calls Tryz.prog 218 #[vi,.int .i64 (A.length:Nat),.int .i64 ((A.length:Int)+1)] W λ e w'=>∃ v',e=.returned v'/\Hid (w'.ownsRow 0 3 1 v' ((A++B).map Prod.snd).length (((A++B).map Prod.snd).map zge)/\Upd (λ k=>vi.ownBlock=some k) W w'/\∀ k,v'.ownBlock=some k->vi.ownBlock=some k\/W.heap.size<=k)):=Hd λ W K V C vk vv vi hW hK=>by
  subst hK
  have:=zrp 0 vi (A.map Prod.snd) (B.map Prod.snd) x.2 W (by have:=hW.is;simpa [Nat.add_assoc,Nat.add_comm 1] using this)
  rw [zLm,zLm] at this
  refine this.mono ?_
  rintro e w' ⟨v',rfl,a,b,c⟩
  exact ⟨v',rfl,by simpa using a,b,λ k hk=>.inl (by rw [<-c];exact hk)⟩
 clear hO
 obtain ⟨c0,c1,c2,c3,cf,cl⟩:=S0.out.nd.cells
 go_enter Tryz.func180,Tryz.ntmps180
 go_wp2_with fail
 refine (I1.out w _ _ _ _ _ _ S0.out.nd rfl).mono ?_
 rintro e w1 ⟨v1,rfl,hR⟩
 have HR:=Hd hR
 obtain ⟨xa,xm,xc,rfl⟩:=zan hR.1
 clear hR I1
 have S1:=Hd (NdS.setK S0.out HR.out.2.1 HR.out.1 HR.out.2.2)
 obtain ⟨d0,d1,d2,d3,df,dl⟩:=S0.out.nd.cellsU HR.out.2.1 S0.out.nd.pk
 have d1f:=df 1
 clear S0 HR c0 c1 c2 c3 cf cl
 go_wp2_with fail
 refine (I2.out _ _ _ _ _ _ _ S1.out.nd rfl).mono ?_
 rintro e w2 ⟨v2,rfl,hR⟩
 have HR:=Hd hR
 obtain ⟨ya,ym,yc,rfl⟩:=zan hR.1
 clear hR I2
 have S2:=Hd (NdS.setI S1.out HR.out.2.1 HR.out.1 HR.out.2.2)
 obtain ⟨g0,g1,g2,g3,gf,gl⟩:=S1.out.nd.cellsU HR.out.2.1 S1.out.nd.pi
 have g3f:=gf 3
 clear S1 HR d0 d1 d2 d3 df dl d1f
 go_wp2_with fail
 go_end0
 exact ⟨rfl,NdS.go (d:=.inner (A++B)) S2.out⟩
theorem zrq (c key:ByteArray):(!Op.bytesLess c.toList key.toList && !c.toList == key.toList)=zah key c:=by
 show (!zah c key && !c.toList == key.toList)=zah key c
 cases h:zah c key with
 | true=>rw [zbx h];rfl
 | false =>
   by_cases e:c=key
   ·subst e;rw [zal];simp
   ·cases g:zah key c with
    | false=>exact absurd (zcd h g) e
    | true =>
      have:(c.toList == key.toList)=false:=by
       rw [beq_eq_false_iff_ne,Lib.toList_data,Lib.toList_data]
       exact λ e'=>e (ByteArray.ext (Array.toList_inj.1 e'))
      rw [this];rfl
theorem zrr (K:List ByteArray) (p b1 b2 i:Nat) (g off cap nn:Nat) (leaf:Bool) (vv vi:Value) (key c:ByteArray) (w:World) (fr:Nat × Nat) (hb:w.heap[p]?=some (.cells #[.bool leaf,.slice (some ⟨g,off,none⟩) nn cap,vv,vi] 222 fr))
 (h1:w.cell? ⟨b1,0,none⟩=some (.pointer (some ⟨p,0,none⟩))) (h2:w.cell? ⟨b2,0,none⟩=some (.string key)) (hi:i<nn) (hc:w.cell? ⟨g,off+i,none⟩=some (.string c)) :
 Calls Tryz.prog 206 #[.int .i64 (i:Int),.pointer (some ⟨b1,0,none⟩),.pointer (some ⟨b2,0,none⟩)] w λ e w'=>e=.returned (.bool (zah key c))/\∃ q,w'=w.drewN q:=by
 have c1:w.cell? ⟨p,1,none⟩=some (.slice (some ⟨g,off,none⟩) nn cap):=zaa hb rfl
 have hlt:(i:Int)<(nn:Int):=by omega
 have hk:Op.bytesLess key.toList c.toList=zah key c:=rfl
 clear hb
 go_enter Tryz.func206,Tryz.ntmps206
 go_wp2_with fail
 go_quiet (fail)
 go_wp2_with fail
 go_ret
 exact ⟨by rw [zrq];rfl,nq,rfl⟩
theorem Below.drewN {B:Nat} {a w:World} (h:Below B a w) (q:Nat):Below B a (w.drewN q):=⟨h.os,h.tape,h.output,h.size,h.block⟩
theorem znP (n m:Nat) (f:Nat->Bool) (b1 b2:Nat) (w:World) (hn:n<=1000000) (hm:m<n) (h1:∀ t,1<=t->t<=m->f t=false) (h2:∀ t,m<t->t<n->f t=true)
 (CL:Hid (∀ (i:Nat) W,i<n->Below w.heap.size w W->Calls Tryz.prog 206 #[.int .i64 (i:Int),.pointer (some ⟨b1,0,none⟩),.pointer (some ⟨b2,0,none⟩)] W λ e w'=>e=.returned (.bool (f i))/\Hid (Below w.heap.size w w'))) :
 Calls Tryz.prog 205 #[.int .i64 (n:Int),.func (Fn.func 206) #[] #[.pointer (some ⟨b1,0,none⟩),.pointer (some ⟨b2,0,none⟩)]] w λ e w'=>∃ r:Nat,e=.returned (.int .i64 (r:Int))/\Hid ((r=m+1\/(r=0/\m=0))/\Below w.heap.size w w'):=by
 have H1:=Hd h1
 have H2:=Hd h2
 have hnot:∀ (x:Bool) (w:World),(Op.unary .not (.bool x)).run Tryz.prog w=.ok (.bool (!x)) w:=λ _ _=>rfl
 clear h1 h2
 go_enter Tryz.func205,Tryz.ntmps205
 go_wp2_with fail
 go_loopg [5,6] n (λ g s5 s6 wr=>∃ lo hi:Nat,g=hi-lo/\s5=.int .i64 (lo:Int)/\s6=.int .i64 (hi:Int)/\lo<=hi/\hi<=n/\lo<=m+1/\(m+1<=hi\/(hi=0/\m=0))/\Hid (Below w.heap.size w wr))
 case atStart=>exact ⟨0,n,rfl,rfl,rfl,zNz _,zNr _,zNz _,.inl hm,Hd (zBr _ _)⟩
 case round =>
  obtain ⟨lo,hi,rfl,rfl,rfl,hlh,hin,hlm,hhm,HB⟩:=hrel
  by_cases hlt:lo<hi
  ·have hmid:(lo+hi) / 2<n:=by omega
   have C1:=CL.out ((lo+hi) / 2) wr hmid HB.out
   rw [show (((lo+hi) / 2:Nat):Int)=((lo:Int)+(hi:Int)) / 2 by omega] at C1
   have C2:=Hd C1
   clear C1 CL
   cases hf:f ((lo+hi) / 2) with
   | false =>
     have q1:(lo+hi) / 2<=m:=by
      by_cases h:(lo+hi) / 2<=m
      ·exact h
      ·have:=H2.out _ (by omega:m<(lo+hi) / 2) hmid;rw [hf] at this;cases this
     rw [hf] at C2
     go_wp2_with fail
     refine C2.out.mono ?_
     rintro e w1 ⟨rfl,HB1⟩
     clear C2
     go_wp2_with fail
     go_roundg (hi-((lo+hi) / 2+1))
     case measure=>omega
     case rel=>exact ⟨(lo+hi) / 2+1,hi,rfl,by congr 1,rfl,by omega,hin,by omega,hhm,HB1⟩
   | true =>
     have q1:m<(lo+hi) / 2\/(lo+hi) / 2=0:=by
      by_cases h:m<(lo+hi) / 2
      ·exact .inl h
      ·by_cases h0:(lo+hi) / 2=0
       ·exact .inr h0
       ·have:=H1.out ((lo+hi) / 2) (by omega) (by omega);rw [hf] at this;cases this
     rw [hf] at C2
     go_wp2_with fail
     refine C2.out.mono ?_
     rintro e w1 ⟨rfl,HB1⟩
     clear C2
     go_wp2_with fail
     go_roundg ((lo+hi) / 2-lo)
     case measure=>omega
     case rel=>exact ⟨lo,(lo+hi) / 2,rfl,rfl,by congr 1,by omega,by omega,hlm,by omega,HB1⟩
  ·obtain rfl:lo=hi:=by omega
   clear CL
   go_wp2_with fail
   go_ret
   exact ⟨lo,rfl,(by omega),HB.out⟩
theorem zpN (r m:Nat) (h:r=m+1\/(r=0/\m=0)):max ((r:Int)-1) 0=(m:Int):=by omega
theorem zsC (p:Nat) (d:Nd) (vk vv vi:Value) (A B:List ByteArray) (x key:ByteArray) (w:World) (h:NdV w p d vk vv vi) (hd:d.keys=A++x::B) (hl:d.len<=1000000) (hA:∀ y∈(A++[x]).tail,zah key y=false) (hB:∀ b∈B,zah key b=true) :
 Calls Tryz.prog 166 #[.pointer (some ⟨p,0,none⟩),.string key] w λ e w'=>e=.returned (.int .i64 (A.length:Nat))/\Hid (Below w.heap.size w w'):=by
 have hlen:d.keys.length=A.length+1+B.length:=by rw [hd];simp;omega
 obtain ⟨g,off,cap,ev,hcap,hc⟩:=h.ks.lit (by simp;omega)
 have hlt:d.keys.length<=1000000:=hl
 rw [zLm] at ev hcap
 subst ev
 have HC:=zeH hc
 have hk2:w.heap[p]?=some (.cells #[.bool d.isLeaf,.slice (some ⟨g,off,none⟩) d.keys.length cap,vv,vi] 222 (0,0)):=h.blk
 have hlt':=zab hk2
 have HS:Hid (∀ W,Below w.heap.size w W->W.heap.size >= w.heap.size+2->W.cell? ⟨w.heap.size,0,none⟩=some (.pointer (some ⟨p,0,none⟩))->W.cell? ⟨w.heap.size+1,0,none⟩=some (.string key) ->
  Calls Tryz.prog 205 #[.int .i64 (d.keys.length:Int),.func (Fn.func 206) #[] #[.pointer (some ⟨w.heap.size,0,none⟩),.pointer (some ⟨w.heap.size+1,0,none⟩)]] W λ e w'=>∃ r:Nat,e=.returned (.int .i64 (r:Int))/\Hid ((r=A.length+1\/(r=0/\A.length=0))/\Below w.heap.size w w')):=Hd λ W hW hWs b1 b2=>by
  refine (znP d.keys.length A.length (λ i=>zah key (d.keys.getD i ByteArray.empty)) w.heap.size (w.heap.size+1) W hlt (by omega) (λ t h1 h2=>?_) (λ t h1 h2=>?_) (Hd λ i W' hi hW'=>?_)).mono ?_
  ·rw [za3 _ _ (by omega)]
   refine hA _ ?_
   have:d.keys[t]'(by omega)=(A++[x]).tail[t-1]'(by simp;omega):=by
    have e:d.keys=(A++[x])++B:=by rw [hd];simp
    simp only [e]
    rw [List.getElem_append_left (by simp;omega),List.getElem_tail]
    congr 1;omega
   rw [this];exact List.getElem_mem _
  ·rw [za3 _ _ (by omega)]
   refine hB _ ?_
   have:d.keys[t]'(by omega)=B[t-(A.length+1)]'(by omega):=by
    have e:d.keys=(A++[x])++B:=by rw [hd];simp
    simp only [e]
    rw [List.getElem_append_right (by simp;omega)]
    simp
   rw [this];exact List.getElem_mem _
  ·have k1:W'.heap[p]?=_:=(hW'.block p (by omega)).trans ((hW.block p hlt').trans hk2)
   have k2:W'.cell? ⟨g,off+i,none⟩=some (.string (d.keys.getD i ByteArray.empty)):=by
    have:=HC i hi
    have hb:=World.block_lt_of_cell? w _ this
    exact (zCb ((hW'.block _ (Nat.lt_of_lt_of_le hb (by omega))).trans (hW.block _ hb))).trans this
   refine (zrr [] p _ _ i g off cap d.keys.length d.isLeaf vv vi key _ W' (0,0) k1 ?_ ?_ hi k2).mono ?_
   ·exact (zCb (hW'.block _ (by show w.heap.size<_;omega))).trans b1
   ·exact (zCb (hW'.block _ (by show w.heap.size+1<_;omega))).trans b2
   ·rintro e w' ⟨rfl,q,rfl⟩
    exact ⟨rfl,Below.drewN hW' q⟩
  ·rintro e w' ⟨r,rfl,a,b⟩
   exact ⟨r,rfl,a,hW.trans (b.mono (by omega))⟩
 have hmf:∀ (fn:Fn) (first cap:Array Value) (w:World),(Instr.makeFunc fn first cap).run Tryz.prog w=.ok (.func fn first cap) w:=λ _ _ _ _=>rfl
 have c1:w.cell? ⟨p,1,none⟩=some (.slice (some ⟨g,off,none⟩) d.keys.length cap):=zaa hk2 rfl
 have hAl:A.length<=1000000:=by omega
 have b1:((w.alloc (.cells #[.pointer (some ⟨p,0,none⟩)] 220)).alloc (.cells #[.string key] 9)).cell? ⟨w.heap.size,0,none⟩=some (.pointer (some ⟨p,0,none⟩)):=by
  have h1:=heap_alloc_new w (.cells #[.pointer (some ⟨p,0,none⟩)] 220)
  exact zaa ((((zBr (w.heap.size+1) (w.alloc (.cells #[.pointer (some ⟨p,0,none⟩)] 220))).alloc (by simp) (.cells #[.string key] 9)).block _ (by omega)).trans h1) rfl
 have b2:((w.alloc (.cells #[.pointer (some ⟨p,0,none⟩)] 220)).alloc (.cells #[.string key] 9)).cell? ⟨w.heap.size+1,0,none⟩=some (.string key):=by
  have h1:=heap_alloc_new (w.alloc (.cells #[.pointer (some ⟨p,0,none⟩)] 220)) (.cells #[.string key] 9)
  rw [World.size_alloc] at h1
  exact zaa h1 rfl
 have S1:=Hd (HS.out _ (((zBr w.heap.size w).alloc (zNr _) _).alloc (by simp) _) (by simp) b1 b2)
 generalize d.keys.length=nn at *
 clear h hd hl hA hB hcap hlen hlt hc HC hk2 HS b1 b2
 go_enter Tryz.func166,Tryz.ntmps166
 go_wp2_with fail
 refine S1.out.mono ?_
 rintro e w1 ⟨r,rfl,hr⟩
 have HR:=Hd hr
 have hr1:r<=1000001:=by have:=hr.1;omega
 clear hr S1
 have HM:=zpN r A.length HR.out.1
 go_wp2_with fail
 go_ret
 exact ⟨rfl,HR.out.2⟩
theorem zbu.yields {w:World} {v:Value} {xs:List Value} (h:zbu w v xs):zbV w v xs.length xs:=by
 rcases h with ⟨rfl,rfl⟩|⟨g,off,cap,rfl,hn,hc⟩
 ·exact ⟨none,0,rfl,λ _=>rfl,λ a e=>by cases e⟩
 ·refine ⟨some ⟨g,off,none⟩,cap,rfl,(λ e=>by cases e),λ a e j u hj=>?_⟩
  cases e
  rw [Addr.add_lit]
  obtain ⟨h1,h2⟩:=List.getElem?_eq_some_iff.1 hj
  rw [hc j h1,h2]
structure Oth (w:World) (q:Nat) (leaf:Bool) (K V:List ByteArray) (C:List Nat) (vk vv vi:Value):Prop where
 blk:w.heap[q]?=some (.cells #[.bool leaf,vk,vv,vi] 222 (0,0))
 ks:zbu w vk (K.map Value.string)
 vs:zbu w vv (V.map Value.string)
 is:zbu w vi (C.map zge)
theorem NdV.oth {w:World} {q:Nat} {d:Nd} {vk vv vi:Value} (h:NdV w q d vk vv vi):Oth w q d.isLeaf d.keys d.vals d.kids vk vv vi:=⟨h.blk,h.ks,h.vs,h.is⟩
theorem Oth.upd {w W:World} {q:Nat} {leaf:Bool} {K V:List ByteArray} {C:List Nat} {vk vv vi:Value} {F:Nat->Prop} (h:Oth w q leaf K V C vk vv vi) (hu:Upd F w W) (hn:∀ k,NdF q vk vv vi k->k<w.heap.size/\¬F k):Oth W q leaf K V C vk vv vi:=by
 have hk:∀ k,NdF q vk vv vi k->W.heap[k]?=w.heap[k]?:=λ k e=>hu.block k (hn k e).1 (hn k e).2
 exact ⟨(hk q (.inl rfl)).trans h.blk,h.ks.kept λ k e=>hk k (.inr (.inl e)),h.vs.kept λ k e=>hk k (.inr (.inr (.inl e))),h.is.kept λ k e=>hk k (.inr (.inr (.inr e)))⟩
theorem Oth.cells {w:World} {q:Nat} {leaf:Bool} {K V:List ByteArray} {C:List Nat} {vk vv vi:Value} (h:Oth w q leaf K V C vk vv vi):w.cell? ⟨q,1,none⟩=some vk/\w.cell? ⟨q,2,none⟩=some vv/\w.cell? ⟨q,3,none⟩=some vi/\q<w.heap.size :=
 ⟨zaa h.blk rfl,zaa h.blk rfl,zaa h.blk rfl,zab h.blk⟩
theorem zba {w w':World} {v:Value} (h:w.grownBy w' v.ownBlock):Upd (λ k=>v.ownBlock=some k) w w':=(Upd.refl _ _).grown h λ k e=>.inl e
theorem zeL {n m:Nat} (h:n<=90000) (h2:m<=90000):n+m<=maxLen/\(n+m)*16<=140737488355328/\(n+m)*8<=140737488355328:=by unfold maxLen;omega
theorem zgH {w:World} {v:Value} {K:List ByteArray} (h:zbu w v (K.map Value.string)) (hp:0<K.length) (hl:K.length<=90000) :
 Calls Tryz.prog 215 #[v] w λ e w'=>∃ g cap,e=.returned (.slice (some ⟨g,0,none⟩) K.length cap)/\Hid (w'.ownsRow w.heap.size 9 1 (.slice (some ⟨g,0,none⟩) K.length cap) K.length (K.map Value.string)/\Below w.heap.size w w'):=by
 obtain ⟨g,off,cap,rfl,hcap,hc⟩:=h.lit (by simpa using hp)
 have hs:=zeH hc
 rw [zLm]
 refine (Tryz.slices_Clone_string g off K.length cap K w (zNr _) (by omega) hs).mono ?_
 rintro e w' ⟨v',rfl,ho,hne,hb⟩
 rw [List.take_length] at ho
 rcases ho.2 with ⟨rfl,-⟩|⟨g',cap',cur,rfl,-⟩
 ·exact absurd rfl hne
 ·exact ⟨g',cap',rfl,ho,hb⟩
theorem zeM {w:World} {v v':Value} (h:v'.ownBlock=v.ownBlock\/v'.ownBlock=some w.heap.size):∀ k,v'.ownBlock=some k->v.ownBlock=some k\/w.heap.size<=k:=by
 intro k hk
 rcases h with e|e
 ·exact .inl (by rw [<-e];exact hk)
 ·rw [e] at hk;cases hk;exact .inr (zNr _)
theorem zrs (p q:Nat) (leaf:Bool) (K V:List ByteArray) (C:List Nat) (vk vv vi:Value) (K2 V2:List ByteArray) (C2:List Nat) (vk2 vv2 vi2:Value) (first:ByteArray) (w:World)
 (h:NdP w p leaf K V C vk vv vi) (ho:Oth w q leaf K2 V2 C2 vk2 vv2 vi2) (hn:∀ k,NdF q vk2 vv2 vi2 k->k<w.heap.size/\¬NdF p vk vv vi k) (hp:0<K2.length)
 (l1:K.length<=90000/\V.length<=90000/\C.length<=90000) (l2:K2.length<=90000/\V2.length<=90000/\C2.length<=90000) :
 Calls Tryz.prog 259 #[.pointer (some ⟨p,0,none⟩),.pointer (some ⟨q,0,none⟩),.string first] w λ e w'=>e=.returned (.tuple #[])/\Hid (∃ vk' vv' vi',NdS w w' (NdF p vk vv vi) p leaf (K++(if leaf then K2 else first::K2.tail)) (V++V2) (C++C2) vk' vv' vi'):=by
 have hqp:¬q=p:=λ e=>(hn q (.inl rfl)).2 (.inl e)
 have hpq:¬p=q:=λ e=>hqp e.symm
 have hnot:∀ (x:Bool) (w:World),(Op.unary .not (.bool x)).run Tryz.prog w=.ok (.bool (!x)) w:=λ _ _=>rfl
 have S0:Hid (NdS w w (NdF p vk vv vi) p leaf K V C vk vv vi):=Hd ⟨h,λ k e=>.inl e,Upd.refl _ _⟩
 have HO:=Hd ho
 have HN:=Hd hn
 have CL:=Hd (zgH ho.ks hp l2.1)
 have LK:=Hd (zeL l1.1 l2.1)
 have LV:=Hd (zeL l1.2.1 l2.2.1)
 have LC:=Hd (zeL l1.2.2 l2.2.2)
 obtain ⟨jS,hjS,hS0,hS1,hS2⟩:=info_parts zpJ
 obtain ⟨jI,hjI,hI0,hI1,hI2⟩:=info_parts zlo
 obtain ⟨c0,c1,c2,c3,cf,cl⟩:=h.cells
 obtain ⟨d1,d2,d3,dl⟩:=ho.cells
 have hK2:Hid (0<K2.length):=Hd hp
 clear h ho hn hp l1 l2
 go_enter Tryz.func259,Tryz.ntmps259
 go_wp2_with fail
 refine CL.out.mono ?_
 rintro e w1 ⟨g,cap,rfl,hR⟩
 have HR:=Hd hR
 clear hR
 have S1:=Hd (S0.out.below HR.out.2)
 obtain ⟨c0,c1,c2,c3,cf,cl⟩:=S1.out.nd.cells
 cases leaf with
 | true =>
   go_wp2_with (
    (refine zeA 63 63 ⟨_,_,by with_reducible rfl⟩ ?_
     refine zag (by rfl) _ _ _ rfl 0 9 jS _ 1 16 Tryz.underlying63 hjS hS0 hS1 hS2 rfl (by decide) _ _ _ (by rfl) S1.out.nd.ks _ K2.length _ (by rfl) (by have:=zbu.yields (zbu.of_own HR.out.1);rwa [zLm] at this) (by simp) (zdT _) LK.out.1 LK.out.2.1 (zNz _) ?_
     intro v1 W1 ho1 hg1 ha1
     obtain ⟨xa,xm,xc,rfl⟩:=zan ho1
     have S2:=Hd (S1.out.setK (K':=K++K2) (zba hg1) (by simpa using ho1) (zeM ha1))
     have e1:=S1.out.nd.cellsU (zba hg1) S1.out.nd.pk
     have e11:=e1.2.1
     have e1f:=e1.2.2.2.2.1 1
     clear ho1 hg1 ha1 e1))
   generalize W1.setCell ⟨p,1,none⟩ (.slice xa xm xc)=W2 at *
   clear e11 e1f S1 S0 HR CL
   obtain ⟨c0,c1,c2,c3,cf,cl⟩:=S2.out.nd.cells
   have cf2:=cf 2
   have O2:=Hd (HO.out.upd S2.out.upd HN.out)
   obtain ⟨d1,d2,d3,dl⟩:=O2.out.cells
   have T2:=Hd (S2.out.below (zBr _ _).drew)
   have P2:=Hd (HO.out.upd T2.out.upd HN.out)
   go_region_law (refine zat (by rfl) _ _ _ (by rfl) 0 9 jS _ 1 16 Tryz.underlying63 hjS hS0 hS1 hS2 rfl (by decide) _ _ _ (by rfl) T2.out.nd.vs _ V2.length _ (by rfl) (by have:=zbu.yields P2.out.vs;rwa [zLm] at this) (by simp) (zdT _) LV.out.1 LV.out.2.1 (zNz _) ?_
                  intro v3 W3 ho3 hg3 ha3
                  obtain ⟨ya,ym,yc,rfl⟩:=zan ho3
                  have S3:=Hd (T2.out.setV (V':=V++V2) (zba hg3) (by simpa using ho3) (zeM ha3))
                  have e3:=T2.out.nd.cellsU (zba hg3) T2.out.nd.pv
                  have e31:=e3.2.2.1
                  have e3f:=e3.2.2.2.2.1 2
                  clear ho3 hg3 ha3 e3)
   all_goals (
    go_wp2_with fail
    generalize W3.setCell ⟨p,2,none⟩ (.slice ya ym yc)=W4 at *
    clear e31 e3f S2 T2 O2 P2 c0 c1 c2 c3 cf cl cf2 d1 d2 d3 dl
    obtain ⟨c0,c1,c2,c3,cf,cl⟩:=S3.out.nd.cells
    have cf3:=cf 3
    have O4:=Hd (HO.out.upd S3.out.upd HN.out)
    obtain ⟨d1,d2,d3,dl⟩:=O4.out.cells
    have T4:=Hd (S3.out.below (zBr _ _).drew)
    have P4:=Hd (HO.out.upd T4.out.upd HN.out)
    go_region_law (refine zat (by rfl) _ _ _ (by rfl) 0 3 jI _ 1 8 Tryz.underlying191 hjI hI0 hI1 hI2 rfl (by decide) _ _ _ (by rfl) T4.out.nd.is _ C2.length _ (by rfl) (by have:=zbu.yields P4.out.is;rwa [zLm] at this) (by simp) (ziB _) LC.out.1 LC.out.2.2 (zNz _) ?_
                   intro v5 W5 ho5 hg5 ha5
                   obtain ⟨za,zm,zc,rfl⟩:=zan ho5
                   have S5:=Hd (T4.out.setI (C':=C++C2) (zba hg5) (by simpa using ho5) (zeM ha5))
                   have e5:=T4.out.nd.cellsU (zba hg5) T4.out.nd.pi
                   have e51:=e5.2.2.2.1
                   have e5f:=e5.2.2.2.2.1 3
                   clear ho5 hg5 ha5 e5))
   all_goals (
    go_wp2_with fail
    go_end0
    exact ⟨rfl,_,_,_,S5.out⟩)
 | false =>
   obtain ⟨r1,r2⟩:=World.ownsRow.stored HR.out.1 0 (.string first)
   have hg0:=World.ownsRow.lt HR.out.1 g rfl
   have hgc:w1.cell? ⟨g,0,none⟩=some (.string (K2[0]'hK2.out)):=by
    have:=World.ownsRow.cellAt HR.out.1 0 (by have:=hK2.out;omega)
    rw [this];simp [hK2.out]
   have hgf:=World.ownsRow.frozenAt HR.out.1 0
   have h0:(0:Int)<(K2.length:Int):=by have:=hK2.out;omega
   have RS:=Hd (show ((w1.setCell ⟨g,0,none⟩ (.string first)).ownsRow w.heap.size 9 1 (.slice (some ⟨g,0,none⟩) K2.length cap) K2.length ((first::K2.tail).map Value.string)) by
    have e:(K2.map Value.string).set 0 (.string first)=(first::K2.tail).map Value.string:=by
     cases K2 with
     | nil=>exact absurd hK2.out (by simp)
     | cons a t=>rfl
    rw [<-e];exact r1)
   have hlK:(first::K2.tail).length=K2.length:=by have:=hK2.out;simp;omega
   have HLK:=Hd hlK
   have S1s:=Hd (S0.out.below (HR.out.2.setCell (p:=⟨g,0,none⟩) hg0.1 (.string first)))
   obtain ⟨s0,s1,s2,s3,sf,sl⟩:=S1s.out.nd.cells
   clear r1 r2 hlK
   go_wp2_with (
    (refine zeA 63 63 ⟨_,_,by with_reducible rfl⟩ ?_
     refine zag (by rfl) _ _ _ rfl 0 9 jS _ 1 16 Tryz.underlying63 hjS hS0 hS1 hS2 rfl (by decide) _ _ _ (by rfl) S1s.out.nd.ks _ K2.length _ (by rfl) (by have:=zbu.yields (zbu.of_own RS.out);rwa [zLm,HLK.out] at this) (by rw [zLm,HLK.out,Nat.mul_one]) (zdT _) LK.out.1 LK.out.2.1 (zNz _) ?_
     intro v1 W1 ho1 hg1 ha1
     obtain ⟨xa,xm,xc,rfl⟩:=zan ho1
     have S2:=Hd (S1s.out.setK (K':=K++first::K2.tail) (zba hg1) (by have:=ho1;rw [<-HLK.out] at this;simpa using this) (zeM ha1))
     have e1:=S1s.out.nd.cellsU (zba hg1) S1s.out.nd.pk
     have e11:=e1.2.1
     have e1f:=e1.2.2.2.2.1 1
     clear ho1 hg1 ha1 e1))
   generalize W1.setCell ⟨p,1,none⟩ (.slice xa xm xc)=W2 at *
   clear e11 e1f S1 S1s S0 HR CL RS s0 s1 s2 s3 sf sl hgc hgf
   obtain ⟨c0,c1,c2,c3,cf,cl⟩:=S2.out.nd.cells
   have cf2:=cf 2
   have O2:=Hd (HO.out.upd S2.out.upd HN.out)
   obtain ⟨d1,d2,d3,dl⟩:=O2.out.cells
   have T2:=Hd (S2.out.below (zBr _ _).drew)
   have P2:=Hd (HO.out.upd T2.out.upd HN.out)
   go_region_law (refine zat (by rfl) _ _ _ (by rfl) 0 9 jS _ 1 16 Tryz.underlying63 hjS hS0 hS1 hS2 rfl (by decide) _ _ _ (by rfl) T2.out.nd.vs _ V2.length _ (by rfl) (by have:=zbu.yields P2.out.vs;rwa [zLm] at this) (by simp) (zdT _) LV.out.1 LV.out.2.1 (zNz _) ?_
                  intro v3 W3 ho3 hg3 ha3
                  obtain ⟨ya,ym,yc,rfl⟩:=zan ho3
                  have S3:=Hd (T2.out.setV (V':=V++V2) (zba hg3) (by simpa using ho3) (zeM ha3))
                  have e3:=T2.out.nd.cellsU (zba hg3) T2.out.nd.pv
                  have e31:=e3.2.2.1
                  have e3f:=e3.2.2.2.2.1 2
                  clear ho3 hg3 ha3 e3)
   all_goals (
    go_wp2_with fail
    generalize W3.setCell ⟨p,2,none⟩ (.slice ya ym yc)=W4 at *
    clear e31 e3f S2 T2 O2 P2 c0 c1 c2 c3 cf cl cf2 d1 d2 d3 dl
    obtain ⟨c0,c1,c2,c3,cf,cl⟩:=S3.out.nd.cells
    have cf3:=cf 3
    have O4:=Hd (HO.out.upd S3.out.upd HN.out)
    obtain ⟨d1,d2,d3,dl⟩:=O4.out.cells
    have T4:=Hd (S3.out.below (zBr _ _).drew)
    have P4:=Hd (HO.out.upd T4.out.upd HN.out)
    go_region_law (refine zat (by rfl) _ _ _ (by rfl) 0 3 jI _ 1 8 Tryz.underlying191 hjI hI0 hI1 hI2 rfl (by decide) _ _ _ (by rfl) T4.out.nd.is _ C2.length _ (by rfl) (by have:=zbu.yields P4.out.is;rwa [zLm] at this) (by simp) (ziB _) LC.out.1 LC.out.2.2 (zNz _) ?_
                   intro v5 W5 ho5 hg5 ha5
                   obtain ⟨za,zm,zc,rfl⟩:=zan ho5
                   have S5:=Hd (T4.out.setI (C':=C++C2) (zba hg5) (by simpa using ho5) (zeM ha5))
                   have e5:=T4.out.nd.cellsU (zba hg5) T4.out.nd.pi
                   have e51:=e5.2.2.2.1
                   have e5f:=e5.2.2.2.2.1 3
                   clear ho5 hg5 ha5 e5))
   all_goals (
    go_wp2_with fail
    go_end0
    exact ⟨rfl,_,_,_,S5.out⟩)
end Go.Proofs.YtdcjhpafipbpkaaGreatDoor
