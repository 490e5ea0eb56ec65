/- Parts of the proof of ChunksRuns,joined: PackA,RoomG,RoomH,Shelfi,TreeA,TreeB,TreeC,TreeD,TreeE,TreeF,TreeG,TreeH. No condition. -/
import Derived.Test.YtdcjhpafipbpkaaGreatDoorCx3
import Derived.WalkSpells
import Derived.WalkLawsBesides
import Derived.Deep.LoopGhost
import Derived.Deep.RegionHeld3
import Derived.Deep.AppendLies
import Derived.Deep.DrawnRows
import Derived.Ground.Names2Prog
import Derived.Shelf.Spec.SlicesInsertGrow
import Derived.Shelf.Spec.SlicesInsert
import Derived.Shelf.Spec.SearchS
import Derived.Test.YtdcjhpafipbpkaaGreatDoorProg
import Derived.Laws.OwnMore
import Derived.OwnWalk
import Derived.BigQuiet
set_option linter.unusedSimpArgs false
set_option linter.unusedVariables false
set_option linter.unusedSectionVars false
namespace Go.Proofs.YtdcjhpafipbpkaaGreatDoor
open Go.RowKit
def widthB (c:Int):Int:=if c=110 then 8 else if c=104 then 4 else if c=98 then 1 else 0
theorem width_c (c:Int) (w:World):Calls Tryz.prog 121 #[.int .u8 c] w fun e w'=>e=.returned (.int .i64 (widthB c)) /\ w=w':=by
 by_cases h1:c=110
 ·subst h1
  go_enter Tryz.func121,Tryz.ntmps121
  go_wp2
  go_ret
  exact ⟨rfl,rfl⟩
 ·by_cases h2:c=104
  ·subst h2
   go_enter Tryz.func121,Tryz.ntmps121
   go_wp2
   go_ret
   exact ⟨rfl,rfl⟩
  ·by_cases h3:c=98
   ·subst h3
    go_enter Tryz.func121,Tryz.ntmps121
    go_wp2
    go_ret
    exact ⟨rfl,rfl⟩
   ·have q1:(c == 110)=false:=by simpa using h1
    have q2:(c == 104)=false:=by simpa using h2
    have q3:(c == 98)=false:=by simpa using h3
    have e:widthB c=0:=by simp [widthB,h1,h2,h3]
    rw [e]
    clear h1 h2 h3 e
    go_enter Tryz.func121,Tryz.ntmps121
    go_wp2
    go_ret
    exact ⟨rfl,rfl⟩
def Bld (B b:Nat) (l:List UInt8) (w:World):Prop:=Lib.IsBuilderF 156 5 B b (Lib.byteCells l) w
def be:Nat -> Nat -> List UInt8
 | _,0=>[]
 | n,w + 1=>UInt8.ofNat (n / 256 ^ w % 256) :: be n w
theorem be_length (n w:Nat):(be n w).length=w:=by induction w with
 | zero=>rfl
 | succ w ih=>simp [be,ih]
theorem be_get (n w i:Nat) (h:i < w):(be n w)[i]?=some (UInt8.ofNat (n / 256 ^ (w - 1 - i) % 256)):=by
 induction w generalizing i with
 | zero=>omega
 | succ w ih =>
   cases i with
   | zero=>simp [be]
   | succ i =>
     simp only [be,List.getElem?_cons_succ]
     rw [ih i (by omega)]
     congr 5
     omega
theorem be_step (n w g:Nat) (h0:1 <= g) (h1:g <= w):(be n w).take (w - (g - 1))=(be n w).take (w - g) ++ [UInt8.ofNat (n / 256 ^ (g - 1) % 256)]:=by
 have e:w - (g - 1)=(w - g) + 1:=by omega
 rw [e,List.take_add_one,be_get _ _ _ (by omega)]
 simp only [Option.toList_some]
 rw [show w - 1 - (w - g)=g - 1 by omega]
theorem byteCells_snoc (l:List UInt8) (c:UInt8):Lib.byteCells (l ++ [c])=Lib.byteCells l ++ [.int .u8 c.toNat]:=by simp [Lib.byteCells]
theorem byteCells_length (l:List UInt8):(Lib.byteCells l).length=l.length:=by simp [Lib.byteCells]
theorem pow256 (k:Nat):2 ^ (8 * k)=256 ^ k:=by rw [Nat.pow_mul]
theorem byteOf (n k:Nat):(((UInt8.ofNat (n / 256 ^ k % 256)).toNat:Nat):Int)=(n:Int) / 2 ^ (8 * k) % 256:=by
 have h:(UInt8.ofNat (n / 256 ^ k % 256)).toNat=n / 256 ^ k % 256:=by
  rw [UInt8.toNat_ofNat']; exact Nat.mod_eq_of_lt (Nat.mod_lt _ (by decide))
 rw [h]
 have:(2:Int) ^ (8 * k)=((256 ^ k:Nat):Int):=by rw [<- pow256]; simp
 rw [this]; simp
theorem Bld.of {B b:Nat} {l:List UInt8} {w:World} (h:Lib.BuilderAtF 156 5 B b (.pointer (some ⟨b,0,none⟩)) (Lib.byteCells l) w):Bld B b l w:=.inr h
def NumRel (B b n wd:Nat) (l:List UInt8) (w:World) (g:Nat) (s6:Value) (wr:World):Prop :=
 g <= wd /\ s6=.int .i64 (8 * ((g:Int) - 1)) /\ Bld B b (l ++ (be n wd).take (wd - g)) wr /\ Below B w wr /\ Lib.OthersKept 5 (some b) w wr
set_option maxHeartbeats 400000 in
theorem number_c (B b n wd:Nat) (l:List UInt8) (w:World) (h:Bld B b l w) (hB:B <= w.heap.size) (hn:n < 18446744073709551616) (hw:wd <= 8) (hl:l.length <= 100000000000) :
 Calls Tryz.prog 122 #[.pointer (some ⟨b,0,none⟩),.int .u64 n,.int .i64 wd] w fun e w'=>e=.returned (.tuple #[]) /\ Hid (Bld B b (l ++ be n wd) w' /\ Below B w w' /\ Lib.OthersKept 5 (some b) w w'):=by
 have R0:=Hd (show NumRel B b n wd l w wd (.int .i64 (8 * ((wd:Int) - 1))) w from ⟨Nat.le_refl _,rfl,by simpa using h,Below.refl _ _,Lib.OthersKept.refl _ _ _⟩)
 clear h
 go_enter Tryz.func122,Tryz.ntmps122
 go_wp2_with fail
 go_loopg [6] wd (fun g s6 wr=>NumRel B b n wd l w g s6 wr)
 case atStart=>exact R0.out
 case round =>
  obtain ⟨h1,rfl,h2,h3,h4⟩:=hrel
  clear R0
  have HB:=Hd h2
  have HL:=Hd h3
  have HO:=Hd h4
  clear h2 h3 h4
  by_cases hg:gk=0
  ·subst hg
   have e:8 * (((0:Nat):Int) - 1) < 0:=by omega
   have He:Hid (Bld B b (l ++ be n wd) wr /\ Below B w wr /\ Lib.OthersKept 5 (some b) w wr):=Hd ⟨by have:=HB.out; rwa [List.take_of_length_le (by rw [be_length]; omega)] at this,HL.out,HO.out⟩
   go_wp2_with fail
   go_end0
   exact ⟨rfl,He⟩
  ·have g1:0 <= 8 * ((gk:Int) - 1):=by omega
   have g2:8 * ((gk:Int) - 1) <= 56:=by omega
   have hs:=HL.out.size
   have wb:=Tryz.Builder_WriteByte_k B b _ (((UInt8.ofNat (n / 256 ^ (gk - 1) % 256)).toNat:Nat):Int) wr HB.out (by simp [Lib.byteCells]; have:=List.length_take_le (wd - gk) (be n wd); omega) (by omega)
   rw [<- byteCells_snoc,List.append_assoc,<- be_step n wd gk (by omega) h1,byteOf] at wb
   go_wp2_with fail
   refine wb.mono ?_
   rintro e w' ⟨rfl,g3,g4,g5⟩
   have R1:=Hd (show NumRel B b n wd l w (gk - 1) (.int .i64 (8 * ((gk:Int) - 1) - 8)) w' from ⟨by omega,by congr 1; omega,Bld.of g3,(HL.out).trans g4,(HO.out).trans g5⟩)
   clear g3 g4 g5 wb hs
   go_wp2_with fail
   go_roundg (gk - 1)
   case measure=>omega
   case rel=>exact R1.out
def toldN:Nat -> List UInt8 -> Nat
 | n,[]=>n
 | n,c :: r=>toldN (n * 256 % 18446744073709551616 + c.toNat) r
theorem toldN_append (n:Nat) (a b:List UInt8):toldN n (a ++ b)=toldN (toldN n a) b:=by
 induction a generalizing n with
 | nil=>rfl
 | cons c r ih=>simp [toldN,ih]
theorem toldN_lt (n:Nat) (hn:n < 18446744073709551616) (l:List UInt8):toldN n l < 18446744073709551616:=by
 induction l generalizing n with
 | nil=>exact hn
 | cons c r ih =>
   refine ih _ ?_
   have:=c.toNat_lt
   omega
def ToldRel (s:ByteArray) (W:World) (g:Nat) (s3 s9:Value) (wr:World):Prop :=
 ∃ k,g=s.size - k /\ k <= s.size /\ s3=.int .u64 (toldN 0 (s.data.toList.take k)) /\ s9=.int .i64 k /\ W=wr
theorem told_step (s:ByteArray) (k:Nat) (h:k < s.size):toldN 0 (s.data.toList.take (k + 1))=toldN 0 (s.data.toList.take k) * 256 % 18446744073709551616 + s.data[k].toNat:=by
 have h':k < s.data.toList.length:=by simpa using h
 rw [List.take_succ_eq_append_getElem h',toldN_append]
 simp [toldN]
theorem or_byte (n c:Nat) (hc:c < 256):bits .or .u64 (IntKind.u64.wrap ((n:Int) * 256)) (c:Int)=((n * 256 % 18446744073709551616 + c:Nat):Int):=by
 have e:IntKind.u64.wrap ((n:Int) * 256)=((n * 256 % 18446744073709551616:Nat):Int):=by
  simp [IntKind.wrap,IntKind.bits,IntKind.signed]
 rw [e,u64_or_nat _ _ (Nat.mod_lt _ (by decide)) (by omega)]
 have h:n * 256 % 18446744073709551616=(n % 72057594037927936) <<< 8:=by
  rw [Nat.shiftLeft_eq]; omega
 rw [h,Nat.shiftLeft_add_eq_or_of_lt (by simpa using hc)]
theorem ret_u64 {a b:Nat} (h:a=b):Ending.returned (.int .u64 (a:Int))=.returned (.int .u64 (b:Int)):=by rw [h]
set_option maxHeartbeats 400000 in
theorem told_c (s:ByteArray) (w:World) (hs:s.size <= 1000000000) :
 Calls Tryz.prog 143 #[.string s] w fun e w'=>e=.returned (.int .u64 (toldN 0 s.data.toList)) /\ Below w.heap.size w w':=by
 have hcv:=run_bytes_of_string w 9 91 5 s Tryz.underlying9 Tryz.underlying91 Tryz.underlying5
 go_enter Tryz.func143,Tryz.ntmps143
 go_wp2_with fail
 have hc:∀ j (h:j < s.size),((w.alloc (.cells (bytesRow s (grownCap w s.size 0 5)) 5 ((bytesRow s (grownCap w s.size 0 5)).size,(bytesRow s (grownCap w s.size 0 5)).size + 1))).drew).cell? ⟨w.heap.size,j,none⟩=some (.int .u8 (s.data[j].toNat:Int)):=by
  intro j h
  rw [World.cell?_drew,World.cell?_alloc_mark]
  exact bytesRow_at s _ j h
 have hb:Below w.heap.size w ((w.alloc (.cells (bytesRow s (grownCap w s.size 0 5)) 5 ((bytesRow s (grownCap w s.size 0 5)).size,(bytesRow s (grownCap w s.size 0 5)).size + 1))).drew):=((Below.refl _ _).alloc (Nat.le_refl _) _).drew
 generalize (w.alloc (.cells (bytesRow s (grownCap w s.size 0 5)) 5 ((bytesRow s (grownCap w s.size 0 5)).size,(bytesRow s (grownCap w s.size 0 5)).size + 1))).drew=W at *
 have HC:=Hd hc
 have HB:=Hd hb
 clear hcv hc hb
 go_loopg [3,9] s.size (fun g s3 s9 wr=>ToldRel s W g s3 s9 wr)
 case atStart=>exact ⟨0,by omega,Nat.zero_le _,rfl,rfl,rfl⟩
 case round =>
  obtain ⟨k,rfl,hk,rfl,rfl,rfl⟩:=hrel
  by_cases hlt:k < s.size
  ·have c1:=HC.out k hlt
   have n1:=toldN_lt 0 (by decide) (s.data.toList.take k)
   have c2:=s.data[k].toNat_lt
   have HS:=Hd (told_step s k hlt)
   generalize toldN 0 (s.data.toList.take k)=n at *
   generalize s.data[k].toNat=c at *
   go_wp2_with fail
   go_roundg (s.size - (k + 1))
   case measure=>omega
   case rel =>
    exact ⟨k + 1,rfl,by omega,by rw [HS.out,or_byte n c c2],by simp,rfl⟩
  ·obtain rfl:k=s.size:=by omega
   go_wp2_with fail
   go_ret
   exact ⟨ret_u64 (by rw [List.take_of_length_le (by simp)]),HB.out⟩
set_option maxRecDepth 100000
set_option maxHeartbeats 2000000
theorem bld_begin (w:World):Bld w.heap.size w.heap.size [] (w.alloc (.cells #[.pointer none,.slice none 0 0] 156)) :=
 .inl ⟨Nat.le_refl _,_,heap_alloc_new _ _,World.ownsRowF_of (World.ownsRow_nil _ _ _ _),by simp [Value.ownBlock]⟩
theorem bld_str (B b:Nat) (l:List UInt8) (S:ByteArray) (w:World) (h:Bld B b l w) (hB:B <= w.heap.size) (hl:l.length + S.size <= 100000000000) :
 Calls Tryz.prog 82 #[.pointer (some ⟨b,0,none⟩),.string S] w fun e w'=>e=.returned (.tuple #[.int .i64 S.size,.nilIface]) /\ (Bld B b (l ++ S.data.toList) w' /\ Below B w w'):=by
 refine (Tryz.Builder_WriteString_k B b (Lib.byteCells l) S w h (by rw [byteCells_length]; omega) hB).mono ?_
 rintro e w' ⟨rfl,h1,h2,h3⟩
 refine ⟨rfl,?_,h2⟩
 have e:Lib.byteCells l ++ Lib.strCells S=Lib.byteCells (l ++ S.data.toList):=by rw [Lib.strCells_eq]; simp [Lib.byteCells]
 rw [e] at h1
 exact Bld.of h1
theorem be8_snoc (v n:Nat):be8 v (n + 1)=be8 v n ++ [UInt8.ofNat (v / 256 ^ (7 - n) % 256)]:=by
 unfold be8; rw [List.range_succ,List.map_append]; rfl
theorem be8_len (v n:Nat):(be8 v n).length=n:=by simp [be8]
def SRRel (w:World) (B:Nat) (l:List UInt8) (v:Nat) (g:Nat) (s10:Value) (wr:World):Prop :=
 g <= 8 /\ s10=.int .i64 (8 * ((g:Int) - 1)) /\ Bld B B (l ++ be8 v (8 - g)) wr /\ B <= wr.heap.size /\ Below B w wr
def setRootS (S:RS) (k v:Nat):RS:=⟨upd S.root k v,S.used,S.cont,S.base⟩
theorem rep_root {n:Nat} {puts:List (Int × ByteArray)} {S:RS} {k v:Nat} (hr:Rep n puts S) (hv:v < 18446744073709551616):Rep n (puts ++ [((0:Int),rootsB (upd S.root k v))]) (setRootS S k v):=by
 refine ⟨?_,fun q=>?_,fun m hm=>?_,hr.lim,fun q h=>?_,hr.base.trans (List.prefix_append _ _)⟩
 ·rw [txRead_put,if_pos rfl]; rfl
 ·show upd S.root k v q < _
  unfold upd; split
  ·exact hv
  ·exact hr.rb q
 ·rw [txRead_put,if_neg (by omega)]; exact hr.bits m hm
 ·rw [txRead_put,if_neg (by omega)]; exact hr.page q h
theorem SetRoot_c (G:Nat -> Prop) (rb n:Nat) (puts:List (Int × ByteArray)) (S:RS) (k v:Nat) (w:World) (h:Rm w G rb n puts) (hr:Rep n puts S) (hl:puts.length <= 4000000) (hk:k < 16) (hv:v < 18446744073709551616) :
 Calls Tryz.prog 72 #[.pointer (some ⟨rb,0,none⟩),.int .i64 k,.int .u64 v] w fun e w'=>e=.returned (.int .i64 0) /\ Hid (RoomGo w w' G rb n puts (setRootS S k v) 1):=by
 have hbd:=h.bounds
 have HO:=home_c G rb n puts 0 w h hl
 rw [hr.r0] at HO
 obtain ⟨tb,lb,FL,F,h1⟩:=h
 have H1:=Hd h1
 have TW:Hid (∀ W,Below w.heap.size w W -> Calls Tryz.prog 94 #[.pointer (some ⟨tb,0,none⟩),.int .i64 0,.string (rootsB (upd S.root k v))] W fun e w'=>e=.returned (.int .i64 0) /\ w'.cell? ⟨rb,0,none⟩=some (.pointer (some ⟨tb,0,none⟩)) /\ Hid (RoomGo w w' G rb n puts (setRootS S k v) 1)):=Hd fun W hW=>by
  have hw:=H1.out.below hW
  have:=TWrite_c tb lb n FL F puts 0 (rootsB (upd S.root k v)) W hw.chg hl
  rw [txWrite_ok (by omega) (by omega) (by rw [rootsB_size]; omega),pad_full (rootsB_size _)] at this
  refine this.mono ?_
  rintro e w' ⟨rfl,F',hc,ht⟩
  obtain ⟨a,b⟩:=hw.write hc ht
  exact ⟨rfl,a.c.1,_,_,by simp,⟨tb,lb,FL,F',a⟩,rep_root hr hv,b.below_left hW⟩
 have C0:Hid (∀ W,Below w.heap.size w W -> W.cell? ⟨rb,0,none⟩=some (.pointer (some ⟨tb,0,none⟩))):=Hd fun W hW=>(H1.out.below hW).c.1
 have hset:=roots_set S.root k v hk
 obtain ⟨y1,hy1⟩:=exE ((rootsB S.root).extract 0 (8 * k))
 obtain ⟨y2,hy2⟩:=exE ((rootsB S.root).extract (8 * k + 8) (rootsB S.root).size)
 have d1:y1.data.toList=(rootsL S.root).take (8 * k):=by rw [<- hy1]; simp [rootsB]
 have d2:y2.data.toList=(rootsL S.root).drop (8 * k + 8):=by
  rw [<- hy2,rootsB_size]
  have:(rootsB S.root).data.toList=rootsL S.root:=rfl
  simp only [ByteArray.data_extract,Array.toList_extract,List.extract,this]
  rw [List.take_of_length_le (by rw [List.length_drop,rootsL_length]; omega)]
 have hsz:=rootsB_size S.root
 rw [hsz] at hy2
 have hfin:Hid ((⟨(y1.data.toList ++ be8 v 8 ++ y2.data.toList).toArray⟩:ByteArray)=rootsB (upd S.root k v)):=Hd (by rw [d1,d2,hset]; rfl)
 have l1:y1.data.toList.length=8 * k:=by rw [d1,List.length_take,rootsL_length]; omega
 have l2:y2.size <= 512:=by rw [Lib.size_eq,d2,List.length_drop,rootsL_length]; omega
 have l1':y1.size=8 * k:=by rw [Lib.size_eq,l1]
 clear h1 hr hset d1 d2 H1
 generalize rootsB (upd S.root k v)=zz at *
 generalize rootsB S.root=z at *
 go_enter Tryz.func72,Tryz.ntmps72
 go_wp2_with fail
 refine HO.mono ?_
 rintro e w1 ⟨rfl,hb⟩
 have HB:=Hd hb
 clear hb HO
 have HW1:=Hd (bld_str w1.heap.size w1.heap.size [] y1 _ (bld_begin w1) (by simp) (by simp; omega))
 go_wp2_with fail
 refine (HW1.out).mono ?_
 rintro e w2 ⟨rfl,hb2,hb2'⟩
 have hsz2:w1.heap.size <= w2.heap.size:=by have:=hb2'.size; simp at this; omega
 have HR0:Hid (SRRel w1 w1.heap.size y1.data.toList v 8 (.int .i64 56) w2):=Hd ⟨Nat.le_refl _,rfl,by simpa [be8] using hb2,hsz2,((Below.refl w1.heap.size w1).alloc (Nat.le_refl _) _).trans hb2'⟩
 clear hb2 hb2' HW1
 go_wp2_with fail
 go_loopg [10] 8 (fun g s10 wr=>SRRel w1 w1.heap.size y1.data.toList v g s10 wr)
 case atStart=>exact HR0.out
 case round =>
  obtain ⟨hg8,rfl,h2,h3,h4⟩:=hrel
  clear HR0
  have HBL:=Hd h2
  have HBB:=Hd h4
  clear h2 h4
  by_cases hg:gk=0
  ·subst hg
   have e:8 * (((0:Nat):Int) - 1) < 0:=by omega
   have HW2:=Hd (bld_str w1.heap.size w1.heap.size _ y2 wr HBL.out h3 (by rw [List.length_append,be8_len,l1]; omega))
   go_wp2_with fail
   refine (HW2.out).mono ?_
   rintro e w3 ⟨rfl,hb3,hb3'⟩
   have HB3:=Hd ((HB.out).trans ((((HBB.out).trans hb3')).mono (HB.out).size))
   have hs3:w1.heap.size <= w3.heap.size:=Nat.le_trans h3 hb3'.size
   have c0:=C0.out _ HB3.out
   have hs1:w.heap.size <= w1.heap.size:=(HB.out).size
   have ST:=Hd (Tryz.Builder_String_any_k w1.heap.size w1.heap.size _ w3.drew (show Bld w1.heap.size w1.heap.size _ w3.drew from hb3) (by simpa using hs3))
   rw [hfin.out] at ST
   have HD:=Hd ((HB3.out).drew)
   clear hb3 hb3' HW2 HBL HBB
   go_wp2_with fail
   go_region_held3 (fun w'=>w'.cell? ⟨rb,0,none⟩=some (.pointer (some ⟨tb,0,none⟩))) (go_keep) ((first
    | (go_at_call 83; refine Calls.at_args ST.out (by with_reducible rfl) ?_; rintro e w4 ⟨rfl,-,hb4,-⟩; have HB4:=Hd ((HD.out).trans (hb4.mono hs1)); have c1:=C0.out _ HB4.out; have TW3:=Hd (TW.out _ HB4.out); clear hb4)
    | (go_at_call 94; refine Calls.at_args TW3.out (by with_reducible rfl) ?_; rintro e w5 ⟨rfl,c3,hgo⟩; have HGO:=Hd hgo.out; clear hgo)))
   go_wp2_with fail
   go_ret
   exact ⟨rfl,HGO⟩
  ·have g1:0 <= 8 * ((gk:Int) - 1):=by omega
   have g2:8 * ((gk:Int) - 1) <= 56:=by omega
   have wb:=Tryz.Builder_WriteByte_k w1.heap.size w1.heap.size _ (((UInt8.ofNat (v / 256 ^ (gk - 1) % 256)).toNat:Nat):Int) wr HBL.out (by simp [Lib.byteCells,be8_len]; omega) h3
   rw [<- byteCells_snoc,List.append_assoc,show be8 v (8 - gk) ++ [UInt8.ofNat (v / 256 ^ (gk - 1) % 256)]=be8 v (8 - (gk - 1)) by rw [show 8 - (gk - 1)=(8 - gk) + 1 by omega,be8_snoc,show 7 - (8 - gk)=gk - 1 by omega],byteOf] at wb
   go_wp2_with fail
   refine wb.mono ?_
   rintro e w' ⟨rfl,g3,g4,g5⟩
   have R1:Hid (SRRel w1 w1.heap.size y1.data.toList v (gk - 1) (.int .i64 (8 * ((gk:Int) - 1) - 8)) w'):=Hd ⟨by omega,by congr 1; omega,Bld.of g3,Nat.le_trans h3 g4.size,(HBB.out).trans g4⟩
   clear g3 g4 g5 wb
   go_wp2_with fail
   go_roundg (gk - 1)
   case measure=>omega
   case rel=>exact R1.out
set_option maxHeartbeats 1000000
theorem Of_c (tb lb n:Nat) (FL F:Nat -> Prop) (puts:List (Int × ByteArray)) (w:World) (h:Chg w FL F tb lb n puts) (h4:4 <= n) :
 Calls Tryz.prog 16 #[.pointer (some ⟨tb,0,none⟩)] w fun e w'=>∃ rb G,e=.returned (.pointer (some ⟨rb,0,none⟩)) /\ Hid (Rm w' G rb n puts /\ (∀ k,G k -> (FL k \/ F k) \/ w.heap.size <= k) /\ Below w.heap.size w w'):=by
 have hn:n <= 65335:=by obtain ⟨db,mo,mf,mn,hl⟩:=h.log; exact hl.n1
 have HM:=THomes_c tb lb n FL F puts w h
 have PG:=Hd (fun w=>Pages_c n w h4 hn)
 have MO:=Hd (fun w=>mapsOf_c n w hn)
 have H:=Hd h
 clear h
 go_enter Tryz.func16,Tryz.ntmps16
 go_wp2_with fail
 refine HM.mono ?_
 rintro e w1 ⟨rfl,hb⟩
 have HB:=Hd hb
 clear hb
 go_wp2_with (first | (go_at_call 57; refine (PG.out _).mono ?_; rintro e w2 ⟨rfl,rfl⟩) | (go_at_call 59; refine (MO.out _).mono ?_; rintro e w3 ⟨rfl,rfl⟩))
 go_ret
 have hc:=(H.out.below HB.out).below ((Below.refl w1.heap.size w1).alloc (Nat.le_refl _) (.cells #[.pointer (some ⟨tb,0,none⟩),.int .i64 (mapsN n:Int),.int .i64 (pagesN n:Int)] 116))
 have l1:=(H.out.below HB.out).log.lt
 have l2:=(H.out.below HB.out).tx.lt
 refine ⟨_,fun k=>FL k \/ F k \/ k=w1.heap.size,rfl,⟨tb,lb,FL,F,⟨hc,heap_alloc_new _ _,fun e=>?_,fun e=>?_,fun k=>Iff.rfl⟩⟩,fun k hk=>?_,(HB.out).alloc (HB.out).size _⟩
 ·have:=l1 _ e; omega
 ·have:=l2 _ e; omega
 ·rcases hk with a | a | rfl
  ·exact .inl (.inl a)
  ·exact .inl (.inr a)
  ·exact .inr (HB.out).size
theorem New_k (n:Int) (w:World) (h1:1 <= n) (h2:n <= 65536) :
 Calls Tryz.prog 55 #[.int .i64 n] w fun e w'=>e=.returned (.tuple #[.pointer (some ⟨w.heap.size + 2,0,none⟩),.int .i64 0]) /\
  Hid (IsDk w' (fun k=>k=w.heap.size + 2 \/ k=w.heap.size \/ k=w.heap.size + 1) (w.heap.size + 2) (dkNew n) w.heap.size (w.heap.size + 1) (.slice none 0 0) /\ Upd (fun _=>False) w w'):=by
 have hmm:=@run_makeMap Tryz.prog
 go_enter Tryz.func55,Tryz.ntmps55
 go_wp2
 go_ret2
 refine ⟨rfl,?_,?_⟩
 ·have m1:MapIs kInt Value.string (w.alloc (.map #[] 0)) w.heap.size []:=MapIs.made w
  have m2:MapIs kInt Value.string ((w.alloc (.map #[] 0)).alloc (.map #[] 0)) (w.heap.size + 1) []:=by
   have:=MapIs.made (K:=kInt) (V:=Value.string) (w.alloc (.map #[] 0))
   rw [World.size_alloc] at this; exact this
  refine ⟨?_,(m1.alloc _).alloc _,m2.alloc _,World.ownsRow_nil _ _ _ _,by omega,fun k=>by simp [Value.ownBlock],⟨by simp [dkNew]; omega,by simp [dkNew]; omega,by simp [dkNew],by simp [dkNew],by simp [dkNew],by simp [dkNew,look],by simp [dkNew,look]⟩⟩
  have:=heap_alloc_new ((w.alloc (.map #[] 0)).alloc (.map #[] 0)) (.cells (dkCells (dkNew n) w.heap.size (w.heap.size + 1) (.slice none 0 0)) 199 (0,0))
  simp only [World.size_alloc] at this
  exact this
 ·exact (((Upd.refl _ _).alloc _).alloc _).alloc _
theorem Wide_c (n:Nat) (w:World) (h4:4 <= n) (hn:n <= 65335) :
 Calls Tryz.prog 14 #[.int .i64 n] w fun e w'=>∃ db lb FL,e=.returned (.tuple #[.pointer (some ⟨db,0,none⟩),.pointer (some ⟨lb,0,none⟩)]) /\ Hid (IsLog w' FL lb n /\ (∀ k,FL k -> w.heap.size <= k) /\ Below w.heap.size w w'):=by
 have hmx:max (n:Int) 4=n:=by omega
 have NW:=New_k (201 + n) w (by omega) (by omega)
 go_enter Tryz.func14,Tryz.ntmps14
 go_wp2_with fail
 refine NW.mono ?_
 rintro e w1 ⟨rfl,hd,hu⟩
 have HB:=Hd (hu.below (Nat.le_refl _) (fun _ _ e=>e))
 have OP:=Hd (Open_c _ n _ _ w1 hd (by omega) hn)
 clear hd hu NW
 go_wp2_with fail
 refine (OP.out).mono ?_
 rintro e w2 ⟨rfl,hl,hb⟩
 have HL:=Hd hl
 have HB2:=Hd ((HB.out).trans (hb.mono (HB.out).size))
 clear hl hb
 go_wp2_with fail
 go_ret2
 refine ⟨_,_,_,rfl,⟨_,_,_,_,HL.out⟩,fun k hk=>?_,HB2.out⟩
 have:=(HB.out).size
 rcases hk with rfl | rfl | rfl | rfl | rfl <;> omega
def NewRoom (w w':World) (G:Nat -> Prop) (rb n:Nat):Prop:=Rm w' G rb n [] /\ (∀ k,G k -> w.heap.size <= k) /\ Below w.heap.size w w'
end Go.Proofs.YtdcjhpafipbpkaaGreatDoor
namespace Go.Proofs
open Go.Shelf
def Tryz.laysNm222_ren:Go.Shelf.Ren:=⟨fun | 22=>213 | 29=>255 | 30=>256 | 36=>277 | 17=>281 | n=>n,fun | 24=>63 | 9=>9 | 3=>3 | 4=>4 | 0=>0 | n=>n,fun | n=>n⟩
theorem Tryz.laysNm222:Go.Proofs.Lays2.n22 Tryz.prog Tryz.laysNm222_ren:={
 mixed:=by kernel_rfl
 f17:=Tryz.func281.trans (congrArg some (by kernel_rfl))
 f22:=Tryz.func213.trans (congrArg some (by kernel_rfl))
 f29:=Tryz.func255.trans (congrArg some (by kernel_rfl))
 f30:=Tryz.func256.trans (congrArg some (by kernel_rfl))
 f36:=Tryz.func277.trans (congrArg some (by kernel_rfl))
 t0:=Tryz.underlying0
 a0:=Tryz.isAgg0
 z0:=Tryz.sizeOf0
 v0:=Tryz.zeroValue0
 t3:=Tryz.underlying3
 a3:=Tryz.isAgg3
 z3:=Tryz.sizeOf3
 v3:=Tryz.zeroValue3
 t4:=Tryz.underlying4
 a4:=Tryz.isAgg4
 z4:=Tryz.sizeOf4
 v4:=Tryz.zeroValue4
 t9:=Tryz.underlying9
 a9:=Tryz.isAgg9
 z9:=Tryz.sizeOf9
 v9:=Tryz.zeroValue9
 t24:=Tryz.underlying63
 a24:=Tryz.isAgg63
 z24:=Tryz.sizeOf63
 v24:=Tryz.zeroValue63
 i9:=by kernel_rfl }
def Tryz.laysNm221_ren:Go.Shelf.Ren:=⟨fun | 21=>214 | 27=>257 | 28=>258 | 35=>278 | 39=>282 | n=>n,fun | 22=>191 | 3=>3 | 4=>4 | 0=>0 | n=>n,fun | n=>n⟩
theorem Tryz.laysNm221:Go.Proofs.Lays2.n21 Tryz.prog Tryz.laysNm221_ren:={
 mixed:=by kernel_rfl
 f21:=Tryz.func214.trans (congrArg some (by kernel_rfl))
 f27:=Tryz.func257.trans (congrArg some (by kernel_rfl))
 f28:=Tryz.func258.trans (congrArg some (by kernel_rfl))
 f35:=Tryz.func278.trans (congrArg some (by kernel_rfl))
 f39:=Tryz.func282.trans (congrArg some (by kernel_rfl))
 t0:=Tryz.underlying0
 a0:=Tryz.isAgg0
 z0:=Tryz.sizeOf0
 v0:=Tryz.zeroValue0
 t3:=Tryz.underlying3
 a3:=Tryz.isAgg3
 z3:=Tryz.sizeOf3
 v3:=Tryz.zeroValue3
 t4:=Tryz.underlying4
 a4:=Tryz.isAgg4
 z4:=Tryz.sizeOf4
 v4:=Tryz.zeroValue4
 t22:=Tryz.underlying191
 a22:=Tryz.isAgg191
 z22:=Tryz.sizeOf191
 v22:=Tryz.zeroValue191
 i3:=by kernel_rfl }
def Tryz.laysNm226_ren:Go.Shelf.Ren:=⟨fun | 26=>204 | 33=>249 | 34=>250 | 38=>276 | n=>n,fun | 24=>63 | 9=>9 | 3=>3 | 4=>4 | 40=>215 | 0=>0 | n=>n,fun | n=>n⟩
theorem Tryz.laysNm226:Go.Proofs.Lays2.n26 Tryz.prog Tryz.laysNm226_ren:={
 mixed:=by kernel_rfl
 f26:=Tryz.func204.trans (congrArg some (by kernel_rfl))
 f33:=Tryz.func249.trans (congrArg some (by kernel_rfl))
 f34:=Tryz.func250.trans (congrArg some (by kernel_rfl))
 f38:=Tryz.func276.trans (congrArg some (by kernel_rfl))
 t0:=Tryz.underlying0
 a0:=Tryz.isAgg0
 z0:=Tryz.sizeOf0
 v0:=Tryz.zeroValue0
 t3:=Tryz.underlying3
 a3:=Tryz.isAgg3
 z3:=Tryz.sizeOf3
 v3:=Tryz.zeroValue3
 t4:=Tryz.underlying4
 a4:=Tryz.isAgg4
 z4:=Tryz.sizeOf4
 v4:=Tryz.zeroValue4
 t9:=Tryz.underlying9
 a9:=Tryz.isAgg9
 z9:=Tryz.sizeOf9
 v9:=Tryz.zeroValue9
 t24:=Tryz.underlying63
 a24:=Tryz.isAgg63
 z24:=Tryz.sizeOf63
 v24:=Tryz.zeroValue63
 t40:=Tryz.underlying215
 a40:=Tryz.isAgg215
 z40:=Tryz.sizeOf215
 v40:=Tryz.zeroValue215 }
end Go.Proofs
namespace Go.Proofs.YtdcjhpafipbpkaaGreatDoor
open Go.RowKit
set_option linter.unusedSimpArgs false
set_option linter.unusedVariables false
set_option linter.unusedSectionVars false
set_option maxRecDepth 100000
set_option maxHeartbeats 1000000
theorem getD_at {α:Type} (l:List α) (d:α) {i:Nat} (h:i < l.length):l.getD i d=l[i]:=by simp [List.getD,h]
theorem getD_out {α:Type} (l:List α) (d:α) {i:Nat} (h:l.length <= i):l.getD i d=d:=by simp [List.getD,h]
def ofL (l:List UInt8):ByteArray:=⟨l.toArray⟩
theorem toList_ofL (l:List UInt8):(ofL l).data.toList=l:=rfl
theorem ofL_size (l:List UInt8):(ofL l).size=l.length:=rfl
inductive Nd where
 | leaf (l:List (ByteArray × ByteArray))
 | inner (l:List (ByteArray × Nat))
def Nd.isLeaf:Nd -> Bool
 | .leaf _=>true
 | .inner _=>false
def Nd.keys:Nd -> List ByteArray
 | .leaf l=>l.map Prod.fst
 | .inner l=>l.map Prod.fst
def Nd.vals:Nd -> List ByteArray
 | .leaf l=>l.map Prod.snd
 | .inner _=>[]
def Nd.kids:Nd -> List Nat
 | .leaf _=>[]
 | .inner l=>l.map Prod.snd
def Nd.len (d:Nd):Nat:=d.keys.length
structure Nd.Ok (d:Nd):Prop where
 pos:0 < d.len
 few:d.len < 65536
 key:∀ k ∈ d.keys,k.size <= 96
 val:∀ v ∈ d.vals,v.size <= 56
 kid:∀ c ∈ d.kids,c < 4294967296
theorem Nd.vals_len {d:Nd} (h:d.isLeaf=true):d.vals.length=d.len:=by
 cases d with
 | leaf l=>simp [Nd.vals,Nd.len,Nd.keys]
 | inner l=>simp [Nd.isLeaf] at h
theorem Nd.kids_len {d:Nd} (h:d.isLeaf=false):d.kids.length=d.len:=by
 cases d with
 | leaf l=>simp [Nd.isLeaf] at h
 | inner l=>simp [Nd.kids,Nd.len,Nd.keys]
def esz (leaf:Bool) (K V:List ByteArray) (i:Nat):Nat:=if leaf then 2 + (K.getD i ByteArray.empty).size + (V.getD i ByteArray.empty).size else 5 + (K.getD i ByteArray.empty).size
def szUp (leaf:Bool) (K V:List ByteArray):Nat -> Nat
 | 0=>3
 | i + 1=>szUp leaf K V i + esz leaf K V i
def Nd.size (d:Nd):Nat:=szUp d.isLeaf d.keys d.vals d.len
def RRow (w:World) (v:Value) (xs:List Value):Prop :=
 (v=.slice none 0 0 /\ xs=[]) \/ ∃ g off cap,v=.slice (some ⟨g,off,none⟩) xs.length cap /\ xs.length <= cap /\ ∀ i (h:i < xs.length),w.cell? ⟨g,off + i,none⟩=some xs[i]
theorem RRow.lit {w:World} {v:Value} {xs:List Value} (h:RRow w v xs) (hp:0 < xs.length):∃ g off cap,v=.slice (some ⟨g,off,none⟩) xs.length cap /\ xs.length <= cap /\ ∀ i (h:i < xs.length),w.cell? ⟨g,off + i,none⟩=some xs[i]:=by
 rcases h with ⟨-,rfl⟩ | h
 ·simp at hp
 ·exact h
theorem RRow.form {w:World} {v:Value} {xs:List Value} (h:RRow w v xs):∃ a c,v=.slice a xs.length c:=by
 rcases h with ⟨rfl,rfl⟩ | ⟨g,off,cap,rfl,-⟩
 ·exact ⟨_,_,rfl⟩
 ·exact ⟨_,_,rfl⟩
theorem RRow.of_own {w:World} {base:Nat} {e:TypeId} {v:Value} {n:Nat} {xs:List Value} (h:w.ownsRow base e 1 v n xs):RRow w v xs:=by
 have hl:xs.length=n:=by have:=h.1; omega
 rcases h.2 with ⟨rfl,rfl⟩ | ⟨g,cap,cur,rfl,hb,hg,hnc,hm,hs,ht⟩
 ·exact .inl ⟨rfl,List.eq_nil_of_length_eq_zero hl⟩
 ·refine .inr ⟨g,0,cap,by rw [hl],by omega,fun i hi=>?_⟩
  have hx:(cur.toList.take (n * 1))[i]?=some xs[i]:=by rw [ht]; exact List.getElem?_eq_getElem hi
  rw [List.getElem?_take_of_lt (by omega),Array.getElem?_toList] at hx
  rw [Nat.zero_add]
  exact cell_lit hg hx
theorem RRow.kept {w w':World} {v:Value} {xs:List Value} (h:RRow w v xs) (hk:∀ k,v.ownBlock=some k -> w'.heap[k]?=w.heap[k]?):RRow w' v xs:=by
 rcases h with h | ⟨g,off,cap,rfl,hn,hc⟩
 ·exact .inl h
 ·exact .inr ⟨g,off,cap,rfl,hn,fun i hi=>(World.cell?_of_block (hk g rfl)).trans (hc i hi)⟩
structure NdV (w:World) (p:Nat) (d:Nd) (vk vv vi:Value):Prop where
 blk:w.heap[p]?=some (.cells #[.bool d.isLeaf,vk,vv,vi] 222 (0,0))
 ks:RRow w vk (d.keys.map Value.string)
 vs:RRow w vv (d.vals.map Value.string)
 is:RRow w vi (d.kids.map fun c:Nat=>Value.int .i64 (c:Int))
structure NdO (w:World) (F:Nat -> Prop) (p:Nat) (d:Nd) (vk vv vi:Value):Prop where
 blk:w.heap[p]?=some (.cells #[.bool d.isLeaf,vk,vv,vi] 222 (0,0))
 ks:w.ownsRow 0 9 1 vk d.len (d.keys.map Value.string)
 vs:w.ownsRow 0 9 1 vv d.vals.length (d.vals.map Value.string)
 is:w.ownsRow 0 3 1 vi d.kids.length (d.kids.map fun c:Nat=>Value.int .i64 (c:Int))
 pk:vk.ownBlock ≠ some p
 pv:vv.ownBlock ≠ some p
 pi:vi.ownBlock ≠ some p
 kv:∀ k,vk.ownBlock=some k -> vv.ownBlock ≠ some k
 ki:∀ k,vk.ownBlock=some k -> vi.ownBlock ≠ some k
 vi':∀ k,vv.ownBlock=some k -> vi.ownBlock ≠ some k
 own:∀ k,F k ↔ k=p \/ vk.ownBlock=some k \/ vv.ownBlock=some k \/ vi.ownBlock=some k
def IsNd (w:World) (F:Nat -> Prop) (p:Nat) (d:Nd):Prop:=∃ vk vv vi,NdO w F p d vk vv vi
theorem NdO.lt {w:World} {F:Nat -> Prop} {p:Nat} {d:Nd} {vk vv vi:Value} (h:NdO w F p d vk vv vi):∀ k,F k -> k < w.heap.size:=by
 intro k hk
 rcases (h.own k).1 hk with rfl | e | e | e
 ·exact lt_of_heap h.blk
 ·exact (h.ks.lt k e).2
 ·exact (h.vs.lt k e).2
 ·exact (h.is.lt k e).2
theorem ownsRow_of {w w':World} {base:Nat} {e:TypeId} {v:Value} {n:Nat} {xs:List Value} (h:w.ownsRow base e 1 v n xs) (hk:∀ k,v.ownBlock=some k -> w'.heap[k]?=w.heap[k]?):w'.ownsRow base e 1 v n xs:=by
 refine ⟨h.1,?_⟩
 rcases h.2 with hn | ⟨g,cap,cur,rfl,hb,hg,rest⟩
 ·exact .inl hn
 ·exact .inr ⟨g,cap,cur,rfl,hb,(hk g rfl).trans hg,rest⟩
theorem NdO.of {w w':World} {F:Nat -> Prop} {p:Nat} {d:Nd} {vk vv vi:Value} (h:NdO w F p d vk vv vi) (hk:∀ k,F k -> w'.heap[k]?=w.heap[k]?):NdO w' F p d vk vv vi :=
 ⟨(hk p ((h.own p).2 (.inl rfl))).trans h.blk,ownsRow_of h.ks fun k e=>hk k ((h.own k).2 (.inr (.inl e))),ownsRow_of h.vs fun k e=>hk k ((h.own k).2 (.inr (.inr (.inl e)))),ownsRow_of h.is fun k e=>hk k ((h.own k).2 (.inr (.inr (.inr e)))),h.pk,h.pv,h.pi,h.kv,h.ki,h.vi',h.own⟩
theorem IsNd.lt {w:World} {F:Nat -> Prop} {p:Nat} {d:Nd} (h:IsNd w F p d):∀ k,F k -> k < w.heap.size:=by obtain ⟨vk,vv,vi,h⟩:=h; exact h.lt
theorem IsNd.of {w w':World} {F:Nat -> Prop} {p:Nat} {d:Nd} (h:IsNd w F p d) (hk:∀ k,F k -> w'.heap[k]?=w.heap[k]?):IsNd w' F p d:=by obtain ⟨vk,vv,vi,h⟩:=h; exact ⟨_,_,_,h.of hk⟩
theorem IsNd.upd {w w':World} {F S:Nat -> Prop} {p:Nat} {d:Nd} (h:IsNd w F p d) (hu:Upd S w w') (hn:∀ k,F k -> ¬ S k):IsNd w' F p d:=h.of fun k hk=>hu.block k (h.lt k hk) (hn k hk)
theorem IsNd.below {w w':World} {B:Nat} {F:Nat -> Prop} {p:Nat} {d:Nd} (h:IsNd w F p d) (hb:Below B w w') (hB:w.heap.size <= B):IsNd w' F p d:=h.of fun k hk=>hb.block k (Nat.lt_of_lt_of_le (h.lt k hk) hB)
theorem NdO.read {w:World} {F:Nat -> Prop} {p:Nat} {d:Nd} {vk vv vi:Value} (h:NdO w F p d vk vv vi):NdV w p d vk vv vi:=⟨h.blk,.of_own h.ks,.of_own h.vs,.of_own h.is⟩
theorem esz_le (leaf:Bool) (K V:List ByteArray) (hK:∀ k ∈ K,k.size <= 96) (hV:∀ v ∈ V,v.size <= 56) (i:Nat):esz leaf K V i <= 154:=by
 have a:(K.getD i ByteArray.empty).size <= 96:=by
  by_cases h:i < K.length
  ·rw [getD_at _ _ h]; exact hK _ (List.getElem_mem h)
  ·rw [getD_out _ _ (by omega)]; decide
 have b:(V.getD i ByteArray.empty).size <= 56:=by
  by_cases h:i < V.length
  ·rw [getD_at _ _ h]; exact hV _ (List.getElem_mem h)
  ·rw [getD_out _ _ (by omega)]; decide
 unfold esz; split <;> omega
theorem szUp_le (leaf:Bool) (K V:List ByteArray) (hK:∀ k ∈ K,k.size <= 96) (hV:∀ v ∈ V,v.size <= 56) (i:Nat):szUp leaf K V i <= 3 + 154 * i:=by
 induction i with
 | zero=>simp [szUp]
 | succ i ih=>have:=esz_le leaf K V hK hV i; unfold szUp; omega
theorem strs_at {w:World} {g off:Nat} {K:List ByteArray} (hc:∀ i (h:i < (K.map Value.string).length),w.cell? ⟨g,off + i,none⟩=some (K.map Value.string)[i]) (i:Nat) (h:i < K.length):w.cell? ⟨g,off + i,none⟩=some (.string (K.getD i ByteArray.empty)):=by
 rw [hc i (by simpa using h),List.getElem_map,getD_at _ _ h]
theorem size_c (p:Nat) (leaf:Bool) (K V:List ByteArray) (vk vv vi:Value) (fr:Nat × Nat) (w:World) (hb:w.heap[p]?=some (.cells #[.bool leaf,vk,vv,vi] 222 fr)) (hk:RRow w vk (K.map Value.string)) (hp:0 < K.length)
 (hv:leaf=true -> RRow w vv (V.map Value.string) /\ V.length=K.length) (hK:∀ k ∈ K,k.size <= 96) (hV:∀ v ∈ V,v.size <= 56) (hn:K.length <= 65536) :
 Calls Tryz.prog 178 #[.pointer (some ⟨p,0,none⟩)] w fun e w'=>e=.returned (.int .i64 (szUp leaf K V K.length:Nat)) /\ w'=w:=by
 obtain ⟨g,off,cap,rfl,hcap,hc⟩:=hk.lit (by simpa using hp)
 have HC:=Hd (strs_at hc)
 have HE:=Hd (esz_le leaf K V hK hV)
 have HS:=Hd (szUp_le leaf K V hK hV)
 rw [List.length_map] at hb hcap
 clear hc hk
 have c0:w.cell? ⟨p,0,none⟩=some (.bool leaf):=cell_lit hb (by simp)
 have c1:w.cell? ⟨p,1,none⟩=some (.slice (some ⟨g,off,none⟩) K.length cap):=cell_lit hb (by simp)
 have c2:w.cell? ⟨p,2,none⟩=some vv:=cell_lit hb (by simp)
 clear hb
 go_enter Tryz.func178,Tryz.ntmps178
 go_wp2_with fail
 go_loopg [3,11] K.length (fun gg s3 s11 wr=>∃ i:Nat,gg=K.length - i /\ i <= K.length /\ s3=.int .i64 (szUp leaf K V i:Nat) /\ s11=.int .i64 i /\ w=wr)
 case atStart=>exact ⟨0,rfl,Nat.zero_le _,rfl,rfl,rfl⟩
 case round =>
  obtain ⟨i,rfl,hi,rfl,rfl,rfl⟩:=hrel
  by_cases hlt:i < K.length
  ·have k0:=HC.out i hlt
   have e1:=HE.out i
   have e2:=HS.out i
   have hs:szUp leaf K V (i + 1)=szUp leaf K V i + esz leaf K V i:=rfl
   cases leaf with
   | true =>
     obtain ⟨h1,h2⟩:=hv rfl
     obtain ⟨g2,off2,cap2,rfl,hcap2,hc2⟩:=h1.lit (by simp; omega)
     have k1:=strs_at hc2 i (by omega)
     rw [List.length_map,h2] at c2 hcap2
     clear h1 hc2 hv
     simp only [esz,if_true] at hs e1
     generalize K.getD i ByteArray.empty=x at *
     generalize V.getD i ByteArray.empty=y at *
     go_wp2_with fail
     go_roundg (K.length - (i + 1))
     case measure=>omega
     case rel=>exact ⟨i + 1,rfl,by omega,by rw [hs]; congr 1; omega,rfl,rfl⟩
   | false =>
     clear hv
     simp only [esz,Bool.false_eq_true,if_false] at hs e1
     generalize K.getD i ByteArray.empty=x at *
     go_wp2_with fail
     go_roundg (K.length - (i + 1))
     case measure=>omega
     case rel=>exact ⟨i + 1,rfl,by omega,by rw [hs]; congr 1; omega,rfl,rfl⟩
  ·obtain rfl:i=K.length:=by omega
   go_wp2_with fail
   go_ret
   exact ⟨rfl,rfl⟩
def beL (l:List UInt8):Nat:=l.foldl (fun x c=>x * 256 + c.toNat) 0
theorem beL_snoc (l:List UInt8) (c:UInt8):beL (l ++ [c])=beL l * 256 + c.toNat:=by simp [beL]
theorem beL_step (s:ByteArray) (k:Nat) (h:k < s.size):beL (s.data.toList.take (k + 1))=beL (s.data.toList.take k) * 256 + s.data[k].toNat:=by
 have h':k < s.data.toList.length:=by simpa using h
 rw [List.take_succ_eq_append_getElem h',beL_snoc]
 simp
theorem beL_lt (l:List UInt8) (h:l.length <= 4):beL l < 4294967296:=by
 have:∀ (l:List UInt8) (x:Nat),l.foldl (fun x c=>x * 256 + c.toNat) x < (x + 1) * 256 ^ l.length:=by
  intro l
  induction l with
  | nil=>intro x; simp
  | cons c l ih =>
    intro x
    have h1:=ih (x * 256 + c.toNat)
    have h2:=c.toNat_lt
    rw [List.foldl_cons,List.length_cons,Nat.pow_succ]
    refine Nat.lt_of_lt_of_le h1 ?_
    rw [Nat.mul_comm (256 ^ l.length) 256,<- Nat.mul_assoc]
    exact Nat.mul_le_mul_right _ (by omega)
 have h1:=this l 0
 have h2:256 ^ l.length <= 256 ^ 4:=Nat.pow_le_pow_right (by decide) h
 show beL l < _
 unfold beL
 omega
theorem i64_or_byte (n c:Nat) (hn:n < 72057594037927936 / 256) (hc:c < 256):bits .or .i64 ((n:Int) * 256) (c:Int)=((n * 256 + c:Nat):Int):=by
 have:=bits_join .i64 63 (by decide) (fun n h0 h1=>by
  have h1':n < 9223372036854775808:=by simpa using h1
  simp [IntKind.wrap,IntKind.bits,IntKind.signed]; omega) 8 ((n:Int) * 256) (c:Int) (by omega) (by omega) (by omega) (by omega) (by omega) (by omega)
 rw [this]; omega
def Rd (w:World) (r:Nat) (l:List UInt8):Prop:=w.heap[r]?=some (.cells #[.string (ofL l),.bool false] 302 (0,0))
theorem ofL_extract0 (a b:List UInt8):(ofL (a ++ b)).extract 0 a.length=ofL a:=by
 apply ByteArray.ext
 simp [ofL,ByteArray.data_extract]
theorem ofL_extract1 (a b:List UInt8):(ofL (a ++ b)).extract a.length (ofL (a ++ b)).size=ofL b:=by
 apply ByteArray.ext
 simp [ofL,ByteArray.data_extract,ByteArray.size]
theorem take_c (r:Nat) (a b:List UInt8) (w:World) (h:Rd w r (a ++ b)) (hl:(a ++ b).length <= 1000000) :
 Calls Tryz.prog 221 #[.pointer (some ⟨r,0,none⟩),.int .i64 (a.length:Nat)] w fun e w'=>e=.returned (.string (ofL a)) /\ Hid (Rd w' r b /\ Upd (fun k=>k=r) w w'):=by
 have c0:w.cell? ⟨r,0,none⟩=some (.string (ofL (a ++ b))):=cell_lit h (by simp)
 have f0:w.frozen? ⟨r,0,none⟩=false:=frozen_lit h 0
 have E0:=ofL_extract0 a b
 have E1:=ofL_extract1 a b
 have hsz:(ofL (a ++ b)).size=a.length + b.length:=by rw [ofL_size,List.length_append]
 have hle:(a.length:Int) <= ((ofL (a ++ b)).size:Int):=by omega
 have HS:Hid (Rd (w.setCell ⟨r,0,none⟩ (.string (ofL b))) r b /\ Upd (fun k=>k=r) w (w.setCell ⟨r,0,none⟩ (.string (ofL b)))):=Hd ⟨heap_set_lit h _,upd_setCell w r 0 _⟩
 rw [List.length_append] at hl
 rw [hsz] at E1
 clear h
 generalize ofL (a ++ b)=s at *
 generalize ofL b=y at *
 generalize ofL a=x at *
 generalize a.length=n at *
 generalize b.length=m at *
 go_enter Tryz.func221,Tryz.ntmps221
 go_wp2_with fail
 go_ret
 exact ⟨rfl,HS⟩
theorem num_c (r:Nat) (a b:List UInt8) (w:World) (h:Rd w r (a ++ b)) (hl:(a ++ b).length <= 1000000) (ha:a.length <= 4) :
 Calls Tryz.prog 222 #[.pointer (some ⟨r,0,none⟩),.int .i64 (a.length:Nat)] w fun e w'=>e=.returned (.int .i64 (beL a:Nat)) /\ Hid (Rd w' r b /\ Upd (fun k=>k=r) w w'):=by
 have TK:=take_c r a b w h hl
 have HSZ:=Hd (ofL_size a)
 have hto:(ofL a).data.toList=a:=rfl
 clear h hl
 go_enter Tryz.func222,Tryz.ntmps222
 go_wp2_with fail
 refine TK.mono ?_
 rintro e w1 ⟨rfl,HR⟩
 clear TK
 generalize hs:ofL a=s at *
 have hcv:=run_bytes_of_string w1 9 91 5 s Tryz.underlying9 Tryz.underlying91 Tryz.underlying5
 go_wp2_with fail
 have hc:∀ j (h:j < s.size),((w1.alloc (.cells (bytesRow s (grownCap w1 s.size 0 5)) 5 ((bytesRow s (grownCap w1 s.size 0 5)).size,(bytesRow s (grownCap w1 s.size 0 5)).size + 1))).drew).cell? ⟨w1.heap.size,j,none⟩=some (.int .u8 (s.data[j].toNat:Int)):=by
  intro j h
  rw [World.cell?_drew,World.cell?_alloc_mark]
  exact bytesRow_at s _ j h
 have hb:Hid (Rd ((w1.alloc (.cells (bytesRow s (grownCap w1 s.size 0 5)) 5 ((bytesRow s (grownCap w1 s.size 0 5)).size,(bytesRow s (grownCap w1 s.size 0 5)).size + 1))).drew) r b /\ Upd (fun k=>k=r) w ((w1.alloc (.cells (bytesRow s (grownCap w1 s.size 0 5)) 5 ((bytesRow s (grownCap w1 s.size 0 5)).size,(bytesRow s (grownCap w1 s.size 0 5)).size + 1))).drew)) :=
  Hd ⟨(heap_alloc_lt _ (lt_of_heap HR.out.1)).trans HR.out.1,(HR.out.2.alloc _).drew⟩
 generalize (w1.alloc (.cells (bytesRow s (grownCap w1 s.size 0 5)) 5 ((bytesRow s (grownCap w1 s.size 0 5)).size,(bytesRow s (grownCap w1 s.size 0 5)).size + 1))).drew=W at *
 have HC:=Hd hc
 clear hcv hc HR
 go_loopg [5,13] s.size (fun g s5 s13 wr=>∃ k,g=s.size - k /\ k <= s.size /\ s5=.int .i64 (beL (s.data.toList.take k):Nat) /\ s13=.int .i64 k /\ W=wr)
 case atStart=>exact ⟨0,by omega,Nat.zero_le _,rfl,rfl,rfl⟩
 case round =>
  obtain ⟨k,rfl,hk,rfl,rfl,rfl⟩:=hrel
  have h4:s.size <= 4:=by have:=HSZ.out; omega
  by_cases hlt:k < s.size
  ·have c1:=HC.out k hlt
   have n1:=beL_lt (s.data.toList.take k) (by have:=HSZ.out; simp; omega)
   have c2:=s.data[k].toNat_lt
   have HS:=Hd (beL_step s k hlt)
   clear hto
   generalize beL (s.data.toList.take k)=n at *
   generalize s.data[k].toNat=c at *
   go_wp2_with fail
   go_roundg (s.size - (k + 1))
   case measure=>omega
   case rel=>exact ⟨k + 1,rfl,by omega,by rw [HS.out,i64_or_byte n c (by omega) c2],by simp,rfl⟩
  ·obtain rfl:k=s.size:=by omega
   have ht:s.data.toList.take s.size=a:=by rw [hto,HSZ.out]; simp
   rw [ht]
   go_wp2_with fail
   go_ret
   exact ⟨rfl,hb⟩
theorem text_c (r:Nat) (c:UInt8) (a b:List UInt8) (w:World) (h:Rd w r ([c] ++ (a ++ b))) (hl:([c] ++ (a ++ b)).length <= 1000000) (ha:a.length=c.toNat) :
 Calls Tryz.prog 223 #[.pointer (some ⟨r,0,none⟩)] w fun e w'=>e=.returned (.string (ofL a)) /\ Hid (Rd w' r b /\ Upd (fun k=>k=r) w w'):=by
 have NM:=num_c r [c] (a ++ b) w h hl (by simp)
 have hb1:beL [c]=a.length:=by simp [beL,ha]
 rw [hb1] at NM
 have HL:Hid ((a ++ b).length <= 1000000):=Hd (by simp at hl ⊢; omega)
 clear h hb1 hl ha
 rw [List.length_singleton,show ((1:Nat):Int)=1 from rfl] at NM
 go_enter Tryz.func223,Tryz.ntmps223
 go_wp2_with fail
 refine NM.mono ?_
 rintro e w1 ⟨rfl,H1⟩
 have TK:=Hd (take_c r a b w1 H1.out.1 HL.out)
 go_wp2_with fail
 refine (TK.out).mono ?_
 rintro e w2 ⟨rfl,H2⟩
 have H3:=Hd (And.intro H2.out.1 (H1.out.2.trans H2.out.2))
 go_wp2_with fail
 go_ret
 exact ⟨rfl,H3⟩
set_option maxHeartbeats 2000000
def entL (p:ByteArray × ByteArray):List UInt8:=[UInt8.ofNat p.1.size] ++ (p.1.data.toList ++ ([UInt8.ofNat p.2.size] ++ p.2.data.toList))
def be4 (c:Nat):List UInt8:=[UInt8.ofNat (c / 16777216),UInt8.ofNat (c / 65536),UInt8.ofNat (c / 256),UInt8.ofNat c]
def entI (p:ByteArray × Nat):List UInt8:=[UInt8.ofNat p.1.size] ++ (p.1.data.toList ++ be4 p.2)
def Nd.body:Nd -> List UInt8
 | .leaf l=>l.flatMap entL
 | .inner l=>l.flatMap entI
def Nd.kind:Nd -> UInt8
 | .leaf _=>76
 | .inner _=>78
def Nd.bytes (d:Nd):List UInt8:=[d.kind] ++ ([UInt8.ofNat (d.len / 256),UInt8.ofNat d.len] ++ d.body)
theorem beL_be4 (c:Nat) (h:c < 4294967296):beL (be4 c)=c:=by
 simp only [beL,be4,List.foldl_cons,List.foldl_nil,UInt8.toNat_ofNat']
 omega
theorem beL_two (n:Nat) (h:n < 65536):beL [UInt8.ofNat (n / 256),UInt8.ofNat n]=n:=by
 simp only [beL,List.foldl_cons,List.foldl_nil,UInt8.toNat_ofNat']
 omega
structure PS (w wr:World) (r p:Nat) (lf:Bool) (vk vv vi:Value) (K V:List ByteArray) (C:List Nat) (rest:List UInt8):Prop where
 blk:wr.heap[p]?=some (.cells #[.bool lf,vk,vv,vi] 222 (0,0))
 ks:wr.ownsRow (p + 1) 9 1 vk K.length (K.map Value.string)
 vs:wr.ownsRow (p + 1) 9 1 vv V.length (V.map Value.string)
 is:wr.ownsRow (p + 1) 3 1 vi C.length (C.map fun c:Nat=>Value.int .i64 (c:Int))
 kv:∀ k,vk.ownBlock=some k -> vv.ownBlock ≠ some k
 ki:∀ k,vk.ownBlock=some k -> vi.ownBlock ≠ some k
 vi':∀ k,vv.ownBlock=some k -> vi.ownBlock ≠ some k
 rd:Rd wr r rest
 low:w.heap.size <= r
 rp:r < p
 bel:Below w.heap.size w wr
theorem ownsRow_mono {w:World} {b b':Nat} {e:TypeId} {n:Nat} {v:Value} {xs:List Value} (h:w.ownsRow b e 1 v n xs) (hb:b' <= b):w.ownsRow b' e 1 v n xs:=by
 refine ⟨h.1,?_⟩
 rcases h.2 with hn | ⟨g,cap,cur,rfl,hg,rest⟩
 ·exact .inl hn
 ·exact .inr ⟨g,cap,cur,rfl,by omega,rest⟩
theorem PS.nd {w wr:World} {r p:Nat} {d:Nd} {vk vv vi:Value} {rest:List UInt8} (h:PS w wr r p d.isLeaf vk vv vi d.keys d.vals d.kids rest):∃ F,IsNd wr F p d /\ (∀ k,F k -> w.heap.size <= k) /\ Below w.heap.size w wr:=by
 refine ⟨fun k=>k=p \/ vk.ownBlock=some k \/ vv.ownBlock=some k \/ vi.ownBlock=some k,⟨vk,vv,vi,h.blk,ownsRow_mono h.ks (Nat.zero_le _),ownsRow_mono h.vs (Nat.zero_le _),ownsRow_mono h.is (Nat.zero_le _),fun e=>?_,fun e=>?_,fun e=>?_,h.kv,h.ki,h.vi',fun _=>Iff.rfl⟩,fun k hk=>?_,h.bel⟩
 ·have:=(h.ks.lt p e).1; omega
 ·have:=(h.vs.lt p e).1; omega
 ·have:=(h.is.lt p e).1; omega
 ·have:=h.low; have:=h.rp
  rcases hk with rfl | e | e | e
  ·omega
  ·have:=(h.ks.lt k e).1; omega
  ·have:=(h.vs.lt k e).1; omega
  ·have:=(h.is.lt k e).1; omega
theorem ps_key {w wr W1 W3:World} {r p:Nat} {lf:Bool} {vk vv vi vk':Value} {K V:List ByteArray} {C:List Nat} {rest rest2:List UInt8} {s:ByteArray} {o:Obj} (h:PS w wr r p lf vk vv vi K V C rest) (h1:Rd W1 r rest2 /\ Upd (fun k=>k=r) wr W1)
 (ho:W3.ownsRow (p + 1) 9 1 vk' (K.length + 1) (K.map Value.string ++ [Value.string s])) (hg:(W1.alloc o).grownBy W3 vk.ownBlock) (ha:vk'.ownBlock=vk.ownBlock \/ vk'.ownBlock=some (W1.alloc o).heap.size) :
 PS w (W3.setCell ⟨p,1,none⟩ vk') r p lf vk' vv vi (K ++ [s]) V C rest2 /\ W3.heap[p]?=some (.cells #[.bool lf,vk,vv,vi] 222 (0,0)):=by
 obtain ⟨hr1,hu⟩:=h1
 have hrp:=h.rp
 have hsz:=hu.size
 have hsa:(W1.alloc o).heap.size=W1.heap.size + 1:=by simp
 have keep:∀ k,k < wr.heap.size -> k ≠ r -> vk.ownBlock ≠ some k -> W3.heap[k]?=wr.heap[k]?:=fun k hk hn hv =>
  (hg.block k (by omega) (fun e=>hv e.symm)).trans ((heap_alloc_lt o (by omega)).trans (hu.block k hk hn))
 have hp:=lt_of_heap h.blk
 have hvp:∀ k,vk.ownBlock=some k -> p + 1 <= k /\ k < wr.heap.size:=fun k e=>h.ks.lt k e
 have b3:W3.heap[p]?=some (.cells #[.bool lf,vk,vv,vi] 222 (0,0)):=(keep p hp (by omega) (fun e=>by have:=(hvp p e).1; omega)).trans h.blk
 have hv':∀ k,vk'.ownBlock=some k -> vk.ownBlock=some k \/ wr.heap.size <= k:=fun k e=>by
  rcases ha with a | a
  ·exact .inl (a ▸ e)
  ·rw [a] at e; cases e; exact .inr (by omega)
 refine ⟨⟨(heap_set_lit b3 _).trans (by simp),?_,?_,?_,?_,?_,?_,?_,h.low,h.rp,?_⟩,b3⟩
 ·have:=ownsRow_of (w':=W3.setCell ⟨p,1,none⟩ vk') ho (fun k e=>heap_set_ne _ (by have:=(ho.lt k e).1; omega))
  simpa using this
 ·refine ownsRow_of h.vs fun k e=>?_
  have hk:=h.vs.lt k e
  exact (heap_set_ne _ (by omega)).trans (keep k hk.2 (by omega) (fun e2=>h.kv k e2 e))
 ·refine ownsRow_of h.is fun k e=>?_
  have hk:=h.is.lt k e
  exact (heap_set_ne _ (by omega)).trans (keep k hk.2 (by omega) (fun e2=>h.ki k e2 e))
 ·intro k e e2
  rcases hv' k e with a | a
  ·exact h.kv k a e2
  ·have:=(h.vs.lt k e2).2; omega
 ·intro k e e2
  rcases hv' k e with a | a
  ·exact h.ki k a e2
  ·have:=(h.is.lt k e2).2; omega
 ·exact h.vi'
 ·refine (heap_set_ne _ (by omega)).trans ((hg.block r ?_ (fun e=>?_)).trans ((heap_alloc_lt o (lt_of_heap hr1)).trans hr1))
  ·have:=lt_of_heap hr1; omega
  ·have:=(hvp r e.symm).1; omega
 ·have hlow:=h.low
  refine ((Below.trans h.bel ((hu.below (B:=w.heap.size) h.bel.size (fun k hk e=>by omega)).alloc (Nat.le_trans h.bel.size hu.size) o)).grown hg (by have:=h.bel.size; omega) (fun k e=>?_)).setCell (show w.heap.size <= p by omega) _
  have:=(hvp k e).1; omega
theorem ps_val {w wr W1 W3:World} {r p:Nat} {lf:Bool} {vk vv vi vv':Value} {K V:List ByteArray} {C:List Nat} {rest rest2:List UInt8} {s:ByteArray} {o:Obj} (h:PS w wr r p lf vk vv vi K V C rest) (h1:Rd W1 r rest2 /\ Upd (fun k=>k=r) wr W1)
 (ho:W3.ownsRow (p + 1) 9 1 vv' (V.length + 1) (V.map Value.string ++ [Value.string s])) (hg:(W1.alloc o).grownBy W3 vv.ownBlock) (ha:vv'.ownBlock=vv.ownBlock \/ vv'.ownBlock=some (W1.alloc o).heap.size) :
 PS w (W3.setCell ⟨p,2,none⟩ vv') r p lf vk vv' vi K (V ++ [s]) C rest2 /\ W3.heap[p]?=some (.cells #[.bool lf,vk,vv,vi] 222 (0,0)):=by
 obtain ⟨hr1,hu⟩:=h1
 have hrp:=h.rp
 have hsz:=hu.size
 have hsa:(W1.alloc o).heap.size=W1.heap.size + 1:=by simp
 have keep:∀ k,k < wr.heap.size -> k ≠ r -> vv.ownBlock ≠ some k -> W3.heap[k]?=wr.heap[k]?:=fun k hk hn hv =>
  (hg.block k (by omega) (fun e=>hv e.symm)).trans ((heap_alloc_lt o (by omega)).trans (hu.block k hk hn))
 have hp:=lt_of_heap h.blk
 have hvp:∀ k,vv.ownBlock=some k -> p + 1 <= k /\ k < wr.heap.size:=fun k e=>h.vs.lt k e
 have b3:W3.heap[p]?=some (.cells #[.bool lf,vk,vv,vi] 222 (0,0)):=(keep p hp (by omega) (fun e=>by have:=(hvp p e).1; omega)).trans h.blk
 have hv':∀ k,vv'.ownBlock=some k -> vv.ownBlock=some k \/ wr.heap.size <= k:=fun k e=>by
  rcases ha with a | a
  ·exact .inl (a ▸ e)
  ·rw [a] at e; cases e; exact .inr (by omega)
 refine ⟨⟨(heap_set_lit b3 _).trans (by simp),?_,?_,?_,?_,?_,?_,?_,h.low,h.rp,?_⟩,b3⟩
 ·refine ownsRow_of h.ks fun k e=>?_
  have hk:=h.ks.lt k e
  exact (heap_set_ne _ (by omega)).trans (keep k hk.2 (by omega) (fun e2=>h.kv k e e2))
 ·have:=ownsRow_of (w':=W3.setCell ⟨p,2,none⟩ vv') ho (fun k e=>heap_set_ne _ (by have:=(ho.lt k e).1; omega))
  simpa using this
 ·refine ownsRow_of h.is fun k e=>?_
  have hk:=h.is.lt k e
  exact (heap_set_ne _ (by omega)).trans (keep k hk.2 (by omega) (fun e2=>h.vi' k e2 e))
 ·intro k e e2
  rcases hv' k e2 with a | a
  ·exact h.kv k e a
  ·have:=(h.ks.lt k e).2; omega
 ·exact h.ki
 ·intro k e e2
  rcases hv' k e with a | a
  ·exact h.vi' k a e2
  ·have:=(h.is.lt k e2).2; omega
 ·refine (heap_set_ne _ (by omega)).trans ((hg.block r ?_ (fun e=>?_)).trans ((heap_alloc_lt o (lt_of_heap hr1)).trans hr1))
  ·have:=lt_of_heap hr1; omega
  ·have:=(hvp r e.symm).1; omega
 ·have hlow:=h.low
  refine ((Below.trans h.bel ((hu.below (B:=w.heap.size) h.bel.size (fun k hk e=>by omega)).alloc (Nat.le_trans h.bel.size hu.size) o)).grown hg (by have:=h.bel.size; omega) (fun k e=>?_)).setCell (show w.heap.size <= p by omega) _
  have:=(hvp k e).1; omega
theorem ps_kid {w wr W1 W3:World} {r p:Nat} {lf:Bool} {vk vv vi vi':Value} {K V:List ByteArray} {C:List Nat} {rest rest2:List UInt8} {c:Nat} {o:Obj} (h:PS w wr r p lf vk vv vi K V C rest) (h1:Rd W1 r rest2 /\ Upd (fun k=>k=r) wr W1)
 (ho:W3.ownsRow (p + 1) 3 1 vi' (C.length + 1) ((C.map fun c:Nat=>Value.int .i64 (c:Int)) ++ [Value.int .i64 (c:Int)])) (hg:(W1.alloc o).grownBy W3 vi.ownBlock) (ha:vi'.ownBlock=vi.ownBlock \/ vi'.ownBlock=some (W1.alloc o).heap.size) :
 PS w (W3.setCell ⟨p,3,none⟩ vi') r p lf vk vv vi' K V (C ++ [c]) rest2 /\ W3.heap[p]?=some (.cells #[.bool lf,vk,vv,vi] 222 (0,0)):=by
 obtain ⟨hr1,hu⟩:=h1
 have hrp:=h.rp
 have hsz:=hu.size
 have hsa:(W1.alloc o).heap.size=W1.heap.size + 1:=by simp
 have keep:∀ k,k < wr.heap.size -> k ≠ r -> vi.ownBlock ≠ some k -> W3.heap[k]?=wr.heap[k]?:=fun k hk hn hv =>
  (hg.block k (by omega) (fun e=>hv e.symm)).trans ((heap_alloc_lt o (by omega)).trans (hu.block k hk hn))
 have hp:=lt_of_heap h.blk
 have hvp:∀ k,vi.ownBlock=some k -> p + 1 <= k /\ k < wr.heap.size:=fun k e=>h.is.lt k e
 have b3:W3.heap[p]?=some (.cells #[.bool lf,vk,vv,vi] 222 (0,0)):=(keep p hp (by omega) (fun e=>by have:=(hvp p e).1; omega)).trans h.blk
 have hv':∀ k,vi'.ownBlock=some k -> vi.ownBlock=some k \/ wr.heap.size <= k:=fun k e=>by
  rcases ha with a | a
  ·exact .inl (a ▸ e)
  ·rw [a] at e; cases e; exact .inr (by omega)
 refine ⟨⟨(heap_set_lit b3 _).trans (by simp),?_,?_,?_,?_,?_,?_,?_,h.low,h.rp,?_⟩,b3⟩
 ·refine ownsRow_of h.ks fun k e=>?_
  have hk:=h.ks.lt k e
  exact (heap_set_ne _ (by omega)).trans (keep k hk.2 (by omega) (fun e2=>h.ki k e e2))
 ·refine ownsRow_of h.vs fun k e=>?_
  have hk:=h.vs.lt k e
  exact (heap_set_ne _ (by omega)).trans (keep k hk.2 (by omega) (fun e2=>h.vi' k e e2))
 ·have:=ownsRow_of (w':=W3.setCell ⟨p,3,none⟩ vi') ho (fun k e=>heap_set_ne _ (by have:=(ho.lt k e).1; omega))
  simpa using this
 ·exact h.kv
 ·intro k e e2
  rcases hv' k e2 with a | a
  ·exact h.ki k e a
  ·have:=(h.ks.lt k e).2; omega
 ·intro k e e2
  rcases hv' k e2 with a | a
  ·exact h.vi' k e a
  ·have:=(h.vs.lt k e).2; omega
 ·refine (heap_set_ne _ (by omega)).trans ((hg.block r ?_ (fun e=>?_)).trans ((heap_alloc_lt o (lt_of_heap hr1)).trans hr1))
  ·have:=lt_of_heap hr1; omega
  ·have:=(hvp r e.symm).1; omega
 ·have hlow:=h.low
  refine ((Below.trans h.bel ((hu.below (B:=w.heap.size) h.bel.size (fun k hk e=>by omega)).alloc (Nat.le_trans h.bel.size hu.size) o)).grown hg (by have:=h.bel.size; omega) (fun k e=>?_)).setCell (show w.heap.size <= p by omega) _
  have:=(hvp k e).1; omega
theorem drop_cons {α:Type} {l:List α} {i:Nat} (h:i < l.length):l.drop i=l[i] :: l.drop (i + 1):=(List.getElem_cons_drop h).symm
theorem ps_start {w w1:World} {rest:List UInt8} {o:Obj} {lf:Bool} (h:Rd w1 w.heap.size rest /\ Upd (fun k=>k=w.heap.size) (w.alloc o) w1) :
 PS w (w1.alloc (.cells #[.bool lf,.slice none 0 0,.slice none 0 0,.slice none 0 0] 222)) w.heap.size w1.heap.size lf (.slice none 0 0) (.slice none 0 0) (.slice none 0 0) [] [] [] rest:=by
 have hs:=h.2.size
 simp at hs
 exact ⟨heap_alloc_new _ _,World.ownsRow_nil _ _ _ _,World.ownsRow_nil _ _ _ _,World.ownsRow_nil _ _ _ _,fun k e=>by simp [Value.ownBlock] at e,fun k e=>by simp [Value.ownBlock] at e,fun k e=>by simp [Value.ownBlock] at e,(heap_alloc_lt _ (lt_of_heap h.1)).trans h.1,Nat.le_refl _,by omega,
  ((((Below.refl w.heap.size w).alloc (Nat.le_refl _) o).trans (h.2.below (by simp) (fun k hk e=>by omega)))).alloc (by omega) _⟩
theorem ps_rd {w wr W1:World} {r p:Nat} {lf:Bool} {vk vv vi:Value} {K V:List ByteArray} {C:List Nat} {rest rest2:List UInt8} (h:PS w wr r p lf vk vv vi K V C rest) (h1:Rd W1 r rest2 /\ Upd (fun k=>k=r) wr W1):PS w W1 r p lf vk vv vi K V C rest2:=by
 have hrp:=h.rp
 have hlow:=h.low
 have keep:∀ k,k < wr.heap.size -> k ≠ r -> W1.heap[k]?=wr.heap[k]?:=fun k hk hn=>h1.2.block k hk hn
 refine ⟨(keep p (lt_of_heap h.blk) (by omega)).trans h.blk,ownsRow_of h.ks fun k e=>?_,ownsRow_of h.vs fun k e=>?_,ownsRow_of h.is fun k e=>?_,h.kv,h.ki,h.vi',h1.1,hlow,hrp,h.bel.trans (h1.2.below h.bel.size (fun k hk e=>by omega))⟩
 ·have:=h.ks.lt k e; exact keep k this.2 (by omega)
 ·have:=h.vs.lt k e; exact keep k this.2 (by omega)
 ·have:=h.is.lt k e; exact keep k this.2 (by omega)
theorem len_row {n:Nat} (h:n < 65536):n + 1 <= maxLen /\ (n + 1) * 16 <= 140737488355328 /\ (n + 1) * 8 <= 140737488355328:=by unfold maxLen; omega
theorem infoS:(Tryz.prog.info? 9).map (fun i=>(i.zero,i.size,i.bytes))=some (some (.string ⟨#[]⟩),1,16):=by kernel_rfl
theorem base_ge {w wr:World} {r p:Nat} {lf:Bool} {vk vv vi:Value} {K V:List ByteArray} {C:List Nat} {rest:List UInt8} (h:PS w wr r p lf vk vv vi K V C rest) (o:Obj):p + 1 <= (wr.alloc o).heap.size:=by
 have:=lt_of_heap h.blk; simp; omega
theorem nd_drewN {w wr:World} {p:Nat} {d:Nd} (h:Hid (∃ F,IsNd wr F p d /\ (∀ k,F k -> w.heap.size <= k) /\ Below w.heap.size w wr)) (q:Nat):Hid (∃ F,IsNd (wr.drewN q) F p d /\ (∀ k,F k -> w.heap.size <= k) /\ Below w.heap.size w (wr.drewN q)):=by
 obtain ⟨F,h1,h2,h3⟩:=h.out
 exact Hd ⟨F,h1.of fun k _=>rfl,h2,⟨h3.os,h3.tape,h3.output,h3.size,h3.block⟩⟩
def LRel (w:World) (r p:Nat) (l:List (ByteArray × ByteArray)) (pad:List UInt8) (g:Nat) (s18:Value) (wr:World):Prop :=
 ∃ i vk vv vi,g=l.length - i /\ i <= l.length /\ s18=.int .i64 (i:Nat) /\ Hid (PS w wr r p true vk vv vi ((l.take i).map Prod.fst) ((l.take i).map Prod.snd) [] ((l.drop i).flatMap entL ++ pad)) /\ Hid (((l.drop i).flatMap entL ++ pad).length <= 1000000)
theorem parse_leaf (l:List (ByteArray × ByteArray)) (pad:List UInt8) (w:World) (hd:(Nd.leaf l).Ok) (hl:((Nd.leaf l).bytes ++ pad).length <= 1000000) :
 Calls Tryz.prog 184 #[.string (ofL ((Nd.leaf l).bytes ++ pad))] w fun e w'=>∃ p,e=.returned (.tuple #[.pointer (some ⟨p,0,none⟩),.bool true]) /\ Hid (∃ F,IsNd w' F p (.leaf l) /\ (∀ k,F k -> w.heap.size <= k) /\ Below w.heap.size w w'):=by
 have hlen:(Nd.leaf l).len=l.length:=by simp [Nd.len,Nd.keys]
 have hn0:=hd.pos
 have hn1:=hd.few
 rw [hlen] at hn0 hn1
 have he:(Nd.leaf l).bytes ++ pad=[76] ++ ([UInt8.ofNat (l.length / 256),UInt8.ofNat l.length] ++ (l.flatMap entL ++ pad)):=by simp [Nd.bytes,Nd.kind,Nd.body,hlen]
 have hK:Hid (∀ p ∈ l,p.1.size <= 96 /\ p.2.size <= 56):=Hd fun p hp=>⟨hd.key _ (by simp [Nd.keys]; exact ⟨_,hp⟩),hd.val _ (by simp [Nd.vals]; exact ⟨_,hp⟩)⟩
 rw [he] at hl ⊢
 obtain ⟨jS,hjS,hS0,hS1,hS2⟩:=info_parts infoS
 have TK:=Hd (take_c w.heap.size [76] _ (w.alloc (.cells #[.string (ofL ([76] ++ ([UInt8.ofNat (l.length / 256),UInt8.ofNat l.length] ++ (l.flatMap entL ++ pad)))),.bool false] 302)) (heap_alloc_new _ _) hl)
 rw [List.length_singleton,show ((1:Nat):Int)=1 from rfl,show ofL [76]=⟨#[76]⟩ from rfl] at TK
 have HL1:Hid (([UInt8.ofNat (l.length / 256),UInt8.ofNat l.length] ++ (l.flatMap entL ++ pad)).length <= 1000000):=Hd (by rw [List.length_append] at hl; omega)
 have HL2:Hid ((l.flatMap entL ++ pad).length <= 1000000):=Hd (by have:=HL1.out; rw [List.length_append] at this; omega)
 have HB2:Hid (beL [UInt8.ofNat (l.length / 256),UInt8.ofNat l.length]=l.length):=Hd (beL_two _ hn1)
 clear hl he hlen hd
 generalize ofL ([76] ++ ([UInt8.ofNat (l.length / 256),UInt8.ofNat l.length] ++ (l.flatMap entL ++ pad)))=s0 at *
 go_enter Tryz.func184,Tryz.ntmps184
 go_wp2_with fail
 refine (TK.out).mono ?_
 rintro e w1 ⟨rfl,H1⟩
 have P1:=Hd (ps_start (lf:=true) H1.out)
 have NM:=Hd (num_c w.heap.size [UInt8.ofNat (l.length / 256),UInt8.ofNat l.length] (l.flatMap entL ++ pad) _ P1.out.rd HL1.out (by simp))
 rw [HB2.out,show ([UInt8.ofNat (l.length / 256),UInt8.ofNat l.length].length:Nat)=2 from rfl,show ((2:Nat):Int)=2 from rfl] at NM
 clear TK H1 HL1 HB2
 go_wp2_with fail
 refine (NM.out).mono ?_
 rintro e w2 ⟨rfl,H2⟩
 have P2:=Hd (ps_rd P1.out H2.out)
 clear NM H2 P1
 generalize w1.heap.size=p at *
 generalize w.heap.size=r at *
 go_wp2_with fail
 go_loopg [18] l.length (fun g s18 wr=>LRel w r p l pad g s18 wr)
 case atStart=>exact ⟨0,_,_,_,rfl,Nat.zero_le _,rfl,by simpa using P2,by simpa using HL2⟩
 case round =>
  obtain ⟨i,vk,vv,vi,rfl,hi,rfl,HP,HLN⟩:=hrel
  clear P2 HL2
  by_cases hlt:i < l.length
  ·obtain ⟨kk,vv0,hx⟩:∃ a b,l[i]=(a,b):=⟨_,_,rfl⟩
   have hsz:=hK.out _ (List.getElem_mem hlt)
   rw [hx] at hsz; dsimp only at hsz
   have hrest:(l.drop i).flatMap entL ++ pad=[UInt8.ofNat kk.size] ++ (kk.data.toList ++ ([UInt8.ofNat vv0.size] ++ (vv0.data.toList ++ ((l.drop (i + 1)).flatMap entL ++ pad)))):=by rw [drop_cons hlt,hx]; simp [entL]
   rw [hrest] at HP HLN
   have hk1:((l.take i).map Prod.fst).length < 65536:=by simp; omega
   have hk2:((l.take i).map Prod.snd).length < 65536:=by simp; omega
   have HN1:Hid ((l.take (i + 1)).map Prod.fst=(l.take i).map Prod.fst ++ [kk] /\ (l.take (i + 1)).map Prod.snd=(l.take i).map Prod.snd ++ [vv0]):=Hd (by rw [List.take_succ_eq_append_getElem hlt,hx]; simp)
   have TX1:=Hd (text_c r _ _ _ wr.drew HP.out.rd HLN.out (by rw [UInt8.toNat_ofNat',<- Lib.size_eq]; omega))
   rw [show ofL kk.data.toList=kk from rfl] at TX1
   have HLN2:Hid (([UInt8.ofNat vv0.size] ++ (vv0.data.toList ++ ((l.drop (i + 1)).flatMap entL ++ pad))).length <= 1000000):=Hd (by have:=HLN.out; simp only [List.length_append] at this ⊢; omega)
   have HLN3:Hid (((l.drop (i + 1)).flatMap entL ++ pad).length <= 1000000):=Hd (by have:=HLN.out; simp only [List.length_append] at this ⊢; omega)
   have HA2:Hid (vv0.data.toList.length=(UInt8.ofNat vv0.size).toNat):=Hd (by rw [UInt8.toNat_ofNat',<- Lib.size_eq]; omega)
   have HLN_key:=Hd (And.intro (len_row hk1).1 (len_row hk1).2.1)
   have HLN_val:=Hd (And.intro (len_row hk2).1 (len_row hk2).2.1)
   clear hrest hsz hk1 hk2 HLN hx hK
   generalize (l.take i).map Prod.fst=K at *
   generalize (l.take i).map Prod.snd=V at *
   have r1:wr.cell? ⟨r,1,none⟩=some (.bool false):=cell_lit HP.out.rd rfl
   obtain ⟨a_,m_,c_,ev⟩:=slice_form HP.out.ks
   subst ev
   have d1:wr.cell? ⟨p,1,none⟩=some (.slice a_ m_ c_):=cell_lit HP.out.blk rfl
   have lp:=lt_of_heap HP.out.blk
   go_wp2_with fail
   go_region_law ((first
    | (refine step_append_y (by rfl) _ _ _ (by rfl) (p + 1) 9 jS _ 1 16 Tryz.underlying63 hjS hS0 hS1 hS2 rfl (by decide) _ _ _ (by rfl) (PA.out.ks.alloc _) _ 1 _ (by rfl) (yields_boxL _ #[.string kk] _ 1 1) rfl (one1 _ rfl) HLN_key.out.1 HLN_key.out.2 (base_ge PA.out _) ?_
       intro px W5 ho5 hg5 ha5
       obtain ⟨xa,xm,xc,rfl⟩:=slice_form ho5
       have PK:=Hd (ps_key HP.out HU.out ho5 hg5 ha5)
       have g1:W5.cell? ⟨p,1,none⟩=some (.slice a_ m_ c_):=cell_lit PK.out.2 rfl
       have g2:=frozen_lit PK.out.2 1
       clear ho5 hg5 ha5)
    | (go_simp; go_at_call 223; refine Calls.at_args TX1.out (by with_reducible rfl) ?_; rintro e W3 ⟨rfl,H3⟩
       have HU:=Hd (And.intro H3.out.1 H3.out.2.drew_left)
       have PA:=Hd (ps_rd HP.out HU.out)
       have e3:W3.cell? ⟨p,1,none⟩=some (.slice a_ m_ c_):=cell_lit PA.out.blk rfl
       have l3:=lt_of_heap PA.out.blk
       clear H3)))
   all_goals (
    have P3:=Hd PK.out.1
    clear PK PA HU HP d1 lp TX1
    generalize W5.setCell ⟨p,1,none⟩ (.slice xa xm xc)=W6 at *
    have d0:W6.cell? ⟨p,0,none⟩=some (.bool true):=cell_lit P3.out.blk rfl
    have TX2:=Hd (text_c r _ _ _ W6.drew P3.out.rd HLN2.out HA2.out)
    rw [show ofL vv0.data.toList=vv0 from rfl] at TX2
    clear r1 g1 g2
    obtain ⟨a_,m_,c_,ev⟩:=slice_form P3.out.vs
    subst ev
    have d1:W6.cell? ⟨p,2,none⟩=some (.slice a_ m_ c_):=cell_lit P3.out.blk rfl
    have lp:=lt_of_heap P3.out.blk
    go_wp2_with fail
    go_region_law ((first
     | (refine step_append_y (by rfl) _ _ _ (by rfl) (p + 1) 9 jS _ 1 16 Tryz.underlying63 hjS hS0 hS1 hS2 rfl (by decide) _ _ _ (by rfl) (PA.out.vs.alloc _) _ 1 _ (by rfl) (yields_boxL _ #[.string vv0] _ 1 1) rfl (one1 _ rfl) HLN_val.out.1 HLN_val.out.2 (base_ge PA.out _) ?_
        intro px W5 ho5 hg5 ha5
        obtain ⟨xa,xm,xc,rfl⟩:=slice_form ho5
        have PK:=Hd (ps_val P3.out HU.out ho5 hg5 ha5)
        have g1:W5.cell? ⟨p,2,none⟩=some (.slice a_ m_ c_):=cell_lit PK.out.2 rfl
        have g2:=frozen_lit PK.out.2 2
        clear ho5 hg5 ha5)
     | (go_simp; go_at_call 223; refine Calls.at_args TX2.out (by with_reducible rfl) ?_; rintro e W3 ⟨rfl,H3⟩
        have HU:=Hd (And.intro H3.out.1 H3.out.2.drew_left)
        have PA:=Hd (ps_rd P3.out HU.out)
        have e3:W3.cell? ⟨p,2,none⟩=some (.slice a_ m_ c_):=cell_lit PA.out.blk rfl
        have l3:=lt_of_heap PA.out.blk
        clear H3))))
   all_goals (
    have P4:=Hd PK.out.1
    clear PK PA HU P3 d1 lp TX2
    go_wp2_with fail
    go_roundg (l.length - (i + 1)))
   all_goals (first | omega | exact ⟨i + 1,_,_,_,rfl,by omega,by simp,by rw [HN1.out.1,HN1.out.2]; exact P4,HLN3⟩)
  ·obtain rfl:i=l.length:=by omega
   have P5:PS w wr r p (Nd.leaf l).isLeaf vk vv vi (Nd.leaf l).keys (Nd.leaf l).vals (Nd.leaf l).kids (([]:List (ByteArray × ByteArray)).flatMap entL ++ pad):=by
    have:=HP.out
    rw [List.take_length,List.drop_length] at this
    exact this
   have HE:=Hd P5.nd
   obtain ⟨a_,c_,ev⟩:=(RRow.of_own P5.ks).form
   rw [List.length_map,show (Nd.leaf l).keys.length=l.length by simp [Nd.keys]] at ev
   subst ev
   have d0:wr.cell? ⟨p,0,none⟩=some (.bool true):=cell_lit P5.blk rfl
   have d1:wr.cell? ⟨p,1,none⟩=some (.slice a_ l.length c_):=cell_lit P5.blk rfl
   have r1:wr.cell? ⟨r,1,none⟩=some (.bool false):=cell_lit P5.rd rfl
   have hn2:(0:Int) < (l.length:Int):=by omega
   have hn3:decide ((l.length:Int) > 0)=true:=by simpa using hn2
   have hn4:decide ((0:Int) < (l.length:Int))=true:=by simpa using hn2
   clear HP HLN hK P5
   go_wp2_with fail
   go_quiet (fail)
   go_wp2_with fail
   go_ret2
   exact ⟨p,rfl,nd_drewN HE _⟩
def IRel (w:World) (r p:Nat) (l:List (ByteArray × Nat)) (pad:List UInt8) (g:Nat) (s18:Value) (wr:World):Prop :=
 ∃ i vk vv vi,g=l.length - i /\ i <= l.length /\ s18=.int .i64 (i:Nat) /\ Hid (PS w wr r p false vk vv vi ((l.take i).map Prod.fst) [] ((l.take i).map Prod.snd) ((l.drop i).flatMap entI ++ pad)) /\ Hid (((l.drop i).flatMap entI ++ pad).length <= 1000000)
theorem parse_inner (l:List (ByteArray × Nat)) (pad:List UInt8) (w:World) (hd:(Nd.inner l).Ok) (hl:((Nd.inner l).bytes ++ pad).length <= 1000000) :
 Calls Tryz.prog 184 #[.string (ofL ((Nd.inner l).bytes ++ pad))] w fun e w'=>∃ p,e=.returned (.tuple #[.pointer (some ⟨p,0,none⟩),.bool true]) /\ Hid (∃ F,IsNd w' F p (.inner l) /\ (∀ k,F k -> w.heap.size <= k) /\ Below w.heap.size w w'):=by
 have hlen:(Nd.inner l).len=l.length:=by simp [Nd.len,Nd.keys]
 have hn0:=hd.pos
 have hn1:=hd.few
 rw [hlen] at hn0 hn1
 have he:(Nd.inner l).bytes ++ pad=[78] ++ ([UInt8.ofNat (l.length / 256),UInt8.ofNat l.length] ++ (l.flatMap entI ++ pad)):=by simp [Nd.bytes,Nd.kind,Nd.body,hlen]
 have hK:Hid (∀ p ∈ l,p.1.size <= 96 /\ p.2 < 4294967296):=Hd fun p hp=>⟨hd.key _ (by simp [Nd.keys]; exact ⟨_,hp⟩),hd.kid _ (by simp [Nd.kids]; exact ⟨_,hp⟩)⟩
 rw [he] at hl ⊢
 obtain ⟨jS,hjS,hS0,hS1,hS2⟩:=info_parts infoS
 obtain ⟨jN,hjN,hN0,hN1,hN2⟩:=info_parts infoI
 have TK:=Hd (take_c w.heap.size [78] _ (w.alloc (.cells #[.string (ofL ([78] ++ ([UInt8.ofNat (l.length / 256),UInt8.ofNat l.length] ++ (l.flatMap entI ++ pad)))),.bool false] 302)) (heap_alloc_new _ _) hl)
 rw [List.length_singleton,show ((1:Nat):Int)=1 from rfl,show ofL [78]=⟨#[78]⟩ from rfl] at TK
 have HL1:Hid (([UInt8.ofNat (l.length / 256),UInt8.ofNat l.length] ++ (l.flatMap entI ++ pad)).length <= 1000000):=Hd (by rw [List.length_append] at hl; omega)
 have HL2:Hid ((l.flatMap entI ++ pad).length <= 1000000):=Hd (by have:=HL1.out; rw [List.length_append] at this; omega)
 have HB2:Hid (beL [UInt8.ofNat (l.length / 256),UInt8.ofNat l.length]=l.length):=Hd (beL_two _ hn1)
 clear hl he hlen hd
 generalize ofL ([78] ++ ([UInt8.ofNat (l.length / 256),UInt8.ofNat l.length] ++ (l.flatMap entI ++ pad)))=s0 at *
 go_enter Tryz.func184,Tryz.ntmps184
 go_wp2_with fail
 refine (TK.out).mono ?_
 rintro e w1 ⟨rfl,H1⟩
 have P1:=Hd (ps_start (lf:=false) H1.out)
 have NM:=Hd (num_c w.heap.size [UInt8.ofNat (l.length / 256),UInt8.ofNat l.length] (l.flatMap entI ++ pad) _ P1.out.rd HL1.out (by simp))
 rw [HB2.out,show ([UInt8.ofNat (l.length / 256),UInt8.ofNat l.length].length:Nat)=2 from rfl,show ((2:Nat):Int)=2 from rfl] at NM
 clear TK H1 HL1 HB2
 go_wp2_with fail
 refine (NM.out).mono ?_
 rintro e w2 ⟨rfl,H2⟩
 have P2:=Hd (ps_rd P1.out H2.out)
 clear NM H2 P1
 generalize w1.heap.size=p at *
 generalize w.heap.size=r at *
 go_wp2_with fail
 go_loopg [18] l.length (fun g s18 wr=>IRel w r p l pad g s18 wr)
 case atStart=>exact ⟨0,_,_,_,rfl,Nat.zero_le _,rfl,by simpa using P2,by simpa using HL2⟩
 case round =>
  obtain ⟨i,vk,vv,vi,rfl,hi,rfl,HP,HLN⟩:=hrel
  clear P2 HL2
  by_cases hlt:i < l.length
  ·obtain ⟨kk,cc,hx⟩:∃ a b,l[i]=(a,b):=⟨_,_,rfl⟩
   have hsz:=hK.out _ (List.getElem_mem hlt)
   rw [hx] at hsz; dsimp only at hsz
   have hrest:(l.drop i).flatMap entI ++ pad=[UInt8.ofNat kk.size] ++ (kk.data.toList ++ (be4 cc ++ ((l.drop (i + 1)).flatMap entI ++ pad))):=by rw [drop_cons hlt,hx]; simp [entI]
   rw [hrest] at HP HLN
   have hk1:((l.take i).map Prod.fst).length < 65536:=by simp; omega
   have hk2:((l.take i).map Prod.snd).length < 65536:=by simp; omega
   have HN1:Hid ((l.take (i + 1)).map Prod.fst=(l.take i).map Prod.fst ++ [kk] /\ (l.take (i + 1)).map Prod.snd=(l.take i).map Prod.snd ++ [cc]):=Hd (by rw [List.take_succ_eq_append_getElem hlt,hx]; simp)
   have TX1:=Hd (text_c r _ _ _ wr.drew HP.out.rd HLN.out (by rw [UInt8.toNat_ofNat',<- Lib.size_eq]; omega))
   rw [show ofL kk.data.toList=kk from rfl] at TX1
   have HLN2:Hid ((be4 cc ++ ((l.drop (i + 1)).flatMap entI ++ pad)).length <= 1000000):=Hd (by have:=HLN.out; simp only [List.length_append] at this ⊢; omega)
   have HLN3:Hid (((l.drop (i + 1)).flatMap entI ++ pad).length <= 1000000):=Hd (by have:=HLN.out; simp only [List.length_append] at this ⊢; omega)
   have HA2:Hid (beL (be4 cc)=cc):=Hd (beL_be4 cc hsz.2)
   have HLN_key:=Hd (And.intro (len_row hk1).1 (len_row hk1).2.1)
   have HLN_kid:=Hd (And.intro (len_row hk2).1 (len_row hk2).2.2)
   clear hrest hsz hk1 hk2 HLN hx hK
   generalize (l.take i).map Prod.fst=K at *
   generalize (l.take i).map Prod.snd=C at *
   have r1:wr.cell? ⟨r,1,none⟩=some (.bool false):=cell_lit HP.out.rd rfl
   obtain ⟨a_,m_,c_,ev⟩:=slice_form HP.out.ks
   subst ev
   have d1:wr.cell? ⟨p,1,none⟩=some (.slice a_ m_ c_):=cell_lit HP.out.blk rfl
   have lp:=lt_of_heap HP.out.blk
   go_wp2_with fail
   go_region_law ((first
    | (refine step_append_y (by rfl) _ _ _ (by rfl) (p + 1) 9 jS _ 1 16 Tryz.underlying63 hjS hS0 hS1 hS2 rfl (by decide) _ _ _ (by rfl) (PA.out.ks.alloc _) _ 1 _ (by rfl) (yields_boxL _ #[.string kk] _ 1 1) rfl (one1 _ rfl) HLN_key.out.1 HLN_key.out.2 (base_ge PA.out _) ?_
       intro px W5 ho5 hg5 ha5
       obtain ⟨xa,xm,xc,rfl⟩:=slice_form ho5
       have PK:=Hd (ps_key HP.out HU.out ho5 hg5 ha5)
       have g1:W5.cell? ⟨p,1,none⟩=some (.slice a_ m_ c_):=cell_lit PK.out.2 rfl
       have g2:=frozen_lit PK.out.2 1
       clear ho5 hg5 ha5)
    | (go_simp; go_at_call 223; refine Calls.at_args TX1.out (by with_reducible rfl) ?_; rintro e W3 ⟨rfl,H3⟩
       have HU:=Hd (And.intro H3.out.1 H3.out.2.drew_left)
       have PA:=Hd (ps_rd HP.out HU.out)
       have e3:W3.cell? ⟨p,1,none⟩=some (.slice a_ m_ c_):=cell_lit PA.out.blk rfl
       have l3:=lt_of_heap PA.out.blk
       clear H3)))
   all_goals (
    have P3:=Hd PK.out.1
    clear PK PA HU HP d1 lp TX1
    generalize W5.setCell ⟨p,1,none⟩ (.slice xa xm xc)=W6 at *
    have d0:W6.cell? ⟨p,0,none⟩=some (.bool false):=cell_lit P3.out.blk rfl
    have TX2:=Hd (num_c r (be4 cc) _ W6.drew P3.out.rd HLN2.out (by simp [be4]))
    rw [HA2.out,show ((be4 cc).length:Nat)=4 from rfl,show ((4:Nat):Int)=4 from rfl] at TX2
    clear r1 g1 g2
    obtain ⟨a_,m_,c_,ev⟩:=slice_form P3.out.is
    subst ev
    have d1:W6.cell? ⟨p,3,none⟩=some (.slice a_ m_ c_):=cell_lit P3.out.blk rfl
    have lp:=lt_of_heap P3.out.blk
    go_wp2_with fail
    go_region_law ((first
     | (refine step_append_y (by rfl) _ _ _ (by rfl) (p + 1) 3 jN _ 1 8 Tryz.underlying191 hjN hN0 hN1 hN2 rfl (by decide) _ _ _ (by rfl) (PA.out.is.alloc _) _ 1 _ (by rfl) (yields_boxL _ #[.int .i64 (cc:Int)] _ 1 1) rfl (one1 _ rfl) HLN_kid.out.1 HLN_kid.out.2 (base_ge PA.out _) ?_
        intro px W5 ho5 hg5 ha5
        obtain ⟨xa,xm,xc,rfl⟩:=slice_form ho5
        have PK:=Hd (ps_kid P3.out HU.out ho5 hg5 ha5)
        have g1:W5.cell? ⟨p,3,none⟩=some (.slice a_ m_ c_):=cell_lit PK.out.2 rfl
        have g2:=frozen_lit PK.out.2 3
        clear ho5 hg5 ha5)
     | (go_simp; go_at_call 222; refine Calls.at_args TX2.out (by with_reducible rfl) ?_; rintro e W3 ⟨rfl,H3⟩
        have HU:=Hd (And.intro H3.out.1 H3.out.2.drew_left)
        have PA:=Hd (ps_rd P3.out HU.out)
        have e3:W3.cell? ⟨p,3,none⟩=some (.slice a_ m_ c_):=cell_lit PA.out.blk rfl
        have l3:=lt_of_heap PA.out.blk
        clear H3))))
   all_goals (
    have P4:=Hd PK.out.1
    clear PK PA HU P3 d1 lp TX2
    go_wp2_with fail
    go_roundg (l.length - (i + 1)))
   all_goals (first | omega | exact ⟨i + 1,_,_,_,rfl,by omega,by simp,by rw [HN1.out.1,HN1.out.2]; exact P4,HLN3⟩)
  ·obtain rfl:i=l.length:=by omega
   have P5:PS w wr r p (Nd.inner l).isLeaf vk vv vi (Nd.inner l).keys (Nd.inner l).vals (Nd.inner l).kids (([]:List (ByteArray × Nat)).flatMap entI ++ pad):=by
    have:=HP.out
    rw [List.take_length,List.drop_length] at this
    exact this
   have HE:=Hd P5.nd
   obtain ⟨a_,c_,ev⟩:=(RRow.of_own P5.ks).form
   rw [List.length_map,show (Nd.inner l).keys.length=l.length by simp [Nd.keys]] at ev
   subst ev
   have d0:wr.cell? ⟨p,0,none⟩=some (.bool false):=cell_lit P5.blk rfl
   have d1:wr.cell? ⟨p,1,none⟩=some (.slice a_ l.length c_):=cell_lit P5.blk rfl
   have r1:wr.cell? ⟨r,1,none⟩=some (.bool false):=cell_lit P5.rd rfl
   have hn2:(0:Int) < (l.length:Int):=by omega
   have hn3:decide ((l.length:Int) > 0)=true:=by simpa using hn2
   have hn4:decide ((0:Int) < (l.length:Int))=true:=by simpa using hn2
   clear HP HLN hK P5
   go_wp2_with fail
   go_quiet (fail)
   go_wp2_with fail
   go_ret2
   exact ⟨p,rfl,nd_drewN HE _⟩
theorem parse_c (d:Nd) (pad:List UInt8) (w:World) (hd:d.Ok) (hl:(d.bytes ++ pad).length <= 1000000) :
 Calls Tryz.prog 184 #[.string (ofL (d.bytes ++ pad))] w fun e w'=>∃ p,e=.returned (.tuple #[.pointer (some ⟨p,0,none⟩),.bool true]) /\ Hid (∃ F,IsNd w' F p d /\ (∀ k,F k -> w.heap.size <= k) /\ Below w.heap.size w w'):=by
 cases d with
 | leaf l=>exact parse_leaf l pad w hd hl
 | inner l=>exact parse_inner l pad w hd hl
theorem RRow.below {w w':World} {v:Value} {xs:List Value} (h:RRow w v xs) (hb:Below w.heap.size w w'):RRow w' v xs:=by
 rcases h with h | ⟨g,off,cap,rfl,hn,hc⟩
 ·exact .inl h
 ·refine .inr ⟨g,off,cap,rfl,hn,fun i hi=>?_⟩
  have:=hc i hi
  exact (World.cell?_of_block (hb.block _ (World.block_lt_of_cell? w _ this))).trans this
theorem NdV.below {w w':World} {p:Nat} {d:Nd} {vk vv vi:Value} (h:NdV w p d vk vv vi) (hb:Below w.heap.size w w'):NdV w' p d vk vv vi :=
 ⟨(hb.block p (lt_of_heap h.blk)).trans h.blk,h.ks.below hb,h.vs.below hb,h.is.below hb⟩
def bytesC (l:List UInt8):List Value:=l.map fun c=>Value.int .u8 (c.toNat:Int)
theorem bytesC_append (a b:List UInt8):bytesC (a ++ b)=bytesC a ++ bytesC b:=by simp [bytesC]
theorem strCells_bytes (s:ByteArray):Lib.strCells s=bytesC s.data.toList:=by rw [Lib.strCells_eq]; rfl
theorem u8_wrap_nat (n:Nat):IntKind.u8.wrap (n:Int)=((UInt8.ofNat n).toNat:Int):=by
 rw [UInt8.toNat_ofNat']
 simp [IntKind.wrap,IntKind.bits,IntKind.signed]
theorem conv_rowC {w:World} {base:Nat} {v:Value} {n:Nat} {l:List UInt8} (h:w.ownsRow base 5 1 v n (bytesC l)) :
 (convert 91 9 v).run Tryz.prog w=.ok (.string (ofL l)) w:=by
 have hl:l.length=n:=by have:=h.1; simpa [bytesC] using this
 rcases h.2 with ⟨rfl,h0⟩ | ⟨g,cap,cur,rfl,-⟩
 ·have:l=[]:=List.eq_nil_of_length_eq_zero (by omega)
  subst this
  exact run_convert_bytes_nil w 91 5 Tryz.underlying91 Tryz.underlying5 0 0 9 Tryz.underlying9
 ·have:=run_convert_bytes_arg (P:=Tryz.prog) w 91 5 Tryz.underlying91 Tryz.underlying5 g 0 n cap (l.map fun c=>(c.toNat:Int)) (by simpa using hl) (fun i hi=>by
   rw [Nat.zero_add,h.cellAt i (by omega)]
   simp [bytesC,hl,hi]) 9 Tryz.underlying9
  rw [this]
  congr 2
  apply ByteArray.ext
  simp only [strOfNums,List.map_map,ofL]
  rw [show ((fun n:Int=>UInt8.ofNat n.toNat) ∘ fun c:UInt8=>(c.toNat:Int))=id from funext fun c=>by simp]
  simp
structure TR (w wr:World) (v:Value) (l:List UInt8):Prop where
 row:wr.ownsRow w.heap.size 5 1 v l.length (bytesC l)
 bel:Below w.heap.size w wr
theorem tr_next {w wr W W':World} {v v':Value} {l m:List UInt8} (h:TR w wr v l) (hw:Below wr.heap.size wr W) (ho:W'.ownsRow w.heap.size 5 1 v' (l.length + m.length) (bytesC l ++ bytesC m)) (hg:W.grownBy W' v.ownBlock):TR w W' v' (l ++ m):=by
 refine ⟨by rw [List.length_append,bytesC_append]; exact ho,?_⟩
 have h1:=h.bel.trans (hw.mono h.bel.size)
 exact h1.grown hg h1.size (fun k e=>(h.row.lt k e).1)
theorem tr_row {w wr W:World} {v:Value} {l:List UInt8} (h:TR w wr v l) (hw:Below wr.heap.size wr W):W.ownsRow w.heap.size 5 1 v l.length (bytesC l):=ownsRow_of h.row fun k e=>hw.block k (h.row.lt k e).2
theorem len_b {n m:Nat} (h:n <= 19000000) (h2:m <= 100):n + m <= maxLen /\ (n + m) * 1 <= 140737488355328 /\ n + m <= 140737488355328:=by unfold maxLen; omega
theorem entL_len (l:List (ByteArray × ByteArray)) (h:∀ p ∈ l,p.1.size <= 96 /\ p.2.size <= 56):(l.flatMap entL).length <= 154 * l.length:=by
 induction l with
 | nil=>simp
 | cons p t ih =>
   have h1:=h p (by simp)
   have h2:=ih fun q hq=>h q (by simp [hq])
   rw [Lib.size_eq,Lib.size_eq] at h1
   simp only [List.flatMap_cons,List.length_append,List.length_cons,entL,List.length_nil]
   omega
theorem byte_small {n:Nat} (h:n <= 96):((UInt8.ofNat n).toNat:Int)=(n:Int):=by rw [UInt8.toNat_ofNat']; omega
theorem tr_start {w wr:World} {a b c:Nat} {x y z:Int} (hb:Below w.heap.size w wr) (hx:x=((UInt8.ofNat a).toNat:Int)) (hy:y=((UInt8.ofNat b).toNat:Int)) (hz:z=((UInt8.ofNat c).toNat:Int)) :
 TR w (wr.alloc (.cells #[.int .u8 x,.int .u8 y,.int .u8 z] 5)) (.slice (some ⟨wr.heap.size,0,none⟩) 3 3) [UInt8.ofNat a,UInt8.ofNat b,UInt8.ofNat c]:=by
 subst hx hy hz
 refine ⟨?_,hb.alloc hb.size _⟩
 have:=World.ownsRow_lit (base:=w.heap.size) (e:=5) (size:=1) wr #[.int .u8 ((UInt8.ofNat a).toNat:Int),.int .u8 ((UInt8.ofNat b).toNat:Int),.int .u8 ((UInt8.ofNat c).toNat:Int)] 3 hb.size (by unfold maxLen; omega) rfl
 exact this
theorem tr_drew {w wr:World} {v:Value} {l:List UInt8} (h:TR w wr v l):TR w wr.drew v l:=⟨h.row,h.bel.drew⟩
theorem chkA (t u:TypeId) {P:Program} {w:World} {ops:Array Oper} {rest:List Oper} {o:Oper} {a:Act} {Q:Exit -> Act -> World -> Prop}
 (ho:∃ s x,o.op=.call { callee:=.builtin .append,args:=#[s,x],argTypes:=#[t,u] }) (h:wpList P ops Q (o :: rest) a w):wpList P ops Q (o :: rest) a w:=h
theorem text_leaf (l:List (ByteArray × ByteArray)) (p:Nat) (vk vv vi:Value) (w:World) (hd:(Nd.leaf l).Ok) (h:NdV w p (.leaf l) vk vv vi) :
 Calls Tryz.prog 212 #[.pointer (some ⟨p,0,none⟩)] w fun e w'=>e=.returned (.string (ofL (Nd.leaf l).bytes)) /\ Below w.heap.size w w':=by
 have hlen:(Nd.leaf l).len=l.length:=by simp [Nd.len,Nd.keys]
 have hn0:=hd.pos
 have hn1:=hd.few
 rw [hlen] at hn0 hn1
 have hK:Hid (∀ p ∈ l,p.1.size <= 96 /\ p.2.size <= 56):=Hd fun p hp=>⟨hd.key _ (by simp [Nd.keys]; exact ⟨_,hp⟩),hd.val _ (by simp [Nd.vals]; exact ⟨_,hp⟩)⟩
 obtain ⟨g1,o1,cap1,ev1,hc1,hk1⟩:=h.ks.lit (by simp [Nd.keys]; omega)
 obtain ⟨g2,o2,cap2,ev2,hc2,hv1⟩:=h.vs.lit (by simp [Nd.vals]; omega)
 rw [List.length_map,show (Nd.leaf l).keys.length=l.length by simp [Nd.keys]] at ev1
 rw [List.length_map,show (Nd.leaf l).vals.length=l.length by simp [Nd.vals]] at ev2
 subst ev1 ev2
 have HB:Hid ((Nd.leaf l).bytes=[UInt8.ofNat 76,UInt8.ofNat (l.length / 256),UInt8.ofNat l.length] ++ l.flatMap entL):=Hd (by simp [Nd.bytes,Nd.kind,Nd.body,hlen])
 have HC:Hid (∀ W,Below w.heap.size w W -> W.cell? ⟨p,0,none⟩=some (.bool true) /\ W.cell? ⟨p,1,none⟩=some (.slice (some ⟨g1,o1,none⟩) l.length cap1) /\ W.cell? ⟨p,2,none⟩=some (.slice (some ⟨g2,o2,none⟩) l.length cap2)) :=
  Hd fun W hW=>⟨cell_lit (h.below hW).blk rfl,cell_lit (h.below hW).blk rfl,cell_lit (h.below hW).blk rfl⟩
 have HKC:Hid (∀ W i (hi:i < l.length),Below w.heap.size w W -> W.cell? ⟨g1,o1 + i,none⟩=some (.string l[i].1) /\ W.cell? ⟨g2,o2 + i,none⟩=some (.string l[i].2)) :=
  Hd fun W i hi hW=>by
   have a:=hk1 i (by simpa [Nd.keys] using hi)
   have b:=hv1 i (by simpa [Nd.vals] using hi)
   refine ⟨((World.cell?_of_block (hW.block _ (World.block_lt_of_cell? w _ a))).trans a).trans ?_,((World.cell?_of_block (hW.block _ (World.block_lt_of_cell? w _ b))).trans b).trans ?_⟩
   ·simp [Nd.keys]
   ·simp [Nd.vals]
 obtain ⟨jB,hjB,hB0,hB1,hB2⟩:=info_parts infoB
 obtain ⟨c0,c1,c2⟩:=HC.out w (Below.refl _ _)
 have W1:=Hd (u8_wrap_nat (l.length / 256))
 have W2:=Hd (u8_wrap_nat l.length)
 rw [HB.out]
 clear h hk1 hv1 hc1 hc2 hd hlen
 go_enter Tryz.func212,Tryz.ntmps212
 go_wp2_with fail
 go_region_held3 (fun w'=>w'.cell? ⟨p,1,none⟩=some (.slice (some ⟨g1,o1,none⟩) l.length cap1)) (go_keep) (fail)
 have T0:=Hd (tr_drew (tr_start (w:=w) (wr:=w) (a:=76) (b:=l.length / 256) (c:=l.length) (x:=76) (y:=IntKind.u8.wrap ((l.length:Int) / 256)) (z:=IntKind.u8.wrap (l.length:Int)) (Below.refl _ _) rfl (by rw [<- W1.out]; rfl) W2.out))
 generalize (w.alloc (.cells #[.int .u8 76,.int .u8 (IntKind.u8.wrap ((l.length:Int) / 256)),.int .u8 (IntKind.u8.wrap (l.length:Int))] 5)).drew=W0 at *
 obtain ⟨c0',c1',c2'⟩:=HC.out W0 T0.out.bel
 clear W1 W2
 generalize IntKind.u8.wrap ((l.length:Int) / 256)=z1 at *
 generalize IntKind.u8.wrap (l.length:Int)=z2 at *
 go_wp2_with fail
 go_loopg [4,32] l.length (fun g s4 s32 wr=>∃ i,g=l.length - i /\ i <= l.length /\ s32=.int .i64 (i:Nat) /\ Hid (TR w wr s4 ([UInt8.ofNat 76,UInt8.ofNat (l.length / 256),UInt8.ofNat l.length] ++ (l.take i).flatMap entL)))
 case atStart=>exact ⟨0,rfl,Nat.zero_le _,rfl,by simpa using T0⟩
 case round =>
  obtain ⟨i,rfl,hi,rfl,HT⟩:=hrel
  clear T0 c0 c1 c2 c0' c1' c2'
  by_cases hlt:i < l.length
  ·have hsz:=hK.out _ (List.getElem_mem hlt)
   obtain ⟨d0,d1,d2⟩:=HC.out wr HT.out.bel
   obtain ⟨d3,d4⟩:=HKC.out wr i hlt HT.out.bel
   obtain ⟨x1,hx1⟩:=exE (l[i].1)
   obtain ⟨x2,hx2⟩:=exE (l[i].2)
   have HX2:=Hd hx2
   rw [hx1] at d3 hsz
   rw [hx2] at d4 hsz
   have HQ:Hid (([UInt8.ofNat 76,UInt8.ofNat (l.length / 256),UInt8.ofNat l.length] ++ (l.take i).flatMap entL).length <= 18000000):=Hd (by
    have:=entL_len (l.take i) fun q hq=>hK.out q (List.mem_of_mem_take hq)
    simp at this ⊢; omega)
   have HN:Hid ([UInt8.ofNat 76,UInt8.ofNat (l.length / 256),UInt8.ofNat l.length] ++ (l.take (i + 1)).flatMap entL=([UInt8.ofNat 76,UInt8.ofNat (l.length / 256),UInt8.ofNat l.length] ++ (l.take i).flatMap entL) ++ [UInt8.ofNat x1.size] ++ x1.data.toList ++ [UInt8.ofNat x2.size] ++ x2.data.toList):=Hd (by
    rw [List.take_succ_eq_append_getElem hlt,List.flatMap_append,<- hx1,<- hx2]; simp [entL])
   have E1:=Hd (byte_small hsz.1)
   have E2:=Hd (byte_small (show x2.size <= 96 by omega))
   have s1:=hsz.1
   have s2:=hsz.2
   generalize [UInt8.ofNat 76,UInt8.ofNat (l.length / 256),UInt8.ofNat l.length] ++ (l.take i).flatMap entL=q at *
   have L1:=Hd (len_b (n:=q.length) (m:=1) (by have:=HQ.out; omega) (by omega))
   clear hK hx1 hx2 hsz
   go_wp2_with (first
    | (refine chkA 91 9 ⟨_,_,by with_reducible rfl⟩ ?_
       refine Lib.wpList_append_own_string _ (by rfl) _ _ _ _ rfl w.heap.size 5 jB Tryz.underlying91 Tryz.underlying9 hjB hB0 hB1 hB2 _ _ _ (by rfl) T3.out.row x2 (by rfl) L4.out.1 L4.out.2.2 T3.out.bel.size ?_
       intro v4 Y4 ho4 hg4 ha4
       have T4:Hid (TR w Y4 v4 (q ++ [UInt8.ofNat x1.size] ++ x1.data.toList ++ [UInt8.ofNat x2.size] ++ x2.data.toList)):=Hd (tr_next T3.out (Below.refl _ _) (by rw [<- strCells_bytes,<- Lib.size_eq]; exact ho4) hg4)
       clear ho4 hg4 ha4)
    | (refine chkA 91 91 ⟨_,_,by with_reducible rfl⟩ ?_
       refine wpList_append_y (by rfl) _ _ _ rfl w.heap.size 5 jB _ 1 1 Tryz.underlying91 hjB hB0 hB1 hB2 rfl (by decide) _ _ _ (by rfl) (tr_row T2.out ((Below.refl _ _).alloc (Nat.le_refl _) _)) _ 1 _ (by rfl) (yields_boxL _ #[.int .u8 (x2.size:Int)] _ 1 1) rfl (one1 _ rfl) L3.out.1 L3.out.2.1 (T2.out.bel.alloc T2.out.bel.size _).size ?_
       intro v3 Y3 ho3 hg3 ha3
       have T3:Hid (TR w Y3 v3 (q ++ [UInt8.ofNat x1.size] ++ x1.data.toList ++ [UInt8.ofNat x2.size])):=Hd (tr_next T2.out ((Below.refl _ _).alloc (Nat.le_refl _) _) (by simp only [bytesC,List.map_cons,List.map_nil,E2.out]; exact ho3) hg3)
       have L4:=Hd (len_b (n:=(q ++ [UInt8.ofNat x1.size] ++ x1.data.toList ++ [UInt8.ofNat x2.size]).length) (m:=x2.size) (by have:=HQ.out; simp only [List.length_append,List.length_cons,List.length_nil,<- Lib.size_eq]; omega) (by omega))
       have f5:=(HC.out Y3 T3.out.bel).2.2
       have f6:Y3.cell? ⟨g2,o2 + i,none⟩=some (.string x2):=by have:=(HKC.out Y3 i hlt T3.out.bel).2; rwa [HX2.out] at this
       clear ho3 hg3 ha3)
    | (refine chkA 91 9 ⟨_,_,by with_reducible rfl⟩ ?_
       refine Lib.wpList_append_own_string _ (by rfl) _ _ _ _ rfl w.heap.size 5 jB Tryz.underlying91 Tryz.underlying9 hjB hB0 hB1 hB2 _ _ _ (by rfl) T1.out.row x1 (by rfl) L2.out.1 L2.out.2.2 T1.out.bel.size ?_
       intro v2 Y2 ho2 hg2 ha2
       have T2:Hid (TR w Y2 v2 (q ++ [UInt8.ofNat x1.size] ++ x1.data.toList)):=Hd (tr_next T1.out (Below.refl _ _) (by rw [<- strCells_bytes,<- Lib.size_eq]; exact ho2) hg2)
       have L3:=Hd (len_b (n:=(q ++ [UInt8.ofNat x1.size] ++ x1.data.toList).length) (m:=1) (by have:=HQ.out; simp only [List.length_append,List.length_cons,List.length_nil,<- Lib.size_eq]; omega) (by omega))
       have f0:=(HC.out Y2 T2.out.bel).1
       have f2:=(HC.out Y2 T2.out.bel).2.2
       have f4:Y2.cell? ⟨g2,o2 + i,none⟩=some (.string x2):=by have:=(HKC.out Y2 i hlt T2.out.bel).2; rwa [HX2.out] at this
       clear ho2 hg2 ha2)
    | (refine chkA 91 91 ⟨_,_,by with_reducible rfl⟩ ?_
       refine wpList_append_y (by rfl) _ _ _ rfl w.heap.size 5 jB _ 1 1 Tryz.underlying91 hjB hB0 hB1 hB2 rfl (by decide) _ _ _ (by rfl) (tr_row HT.out ((Below.refl _ _).alloc (Nat.le_refl _) _)) _ 1 _ (by rfl) (yields_boxL _ #[.int .u8 (x1.size:Int)] _ 1 1) rfl (one1 _ rfl) L1.out.1 L1.out.2.1 (HT.out.bel.alloc HT.out.bel.size _).size ?_
       intro v1 Y1 ho1 hg1 ha1
       have T1:Hid (TR w Y1 v1 (q ++ [UInt8.ofNat x1.size])):=Hd (tr_next HT.out ((Below.refl _ _).alloc (Nat.le_refl _) _) (by simp only [bytesC,List.map_cons,List.map_nil,E1.out]; exact ho1) hg1)
       have L2:=Hd (len_b (n:=(q ++ [UInt8.ofNat x1.size]).length) (m:=x1.size) (by have:=HQ.out; simp; omega) (by omega))
       clear ho1 hg1 ha1))
   go_roundg (l.length - (i + 1))
   case measure=>omega
   case rel=>exact ⟨i + 1,rfl,by omega,by simp,by rw [HN.out]; exact T4⟩
  ·obtain rfl:i=l.length:=by omega
   have hcv:=conv_rowC HT.out.row
   have HB3:=Hd HT.out.bel
   rw [List.take_length] at hcv
   clear HT hK HKC
   go_wp2_with fail
   go_ret
   exact ⟨rfl,HB3.out⟩
theorem entI_len (l:List (ByteArray × Nat)) (h:∀ p ∈ l,p.1.size <= 96 /\ p.2 < 4294967296):(l.flatMap entI).length <= 154 * l.length:=by
 induction l with
 | nil=>simp
 | cons p t ih =>
   have h1:=h p (by simp)
   have h2:=ih fun q hq=>h q (by simp [hq])
   rw [Lib.size_eq] at h1
   simp only [List.flatMap_cons,List.length_append,List.length_cons,entI,be4,List.length_nil]
   omega
theorem one4 (a b c d:Value) (ha:a.oneCell'=true) (hb:b.oneCell'=true) (hc:c.oneCell'=true) (hd:d.oneCell'=true):∀ u ∈ [a,b,c,d],u.oneCell'=true:=by
 intro u hu; simp at hu; rcases hu with rfl | rfl | rfl | rfl <;> assumption
theorem be4_cells (c:Nat) (h:c < 4294967296):bytesC (be4 c)=[.int .u8 ((c:Int) / 16777216),.int .u8 ((c:Int) / 65536 % 256),.int .u8 ((c:Int) / 256 % 256),.int .u8 ((c:Int) % 256)]:=by
 have e:∀ n:Nat,((UInt8.ofNat n).toNat:Int)=((n % 256:Nat):Int):=fun n=>by rw [UInt8.toNat_ofNat']
 have e1:((c / 16777216 % 256:Nat):Int)=(c:Int) / 16777216:=by omega
 have e2:((c / 65536 % 256:Nat):Int)=(c:Int) / 65536 % 256:=by omega
 have e3:((c / 256 % 256:Nat):Int)=(c:Int) / 256 % 256:=by omega
 have e4:((c % 256:Nat):Int)=(c:Int) % 256:=by omega
 simp only [bytesC,be4,List.map_cons,List.map_nil,e,e1,e2,e3,e4]
theorem text_inner (l:List (ByteArray × Nat)) (p:Nat) (vk vv vi:Value) (w:World) (hd:(Nd.inner l).Ok) (h:NdV w p (.inner l) vk vv vi) :
 Calls Tryz.prog 212 #[.pointer (some ⟨p,0,none⟩)] w fun e w'=>e=.returned (.string (ofL (Nd.inner l).bytes)) /\ Below w.heap.size w w':=by
 have hlen:(Nd.inner l).len=l.length:=by simp [Nd.len,Nd.keys]
 have hn0:=hd.pos
 have hn1:=hd.few
 rw [hlen] at hn0 hn1
 have hK:Hid (∀ p ∈ l,p.1.size <= 96 /\ p.2 < 4294967296):=Hd fun p hp=>⟨hd.key _ (by simp [Nd.keys]; exact ⟨_,hp⟩),hd.kid _ (by simp [Nd.kids]; exact ⟨_,hp⟩)⟩
 obtain ⟨g1,o1,cap1,ev1,hc1,hk1⟩:=h.ks.lit (by simp [Nd.keys]; omega)
 obtain ⟨g2,o2,cap2,ev2,hc2,hv1⟩:=h.is.lit (by simp [Nd.kids]; omega)
 rw [List.length_map,show (Nd.inner l).keys.length=l.length by simp [Nd.keys]] at ev1
 rw [List.length_map,show (Nd.inner l).kids.length=l.length by simp [Nd.kids]] at ev2
 subst ev1 ev2
 have HB:Hid ((Nd.inner l).bytes=[UInt8.ofNat 78,UInt8.ofNat (l.length / 256),UInt8.ofNat l.length] ++ l.flatMap entI):=Hd (by simp [Nd.bytes,Nd.kind,Nd.body,hlen])
 have HC:Hid (∀ W,Below w.heap.size w W -> W.cell? ⟨p,0,none⟩=some (.bool false) /\ W.cell? ⟨p,1,none⟩=some (.slice (some ⟨g1,o1,none⟩) l.length cap1) /\ W.cell? ⟨p,3,none⟩=some (.slice (some ⟨g2,o2,none⟩) l.length cap2)) :=
  Hd fun W hW=>⟨cell_lit (h.below hW).blk rfl,cell_lit (h.below hW).blk rfl,cell_lit (h.below hW).blk rfl⟩
 have HKC:Hid (∀ W i (hi:i < l.length),Below w.heap.size w W -> W.cell? ⟨g1,o1 + i,none⟩=some (.string l[i].1) /\ W.cell? ⟨g2,o2 + i,none⟩=some (.int .i64 (l[i].2:Int))) :=
  Hd fun W i hi hW=>by
   have a:=hk1 i (by simpa [Nd.keys] using hi)
   have b:=hv1 i (by simpa [Nd.kids] using hi)
   refine ⟨((World.cell?_of_block (hW.block _ (World.block_lt_of_cell? w _ a))).trans a).trans ?_,((World.cell?_of_block (hW.block _ (World.block_lt_of_cell? w _ b))).trans b).trans ?_⟩
   ·simp [Nd.keys]
   ·simp [Nd.kids]
 obtain ⟨jB,hjB,hB0,hB1,hB2⟩:=info_parts infoB
 obtain ⟨c0,c1,c2⟩:=HC.out w (Below.refl _ _)
 have W1:=Hd (u8_wrap_nat (l.length / 256))
 have W2:=Hd (u8_wrap_nat l.length)
 rw [HB.out]
 clear h hk1 hv1 hc1 hc2 hd hlen
 go_enter Tryz.func212,Tryz.ntmps212
 go_wp2_with fail
 go_region_held3 (fun w'=>w'.cell? ⟨p,1,none⟩=some (.slice (some ⟨g1,o1,none⟩) l.length cap1)) (go_keep) (fail)
 have T0:=Hd (tr_drew (tr_start (w:=w) (wr:=w) (a:=78) (b:=l.length / 256) (c:=l.length) (x:=78) (y:=IntKind.u8.wrap ((l.length:Int) / 256)) (z:=IntKind.u8.wrap (l.length:Int)) (Below.refl _ _) rfl (by rw [<- W1.out]; rfl) W2.out))
 generalize (w.alloc (.cells #[.int .u8 78,.int .u8 (IntKind.u8.wrap ((l.length:Int) / 256)),.int .u8 (IntKind.u8.wrap (l.length:Int))] 5)).drew=W0 at *
 obtain ⟨c0',c1',c2'⟩:=HC.out W0 T0.out.bel
 clear W1 W2
 generalize IntKind.u8.wrap ((l.length:Int) / 256)=z1 at *
 generalize IntKind.u8.wrap (l.length:Int)=z2 at *
 go_wp2_with fail
 go_loopg [4,32] l.length (fun g s4 s32 wr=>∃ i,g=l.length - i /\ i <= l.length /\ s32=.int .i64 (i:Nat) /\ Hid (TR w wr s4 ([UInt8.ofNat 78,UInt8.ofNat (l.length / 256),UInt8.ofNat l.length] ++ (l.take i).flatMap entI)))
 case atStart=>exact ⟨0,rfl,Nat.zero_le _,rfl,by simpa using T0⟩
 case round =>
  obtain ⟨i,rfl,hi,rfl,HT⟩:=hrel
  clear T0 c0 c1 c2 c0' c1' c2'
  by_cases hlt:i < l.length
  ·have hsz:=hK.out _ (List.getElem_mem hlt)
   obtain ⟨d0,d1,d2⟩:=HC.out wr HT.out.bel
   obtain ⟨d3,d4⟩:=HKC.out wr i hlt HT.out.bel
   obtain ⟨x1,hx1⟩:=exE (l[i].1)
   obtain ⟨x2,hx2⟩:=exE (l[i].2)
   have HX2:=Hd hx2
   rw [hx1] at d3 hsz
   rw [hx2] at d4 hsz
   have HQ:Hid (([UInt8.ofNat 78,UInt8.ofNat (l.length / 256),UInt8.ofNat l.length] ++ (l.take i).flatMap entI).length <= 18000000):=Hd (by
    have:=entI_len (l.take i) fun q hq=>hK.out q (List.mem_of_mem_take hq)
    simp at this ⊢; omega)
   have HN:Hid ([UInt8.ofNat 78,UInt8.ofNat (l.length / 256),UInt8.ofNat l.length] ++ (l.take (i + 1)).flatMap entI=([UInt8.ofNat 78,UInt8.ofNat (l.length / 256),UInt8.ofNat l.length] ++ (l.take i).flatMap entI) ++ [UInt8.ofNat x1.size] ++ x1.data.toList ++ be4 x2):=Hd (by
    rw [List.take_succ_eq_append_getElem hlt,List.flatMap_append,<- hx1,<- hx2]; simp [entI])
   have E1:=Hd (byte_small hsz.1)
   have E2:=Hd (be4_cells x2 hsz.2)
   have s1:=hsz.1
   have s2:=hsz.2
   generalize [UInt8.ofNat 78,UInt8.ofNat (l.length / 256),UInt8.ofNat l.length] ++ (l.take i).flatMap entI=q at *
   have L1:=Hd (len_b (n:=q.length) (m:=1) (by have:=HQ.out; omega) (by omega))
   clear hK hx1 hx2 hsz
   go_wp2_with (first
    | (refine chkA 91 91 ⟨_,_,by with_reducible rfl⟩ ?_
       refine wpList_append_y (by rfl) _ _ _ rfl w.heap.size 5 jB _ 1 1 Tryz.underlying91 hjB hB0 hB1 hB2 rfl (by decide) _ _ _ (by rfl) (tr_row T2.out ((Below.refl _ _).alloc (Nat.le_refl _) _)) _ 4 _ (by rfl) (yields_boxL _ #[.int .u8 ((x2:Int) / 16777216),.int .u8 ((x2:Int) / 65536 % 256),.int .u8 ((x2:Int) / 256 % 256),.int .u8 ((x2:Int) % 256)] _ 4 4) rfl (one4 _ _ _ _ rfl rfl rfl rfl) L3.out.1 L3.out.2.1 (T2.out.bel.alloc T2.out.bel.size _).size ?_
       intro v3 Y3 ho3 hg3 ha3
       have T3:Hid (TR w Y3 v3 (q ++ [UInt8.ofNat x1.size] ++ x1.data.toList ++ be4 x2)):=Hd (tr_next T2.out ((Below.refl _ _).alloc (Nat.le_refl _) _) (by rw [E2.out]; exact ho3) hg3)
       clear ho3 hg3 ha3)
    | (refine chkA 91 9 ⟨_,_,by with_reducible rfl⟩ ?_
       refine Lib.wpList_append_own_string _ (by rfl) _ _ _ _ rfl w.heap.size 5 jB Tryz.underlying91 Tryz.underlying9 hjB hB0 hB1 hB2 _ _ _ (by rfl) T1.out.row x1 (by rfl) L2.out.1 L2.out.2.2 T1.out.bel.size ?_
       intro v2 Y2 ho2 hg2 ha2
       have T2:Hid (TR w Y2 v2 (q ++ [UInt8.ofNat x1.size] ++ x1.data.toList)):=Hd (tr_next T1.out (Below.refl _ _) (by rw [<- strCells_bytes,<- Lib.size_eq]; exact ho2) hg2)
       have L3:=Hd (len_b (n:=(q ++ [UInt8.ofNat x1.size] ++ x1.data.toList).length) (m:=4) (by have:=HQ.out; simp only [List.length_append,List.length_cons,List.length_nil,<- Lib.size_eq]; omega) (by omega))
       have f0:=(HC.out Y2 T2.out.bel).1
       have f2:=(HC.out Y2 T2.out.bel).2.2
       have f4:Y2.cell? ⟨g2,o2 + i,none⟩=some (.int .i64 (x2:Int)):=by have:=(HKC.out Y2 i hlt T2.out.bel).2; rwa [HX2.out] at this
       clear ho2 hg2 ha2)
    | (refine chkA 91 91 ⟨_,_,by with_reducible rfl⟩ ?_
       refine wpList_append_y (by rfl) _ _ _ rfl w.heap.size 5 jB _ 1 1 Tryz.underlying91 hjB hB0 hB1 hB2 rfl (by decide) _ _ _ (by rfl) (tr_row HT.out ((Below.refl _ _).alloc (Nat.le_refl _) _)) _ 1 _ (by rfl) (yields_boxL _ #[.int .u8 (x1.size:Int)] _ 1 1) rfl (one1 _ rfl) L1.out.1 L1.out.2.1 (HT.out.bel.alloc HT.out.bel.size _).size ?_
       intro v1 Y1 ho1 hg1 ha1
       have T1:Hid (TR w Y1 v1 (q ++ [UInt8.ofNat x1.size])):=Hd (tr_next HT.out ((Below.refl _ _).alloc (Nat.le_refl _) _) (by simp only [bytesC,List.map_cons,List.map_nil,E1.out]; exact ho1) hg1)
       have L2:=Hd (len_b (n:=(q ++ [UInt8.ofNat x1.size]).length) (m:=x1.size) (by have:=HQ.out; simp; omega) (by omega))
       clear ho1 hg1 ha1))
   go_roundg (l.length - (i + 1))
   case measure=>omega
   case rel=>exact ⟨i + 1,rfl,by omega,by simp,by rw [HN.out]; exact T3⟩
  ·obtain rfl:i=l.length:=by omega
   have hcv:=conv_rowC HT.out.row
   have HB3:=Hd HT.out.bel
   rw [List.take_length] at hcv
   clear HT hK HKC
   go_wp2_with fail
   go_ret
   exact ⟨rfl,HB3.out⟩
set_option maxHeartbeats 1000000
def wrA (cur:Array Value) (o:Nat):List Value -> Array Value
 | []=>cur
 | v :: r=>wrA (cur.setIfInBounds o v) (o + 1) r
theorem wrA_size:∀ (vs:List Value) (o:Nat) (cur:Array Value),(wrA cur o vs).size=cur.size
 | [],o,cur=>rfl
 | v :: r,o,cur=>by rw [wrA,wrA_size r]; simp
theorem wrA_toList:∀ (vs:List Value) (o:Nat) (cur:Array Value) (X Y Z:List Value),cur.toList=X ++ Y ++ Z -> X.length=o -> Y.length=vs.length -> (wrA cur o vs).toList=X ++ vs ++ Z
 | [],o,cur,X,Y,Z,h,hX,hY=>by
   obtain rfl:Y=[]:=List.eq_nil_of_length_eq_zero hY
   exact h
 | v :: r,o,cur,X,Y,Z,h,hX,hY=>by
   cases Y with
   | nil=>simp at hY
   | cons y Y =>
     rw [wrA,wrA_toList r (o + 1) (cur.setIfInBounds o v) (X ++ [v]) Y Z ?_ (by simp [hX]) (by simpa using hY)]
     ·simp
     ·rw [Array.toList_setIfInBounds,h,<- hX]; simp
theorem setCells_lit (b:Nat) {e:TypeId} {fr:Nat × Nat}:∀ (vs:List Value) (o:Nat) (w:World) (cur:Array Value),w.heap[b]?=some (.cells cur e fr) -> (w.setCells b o vs).heap[b]?=some (.cells (wrA cur o vs) e fr)
 | [],o,w,cur,h=>h
 | v :: r,o,w,cur,h=>setCells_lit b r (o + 1) _ _ (heap_set_lit h v)
theorem Upd.setCells {S:Nat -> Prop} {a:World} {b:Nat} (hb:S b \/ a.heap.size <= b):∀ (vs:List Value) (o:Nat) {w:World},Upd S a w -> Upd S a (w.setCells b o vs)
 | [],o,w,h=>h
 | v :: r,o,w,h=>Upd.setCells hb r (o + 1) (h.setCell (p:=⟨b,o,none⟩) hb v)
theorem shape_lit {w:World} {b:Nat} {cs:Array Value} {T:TypeId} {fr:Nat × Nat} (h:w.heap[b]?=some (.cells cs T fr)):w.shape? b=some (T,cs.size):=by simp [World.shape?,h]
theorem row_lit {w:World} {base:Nat} {e:TypeId} {n:Nat} {g cap:Nat} {xs:List Value} (h:w.ownsRow base e 1 (.slice (some ⟨g,0,none⟩) n cap) n xs):∃ cur,w.heap[g]?=some (.cells cur e (0,0)) /\ base <= g /\ n <= cap /\ cap <= maxLen /\ cur.size=cap /\ cur.toList.take n=xs /\ xs.length=n /\ ∃ Z,cur.toList=xs ++ Z /\ Z.length=cap - n:=by
 obtain ⟨h1,h⟩:=h
 rcases h with ⟨h,-⟩ | ⟨g',cap',cur,e',h2,h3,h4,h5,h6,h7⟩
 ·cases h
 ·cases e'
  refine ⟨cur,h3,h2,h4,h5,by omega,by simpa using h7,by omega,cur.toList.drop n,?_,?_⟩
  ·rw [<- h7,Nat.mul_one,List.take_append_drop]
  ·rw [List.length_drop,Array.length_toList]; omega
theorem row_mk {w:World} {base:Nat} {e:TypeId} {n:Nat} {g cap:Nat} {xs Z:List Value} {cur:Array Value} (h:w.heap[g]?=some (.cells cur e (0,0))) (hb:base <= g) (hn:n <= cap) (hm:cap <= maxLen) (hs:cur.size=cap) (hc:cur.toList=xs ++ Z) (hx:xs.length=n):w.ownsRow base e 1 (.slice (some ⟨g,0,none⟩) n cap) n xs :=
 ⟨by omega,.inr ⟨g,cap,cur,rfl,hb,h,hn,hm,by omega,by rw [hc,Nat.mul_one,<- hx,List.take_left]⟩⟩
def InsRow (e:TypeId) (base:Nat) (v:Value) (n:Nat) (xs:List Value) (w:World) (v':Value) (w':World):Prop :=
 w'.ownsRow base e 1 v' (n + 1) xs /\ Upd (fun k=>v.ownBlock=some k) w w' /\ ∀ k,v'.ownBlock=some k -> v.ownBlock=some k \/ w.heap.size <= k
theorem grow_lit {w:World} {e:TypeId} {base n:Nat} {xs:List Value} {cur:Array Value} {v:Value} {c:Nat} (hb:base <= w.heap.size) (hn:n + 1 <= maxLen) (T:Nat) (hT:T=grownCap w (n + 1) c e) (hs:cur.size=T) (hx:xs.length=n + 1) (Z:List Value) (hc:cur.toList=xs ++ Z) :
 InsRow e base v n xs w (.slice (some ⟨w.heap.size,0,none⟩) (n + 1) T) (w.drew.alloc (.cells cur e)):=by
 have h1:=grownCap_ge w (n + 1) c e
 have h2:=grownCap_le_maxLen w (n + 1) c e hn
 refine ⟨row_mk (heap_alloc_new _ _) hb (by omega) (by omega) hs hc hx,((Upd.refl _ _).drew).alloc _,fun k hk=>.inr ?_⟩
 simp [Value.ownBlock] at hk; omega
theorem InsS_c (base n:Nat) (v:Value) (A B:List Value) (x:Value) (vb:Nat) (w:World) (h:w.ownsRow base 9 1 v n (A ++ B)) (hB:base <= w.heap.size) (hn:n <= 100000) (h1:∀ y ∈ A ++ B,y.oneCell'=true) (hx:x.oneCell'=true)
 (hvb:w.heap[vb]?=some (.cells #[x] 9 (0,0))) (hne:v.ownBlock ≠ some vb) :
 Calls Tryz.prog 213 #[v,.int .i64 (A.length:Nat),.slice (some ⟨vb,0,none⟩) 1 1] w fun e w'=>∃ v',e=.returned v' /\ Hid (InsRow 9 base v n (A ++ x :: B) w v' w'):=by
 have hlen:(A ++ B).length=n:=by have:=h.1; omega
 have hlen2:(A ++ x :: B).length=n + 1:=by simp at hlen ⊢; omega
 have hml:n + 1 <= maxLen:=by unfold maxLen; omega
 have hvs:∀ j u,([x]:List Value)[j]?=some u -> w.cell? ⟨vb,0 + j,none⟩=some u:=fun j u hj=>by
  rw [Nat.zero_add]; exact cell_lit hvb (by simpa using hj)
 have h1v:∀ u ∈ ([x]:List Value),u.oneCell'=true:=fun u hu=>by simp at hu; rw [hu]; exact hx
 rcases hB0:B with _ | ⟨y,B'⟩
 ·subst hB0
  have hA:A.length=n:=by simpa using hlen
  rw [List.append_nil] at h h1 hlen
  rw [hA]
  rcases h.2 with ⟨rfl,h0⟩ | ⟨g,cap,cur0,rfl,-⟩
  ·subst h0
   obtain rfl:A=[]:=List.eq_nil_of_length_eq_zero hA
   refine (Any2.slices_Insert_string_end_grow Tryz.laysNm222 none 0 0 vb 0 1 1 [] [x] w (by omega) (by omega) (by omega) (by omega) rfl rfl (fun _=>rfl) (fun a e=>by cases e) hvs h1v).mono ?_
   rintro e w' ⟨rfl,rfl⟩
   refine ⟨_,rfl,grow_lit hB (by unfold maxLen; omega) _ rfl ?_ (by simp) _ (by simp; rfl)⟩
   have:=grownCap_ge w (0 + 1) 0 9
   simp only [Array.size_append,List.size_toArray,size_zeroCells,List.length_append,List.length_cons,List.length_nil]
   show 0 + (0 + 1) + (grownCap w (0 + 1) 0 9 - (0 + 1)) * 1=grownCap w (0 + 1) 0 9
   omega
  ·obtain ⟨cur,g1,g2,g3,g4,g5,g6,g7,Z,g8,g9⟩:=row_lit h
   have hcs:∀ j u,A[j]?=some u -> w.cell? ⟨g,0 + j,none⟩=some u:=fun j u hj=>by
    rw [Nat.zero_add]; refine cell_lit g1 ?_
    rw [<- Array.getElem?_toList,g8,List.getElem?_append_left (List.getElem?_eq_some_iff.1 hj).1]; exact hj
   by_cases hroom:n + 1 <= cap
   ·refine (Any2.slices_Insert_string_end_room Tryz.laysNm222 g 0 n cap vb 0 1 1 [x] w (by omega) hroom (by unfold maxLen at g4; omega) rfl (fun j hj=>?_) (fun j hj=>frozen_lit g1 _) hvs h1v).mono ?_
    ·obtain rfl:j=0:=by omega
     have:n < cur.size:=by omega
     simp [World.cell?,g1,this]
    ·rintro e w' ⟨rfl,rfl⟩
     rw [Nat.zero_add]
     cases Z with
     | nil=>simp at g9; omega
     | cons z Z =>
       refine ⟨_,rfl,row_mk (setCells_lit g [x] n w cur g1) g2 hroom g4 (by rw [wrA_size]; exact g5) (Z:=Z) ?_ hlen2,Upd.setCells (S:=fun k=>(Value.slice (some (⟨g,0,none⟩:Addr)) n cap).ownBlock=some k) (b:=g) (.inl rfl) _ _ (Upd.refl _ _),fun k hk=>.inl hk⟩
       exact (wrA_toList [x] n cur A [z] Z (by rw [g8]; simp) hA rfl).trans (by simp)
   ·refine (Any2.slices_Insert_string_end_grow Tryz.laysNm222 (some ⟨g,0,none⟩) n cap vb 0 1 1 A [x] w (by omega) g3 (by omega) (by omega) hA rfl (fun e=>by cases e) (fun a e j u hj=>by cases e; rw [Addr.add_lit]; exact hcs j u hj) hvs h1v).mono ?_
    rintro e w' ⟨rfl,rfl⟩
    refine ⟨_,rfl,grow_lit hB hml _ rfl ?_ hlen2 _ (by simp; rfl)⟩
    have:=grownCap_ge w (n + 1) cap 9
    simp only [Array.size_append,List.size_toArray,size_zeroCells,List.length_append,hA,List.length_cons,List.length_nil]
    show n + (0 + 1) + (grownCap w (n + 1) cap 9 - (n + 1)) * 1=grownCap w (n + 1) cap 9
    omega
 ·subst hB0
  have hi:A.length < n:=by simp at hlen; omega
  rcases h.2 with ⟨rfl,h0⟩ | ⟨g,cap,cur0,rfl,-⟩
  ·omega
  ·obtain ⟨cur,g1,g2,g3,g4,g5,g6,g7,Z,g8,g9⟩:=row_lit h
   have hgv:vb ≠ g:=fun e=>hne (by rw [e]; rfl)
   have hcs:∀ j u,(A ++ y :: B')[j]?=some u -> w.cell? ⟨g,0 + j,none⟩=some u:=fun j u hj=>by
    rw [Nat.zero_add]; refine cell_lit g1 ?_
    rw [<- Array.getElem?_toList,g8,List.getElem?_append_left (List.getElem?_eq_some_iff.1 hj).1]; exact hj
   have hdr:(A ++ y :: B').drop A.length=y :: B':=by simp
   have htk:(A ++ y :: B').take A.length=A:=by simp
   by_cases hroom:n + 1 <= cap
   ·refine (Any2.slices_Insert_string_shift Tryz.laysNm222 g 0 n cap A.length vb 0 1 1 (A ++ y :: B') [x] w hi (by omega) hroom (by unfold maxLen at g4; omega) hgv hlen rfl hcs (fun j hj=>?_) (fun j hj=>frozen_lit g1 _) hvs h1 h1v _ _ _ _ (shape_lit hvb) (shape_lit g1) (by omega) (frozen_lit hvb _) (frozen_lit hvb _)).mono ?_
    ·have:0 + j < cur.size:=by omega
     simp at this
     simp [World.cell?,g1,this]
    ·rintro e w' ⟨rfl,rfl⟩
     rw [hdr,Nat.zero_add,Nat.zero_add]
     cases Z with
     | nil=>simp at g9; omega
     | cons z Z =>
       have a1:(w.drew.setCells g (A.length + 1) (y :: B')).heap[g]?=_:=setCells_lit g (y :: B') (A.length + 1) w.drew cur g1
       have a2:=setCells_lit g [x] A.length _ _ a1
       refine ⟨_,rfl,row_mk a2 g2 hroom g4 (by rw [wrA_size,wrA_size]; exact g5) (Z:=Z) ?_ hlen2,Upd.setCells (S:=fun k=>(Value.slice (some (⟨g,0,none⟩:Addr)) n cap).ownBlock=some k) (b:=g) (.inl rfl) _ _ (Upd.setCells (S:=fun k=>(Value.slice (some (⟨g,0,none⟩:Addr)) n cap).ownBlock=some k) (b:=g) (.inl rfl) _ _ (Upd.refl _ _).drew),fun k hk=>.inl hk⟩
       have b1:(wrA cur (A.length + 1) (y :: B')).toList=(A ++ [y]) ++ (y :: B') ++ Z:=by
        refine wrA_toList (y :: B') (A.length + 1) cur (A ++ [y]) (B' ++ [z]) Z (by rw [g8]; simp) (by simp) (by simp)
       exact (wrA_toList [x] A.length _ A [y] (y :: B' ++ Z) (by rw [b1]; simp) rfl rfl).trans (by simp)
   ·refine (Any2.slices_Insert_string_grow Tryz.laysNm222 g 0 n cap A.length vb 0 1 1 (A ++ y :: B') [x] w hi (by omega) g3 (by omega) (by omega) hlen rfl hcs hvs h1 h1v).mono ?_
    rintro e w' ⟨rfl,rfl⟩
    rw [hdr,htk]
    have c1:=grownCap_ge w (n + 1) cap 9
    have c2:=grownCap_le_maxLen w (n + 1) cap 9 hml
    change ∃ v',_=_ /\ Hid (InsRow 9 base _ n _ w v' ((((w.alloc (.cells (A.toArray ++ Builtin.zeroCells (Value.string ⟨#[]⟩).cells (n + 1 - A.length) ++ Builtin.zeroCells (Value.string ⟨#[]⟩).cells (grownCap w (n + 1) cap 9 - (n + 1))) 9)).drew.setCells w.heap.size A.length [x]).drew).setCells w.heap.size (A.length + 1) (y :: B')))
    obtain ⟨Y,hY⟩:=exE (A.toArray ++ Builtin.zeroCells (Value.string ⟨#[]⟩).cells (n + 1 - A.length) ++ Builtin.zeroCells (Value.string ⟨#[]⟩).cells (grownCap w (n + 1) cap 9 - (n + 1)))
    have hY1:Y.size=grownCap w (n + 1) cap 9:=by
     rw [<- hY]
     simp only [Array.size_append,List.size_toArray,size_zeroCells]
     show A.length + (n + 1 - A.length) * 1 + (grownCap w (n + 1) cap 9 - (n + 1)) * 1=_
     omega
    have hY2:∃ M Z',Y.toList=A ++ M ++ Z' /\ M.length=n + 1 - A.length:=by
     refine ⟨(Builtin.zeroCells (Value.string ⟨#[]⟩).cells (n + 1 - A.length)).toList,(Builtin.zeroCells (Value.string ⟨#[]⟩).cells (grownCap w (n + 1) cap 9 - (n + 1))).toList,by rw [<- hY]; simp,?_⟩
     rw [Array.length_toList,size_zeroCells]
     show (n + 1 - A.length) * 1=_
     omega
    rw [hY]
    clear hY
    obtain ⟨M,Z',hM,hML⟩:=hY2
    have hBl:B'.length + 1=n - A.length:=by simp at hlen; omega
    cases M with
    | nil=>simp at hML; omega
    | cons m0 M =>
      have a0:((w.alloc (.cells Y 9)).drew).heap[w.heap.size]?=some (.cells Y 9 (0,0)):=heap_alloc_new _ _
      have a1:=setCells_lit w.heap.size [x] A.length _ _ a0
      have a2:=setCells_lit w.heap.size (y :: B') (A.length + 1) (((w.alloc (.cells Y 9)).drew.setCells w.heap.size A.length [x]).drew) _ a1
      refine ⟨_,rfl,row_mk a2 hB c1 c2 (by rw [wrA_size,wrA_size]; exact hY1) (Z:=Z') ?_ hlen2,Upd.setCells (b:=w.heap.size) (.inr (Nat.le_refl _)) _ _ (Upd.drew (Upd.setCells (b:=w.heap.size) (.inr (Nat.le_refl _)) _ _ ((Upd.refl _ _).alloc _).drew)),fun k hk=>.inr (by simp [Value.ownBlock] at hk; omega)⟩
      have b1:(wrA Y A.length [x]).toList=A ++ [x] ++ (M ++ Z'):=wrA_toList [x] A.length Y A [m0] (M ++ Z') (by rw [hM]; simp) rfl rfl
      exact (wrA_toList (y :: B') (A.length + 1) _ (A ++ [x]) M Z' (by rw [b1]; simp) (by simp) (by simp at hML ⊢; omega)).trans (by simp)
theorem InsI_c (base n:Nat) (v:Value) (A B:List Value) (x:Value) (vb:Nat) (w:World) (h:w.ownsRow base 3 1 v n (A ++ B)) (hB:base <= w.heap.size) (hn:n <= 100000) (h1:∀ y ∈ A ++ B,y.oneCell'=true) (hx:x.oneCell'=true)
 (hvb:w.heap[vb]?=some (.cells #[x] 3 (0,0))) (hne:v.ownBlock ≠ some vb) :
 Calls Tryz.prog 214 #[v,.int .i64 (A.length:Nat),.slice (some ⟨vb,0,none⟩) 1 1] w fun e w'=>∃ v',e=.returned v' /\ Hid (InsRow 3 base v n (A ++ x :: B) w v' w'):=by
 have hlen:(A ++ B).length=n:=by have:=h.1; omega
 have hlen2:(A ++ x :: B).length=n + 1:=by simp at hlen ⊢; omega
 have hml:n + 1 <= maxLen:=by unfold maxLen; omega
 have hvs:∀ j u,([x]:List Value)[j]?=some u -> w.cell? ⟨vb,0 + j,none⟩=some u:=fun j u hj=>by
  rw [Nat.zero_add]; exact cell_lit hvb (by simpa using hj)
 have h1v:∀ u ∈ ([x]:List Value),u.oneCell'=true:=fun u hu=>by simp at hu; rw [hu]; exact hx
 rcases hB0:B with _ | ⟨y,B'⟩
 ·subst hB0
  have hA:A.length=n:=by simpa using hlen
  rw [List.append_nil] at h h1 hlen
  rw [hA]
  rcases h.2 with ⟨rfl,h0⟩ | ⟨g,cap,cur0,rfl,-⟩
  ·subst h0
   obtain rfl:A=[]:=List.eq_nil_of_length_eq_zero hA
   refine (Any2.slices_Insert_int_end_grow Tryz.laysNm221 none 0 0 vb 0 1 1 [] [x] w (by omega) (by omega) (by omega) (by omega) rfl rfl (fun _=>rfl) (fun a e=>by cases e) hvs h1v).mono ?_
   rintro e w' ⟨rfl,rfl⟩
   refine ⟨_,rfl,grow_lit hB (by unfold maxLen; omega) _ rfl ?_ (by simp) _ (by simp; rfl)⟩
   have:=grownCap_ge w (0 + 1) 0 3
   simp only [Array.size_append,List.size_toArray,size_zeroCells,List.length_append,List.length_cons,List.length_nil]
   show 0 + (0 + 1) + (grownCap w (0 + 1) 0 3 - (0 + 1)) * 1=grownCap w (0 + 1) 0 3
   omega
  ·obtain ⟨cur,g1,g2,g3,g4,g5,g6,g7,Z,g8,g9⟩:=row_lit h
   have hcs:∀ j u,A[j]?=some u -> w.cell? ⟨g,0 + j,none⟩=some u:=fun j u hj=>by
    rw [Nat.zero_add]; refine cell_lit g1 ?_
    rw [<- Array.getElem?_toList,g8,List.getElem?_append_left (List.getElem?_eq_some_iff.1 hj).1]; exact hj
   by_cases hroom:n + 1 <= cap
   ·refine (Any2.slices_Insert_int_end_room Tryz.laysNm221 g 0 n cap vb 0 1 1 [x] w (by omega) hroom (by unfold maxLen at g4; omega) rfl (fun j hj=>?_) (fun j hj=>frozen_lit g1 _) hvs h1v).mono ?_
    ·obtain rfl:j=0:=by omega
     have:n < cur.size:=by omega
     simp [World.cell?,g1,this]
    ·rintro e w' ⟨rfl,rfl⟩
     rw [Nat.zero_add]
     cases Z with
     | nil=>simp at g9; omega
     | cons z Z =>
       refine ⟨_,rfl,row_mk (setCells_lit g [x] n w cur g1) g2 hroom g4 (by rw [wrA_size]; exact g5) (Z:=Z) ?_ hlen2,Upd.setCells (S:=fun k=>(Value.slice (some (⟨g,0,none⟩:Addr)) n cap).ownBlock=some k) (b:=g) (.inl rfl) _ _ (Upd.refl _ _),fun k hk=>.inl hk⟩
       exact (wrA_toList [x] n cur A [z] Z (by rw [g8]; simp) hA rfl).trans (by simp)
   ·refine (Any2.slices_Insert_int_end_grow Tryz.laysNm221 (some ⟨g,0,none⟩) n cap vb 0 1 1 A [x] w (by omega) g3 (by omega) (by omega) hA rfl (fun e=>by cases e) (fun a e j u hj=>by cases e; rw [Addr.add_lit]; exact hcs j u hj) hvs h1v).mono ?_
    rintro e w' ⟨rfl,rfl⟩
    refine ⟨_,rfl,grow_lit hB hml _ rfl ?_ hlen2 _ (by simp; rfl)⟩
    have:=grownCap_ge w (n + 1) cap 3
    simp only [Array.size_append,List.size_toArray,size_zeroCells,List.length_append,hA,List.length_cons,List.length_nil]
    show n + (0 + 1) + (grownCap w (n + 1) cap 3 - (n + 1)) * 1=grownCap w (n + 1) cap 3
    omega
 ·subst hB0
  have hi:A.length < n:=by simp at hlen; omega
  rcases h.2 with ⟨rfl,h0⟩ | ⟨g,cap,cur0,rfl,-⟩
  ·omega
  ·obtain ⟨cur,g1,g2,g3,g4,g5,g6,g7,Z,g8,g9⟩:=row_lit h
   have hgv:vb ≠ g:=fun e=>hne (by rw [e]; rfl)
   have hcs:∀ j u,(A ++ y :: B')[j]?=some u -> w.cell? ⟨g,0 + j,none⟩=some u:=fun j u hj=>by
    rw [Nat.zero_add]; refine cell_lit g1 ?_
    rw [<- Array.getElem?_toList,g8,List.getElem?_append_left (List.getElem?_eq_some_iff.1 hj).1]; exact hj
   have hdr:(A ++ y :: B').drop A.length=y :: B':=by simp
   have htk:(A ++ y :: B').take A.length=A:=by simp
   by_cases hroom:n + 1 <= cap
   ·refine (Any2.slices_Insert_int_shift Tryz.laysNm221 g 0 n cap A.length vb 0 1 1 (A ++ y :: B') [x] w hi (by omega) hroom (by unfold maxLen at g4; omega) hgv hlen rfl hcs (fun j hj=>?_) (fun j hj=>frozen_lit g1 _) hvs h1 h1v _ _ _ _ (shape_lit hvb) (shape_lit g1) (by omega) (frozen_lit hvb _) (frozen_lit hvb _)).mono ?_
    ·have:0 + j < cur.size:=by omega
     simp at this
     simp [World.cell?,g1,this]
    ·rintro e w' ⟨rfl,rfl⟩
     rw [hdr,Nat.zero_add,Nat.zero_add]
     cases Z with
     | nil=>simp at g9; omega
     | cons z Z =>
       have a1:(w.drew.setCells g (A.length + 1) (y :: B')).heap[g]?=_:=setCells_lit g (y :: B') (A.length + 1) w.drew cur g1
       have a2:=setCells_lit g [x] A.length _ _ a1
       refine ⟨_,rfl,row_mk a2 g2 hroom g4 (by rw [wrA_size,wrA_size]; exact g5) (Z:=Z) ?_ hlen2,Upd.setCells (S:=fun k=>(Value.slice (some (⟨g,0,none⟩:Addr)) n cap).ownBlock=some k) (b:=g) (.inl rfl) _ _ (Upd.setCells (S:=fun k=>(Value.slice (some (⟨g,0,none⟩:Addr)) n cap).ownBlock=some k) (b:=g) (.inl rfl) _ _ (Upd.refl _ _).drew),fun k hk=>.inl hk⟩
       have b1:(wrA cur (A.length + 1) (y :: B')).toList=(A ++ [y]) ++ (y :: B') ++ Z:=by
        refine wrA_toList (y :: B') (A.length + 1) cur (A ++ [y]) (B' ++ [z]) Z (by rw [g8]; simp) (by simp) (by simp)
       exact (wrA_toList [x] A.length _ A [y] (y :: B' ++ Z) (by rw [b1]; simp) rfl rfl).trans (by simp)
   ·refine (Any2.slices_Insert_int_grow Tryz.laysNm221 g 0 n cap A.length vb 0 1 1 (A ++ y :: B') [x] w hi (by omega) g3 (by omega) (by omega) hlen rfl hcs hvs h1 h1v).mono ?_
    rintro e w' ⟨rfl,rfl⟩
    rw [hdr,htk]
    have c1:=grownCap_ge w (n + 1) cap 3
    have c2:=grownCap_le_maxLen w (n + 1) cap 3 hml
    change ∃ v',_=_ /\ Hid (InsRow 3 base _ n _ w v' ((((w.alloc (.cells (A.toArray ++ Builtin.zeroCells (Value.int .i64 0).cells (n + 1 - A.length) ++ Builtin.zeroCells (Value.int .i64 0).cells (grownCap w (n + 1) cap 3 - (n + 1))) 3)).drew.setCells w.heap.size A.length [x]).drew).setCells w.heap.size (A.length + 1) (y :: B')))
    obtain ⟨Y,hY⟩:=exE (A.toArray ++ Builtin.zeroCells (Value.int .i64 0).cells (n + 1 - A.length) ++ Builtin.zeroCells (Value.int .i64 0).cells (grownCap w (n + 1) cap 3 - (n + 1)))
    have hY1:Y.size=grownCap w (n + 1) cap 3:=by
     rw [<- hY]
     simp only [Array.size_append,List.size_toArray,size_zeroCells]
     show A.length + (n + 1 - A.length) * 1 + (grownCap w (n + 1) cap 3 - (n + 1)) * 1=_
     omega
    have hY2:∃ M Z',Y.toList=A ++ M ++ Z' /\ M.length=n + 1 - A.length:=by
     refine ⟨(Builtin.zeroCells (Value.int .i64 0).cells (n + 1 - A.length)).toList,(Builtin.zeroCells (Value.int .i64 0).cells (grownCap w (n + 1) cap 3 - (n + 1))).toList,by rw [<- hY]; simp,?_⟩
     rw [Array.length_toList,size_zeroCells]
     show (n + 1 - A.length) * 1=_
     omega
    rw [hY]
    clear hY
    obtain ⟨M,Z',hM,hML⟩:=hY2
    have hBl:B'.length + 1=n - A.length:=by simp at hlen; omega
    cases M with
    | nil=>simp at hML; omega
    | cons m0 M =>
      have a0:((w.alloc (.cells Y 3)).drew).heap[w.heap.size]?=some (.cells Y 3 (0,0)):=heap_alloc_new _ _
      have a1:=setCells_lit w.heap.size [x] A.length _ _ a0
      have a2:=setCells_lit w.heap.size (y :: B') (A.length + 1) (((w.alloc (.cells Y 3)).drew.setCells w.heap.size A.length [x]).drew) _ a1
      refine ⟨_,rfl,row_mk a2 hB c1 c2 (by rw [wrA_size,wrA_size]; exact hY1) (Z:=Z') ?_ hlen2,Upd.setCells (b:=w.heap.size) (.inr (Nat.le_refl _)) _ _ (Upd.drew (Upd.setCells (b:=w.heap.size) (.inr (Nat.le_refl _)) _ _ ((Upd.refl _ _).alloc _).drew)),fun k hk=>.inr (by simp [Value.ownBlock] at hk; omega)⟩
      have b1:(wrA Y A.length [x]).toList=A ++ [x] ++ (M ++ Z'):=wrA_toList [x] A.length Y A [m0] (M ++ Z') (by rw [hM]; simp) rfl rfl
      exact (wrA_toList (y :: B') (A.length + 1) _ (A ++ [x]) M Z' (by rw [b1]; simp) (by simp) (by simp at hML ⊢; omega)).trans (by simp)
end Go.Proofs.YtdcjhpafipbpkaaGreatDoor
