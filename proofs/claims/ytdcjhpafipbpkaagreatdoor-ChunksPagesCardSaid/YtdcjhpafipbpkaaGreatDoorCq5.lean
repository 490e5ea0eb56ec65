/- Parts of the proof of ChunksPages,joined: PackWk,PackVk,PackRk,PackQk,PackZk,PackPk,PackP2k,PackP3k,ReadFk,PackFallsk,ManyP,MapE,MapEb,MapF,MapG,MapH,MapI,MapJ,MapK,ManyA,ChkP,ChkC,ChkD,ChkE. No condition. -/
import Derived.Test.YtdcjhpafipbpkaaGreatDoorCq4
import Derived.Deep.AppendLies
import Derived.Sort.OwnSortedInts
set_option linter.unusedSimpArgs false
set_option linter.unusedVariables false
set_option linter.unusedSectionVars false
namespace Go.Proofs.YtdcjhpafipbpkaaGreatDoor
open Go.RowKit
def wr1 (k:UInt8) (f:Fld):Option (List UInt8) :=
 if kindB k=true/\k≠116 then (if f.2.size≠0\/256 ^ (widthB k.toNat).toNat<=f.1 then none else some (be f.1 (widthB k.toNat).toNat))
 else if f.1≠0 then none
 else if k=116 then (if 65535<f.2.size then none else some (be f.2.size 2++f.2.data.toList))
 else some f.2.data.toList
def wrL:List UInt8->List Fld->Option (List UInt8)
 | k::ks,f::fs=>match wr1 k f with
   | none=>none
   | some a=>(wrL ks fs).map (a++·)
 | _,_=>some []
theorem wrL_step {ks:List UInt8} {fs:List Fld} {k:Nat} {acc:List UInt8} (h1:k<ks.length) (h2:k<fs.length) (h:wrL ks fs=(wrL (ks.drop k) (fs.drop k)).map (acc++·)) :
 (wr1 ks[k] fs[k]=none->wrL ks fs=none)/\(∀ a,wr1 ks[k] fs[k]=some a->wrL ks fs=(wrL (ks.drop (k+1)) (fs.drop (k+1))).map ((acc++a)++·)):=by
 have e:wrL (ks[k]::ks.drop (k+1)) (fs[k]::fs.drop (k+1))=(match wr1 ks[k] fs[k] with|none=>none|some a=>(wrL (ks.drop (k+1)) (fs.drop (k+1))).map (a++·)):=rfl
 rw [List.drop_eq_getElem_cons h1,List.drop_eq_getElem_cons h2,e] at h
 constructor
 ·intro hn;rw [hn] at h;exact h
 ·intro a ha
  rw [ha] at h
  rw [h]
  cases wrL (ks.drop (k+1)) (fs.drop (k+1)) <;> simp
theorem Bld.kept {B b:Nat} {l:List UInt8} {w w':World} (h:Bld B b l w) (hk:∀ j,j<w.heap.size->w'.heap[j]?=w.heap[j]?):Bld B b l w':=by
 have one:∀ p,Lib.BuilderAtF 156 5 B b p (Lib.byteCells l) w->Lib.BuilderAtF 156 5 B b p (Lib.byteCells l) w':=by
  rintro p ⟨hB,v,hb,⟨h1,h2⟩,hne⟩
  refine ⟨hB,v,(hk b (lt_of_heap hb)).trans hb,⟨h1,?_⟩,hne⟩
  rcases h2 with h2|⟨g,cap,cur,fz,rfl,hg,hh,r⟩
  ·exact .inl h2
  ·exact .inr ⟨g,cap,cur,fz,rfl,hg,(hk g (lt_of_heap hh)).trans hh,r⟩
 exact h.elim (fun x=>.inl (one _ x)) (fun x=>.inr (one _ x))
theorem Bld.alloc {B b:Nat} {l:List UInt8} {w:World} (h:Bld B b l w) (o:Obj):Bld B b l (w.alloc o):=h.kept (fun j hj=>heap_alloc_lt o hj)
theorem wstr_c (B b:Nat) (l:List UInt8) (S:ByteArray) (w:World) (h:Bld B b l w) (hB:B<=w.heap.size) (hl:l.length+S.size<=100000000000) :
 Calls Tryz.prog 82 #[.pointer (some ⟨b,0,none⟩),.string S] w fun e w'=>e=.returned (.tuple #[.int .i64 S.size,.nilIface])/\(Bld B b (l++S.data.toList) w'/\Below B w w'):=by
 refine (Tryz.Builder_WriteString_k B b (Lib.byteCells l) S w h (by rw [byteCells_length];omega) hB).mono ?_
 rintro e w' ⟨rfl,h1,h2,h3⟩
 refine ⟨rfl,?_,h2⟩
 have e:Lib.byteCells l++Lib.strCells S=Lib.byteCells (l++S.data.toList):=by rw [Lib.strCells_eq];simp [Lib.byteCells]
 rw [e] at h1
 exact Bld.of h1
theorem kept_lit {e:TypeId} {b k:Nat} {w w':World} (h:Lib.OthersKept e (some b) w w') {i:Nat} {v:Value} {c:Array Value} {ty:TypeId} {fz:Nat × Nat} (ho:w.heap[k]?=some (.cells c ty fz)) (hb:k≠b) (hty:ty≠e) (hv:c[i]?=some v):w'.cell? ⟨k,i,none⟩=some v :=
 cell_lit (h _ _ ho (by simpa using hb) (by rintro c fz h;cases h;exact hty rfl)) hv
theorem Bld.lt {B b:Nat} {l:List UInt8} {w:World} (h:Bld B b l w):b<w.heap.size :=
 h.elim (fun x=>lt_of_heap x.2.choose_spec.1) (fun x=>lt_of_heap x.2.choose_spec.1)
def WrRel (w:World) (ks:List UInt8) (fs:List Fld) (g:Nat) (s22:Value) (wr:World):Prop :=
 ∃ k acc,g=fs.length-k/\k<=fs.length/\s22=.int .i64 k/\Bld w.heap.size w.heap.size acc wr/\acc.length<=k*1000010/\Below w.heap.size w wr/\wrL ks fs=(wrL (ks.drop k) (fs.drop k)).map (acc++·)
def WrOut (l:Option (List UInt8)):Value:=match l with
 | none=>.tuple #[.string ⟨#[]⟩,.bool false]
 | some s=>.tuple #[.string ⟨s.toArray⟩,.bool true]
theorem toList_nil (S:ByteArray):S.toList=[] ↔ S.size=0:=by
 rw [Lib.toList_data,Lib.size_eq]
 exact List.length_eq_zero_iff.symm
theorem wr1_num (c:UInt8) (wd:Nat) (n:Nat) (S:ByteArray) (h:(kindB c && c != 116)=true) (hw:(widthB c.toNat).toNat=wd) :
 wr1 c (n,S)=if S.size≠0\/256 ^ wd<=n then none else some (be n wd):=by
 have h1:kindB c=true/\c≠116:=by simpa using h
 unfold wr1
 rw [if_pos h1,hw]
theorem width_other (c:UInt8) (h1:c≠110) (h2:c≠104) (h3:c≠98):widthB c.toNat=0:=by
 have f:∀ n:Nat,n<256->c≠UInt8.ofNat n->¬((c.toNat:Int)=n):=by
  intro n hn h e
  exact h (by rw [<-Int.ofNat_inj.1 e,UInt8.ofNat_toNat])
 unfold widthB
 exact (if_neg (f 110 (by decide) h1)).trans ((if_neg (f 104 (by decide) h2)).trans (if_neg (f 98 (by decide) h3)))
theorem kind_other (c:UInt8) (h1:c≠110) (h2:c≠104) (h3:c≠98):(kindB c && c != 116)=false:=by
 unfold kindB
 by_cases h:c=116 <;> simp [h1,h2,h3,h]
theorem wr1_txt (c:UInt8) (n:Nat) (S:ByteArray) (h:(kindB c && c != 116)=false):wr1 c (n,S)=if n≠0 then none else if c=116 then (if 65535<S.size then none else some (be S.size 2++S.data.toList)) else some S.data.toList:=by
 have h1:¬(kindB c=true/\c≠116):=by intro ⟨a,b⟩;simp [a,b] at h
 unfold wr1
 rw [if_neg h1]
theorem wr1_txt_no (c:UInt8) (n:Nat) (S:ByteArray) (h:(kindB c && c != 116)=false) (hn:¬n=0):wr1 c (n,S)=none:=by
 rw [wr1_txt c n S h,if_pos hn]
theorem wr1_t_no (n:Nat) (S:ByteArray) (hn:n=0) (hz:65535<S.size):wr1 116 (n,S)=none:=by
 rw [wr1_txt _ n S rfl,if_neg (by simp [hn]),if_pos rfl,if_pos hz]
theorem wr1_t (n:Nat) (S:ByteArray) (hn:n=0) (hz:¬65535<S.size):wr1 116 (n,S)=some (be S.size 2++S.data.toList):=by
 rw [wr1_txt _ n S rfl,if_neg (by simp [hn]),if_pos rfl,if_neg hz]
theorem wr1_r (c:UInt8) (n:Nat) (S:ByteArray) (h:(kindB c && c != 116)=false) (h2:¬c=116) (hn:n=0):wr1 c (n,S)=some S.data.toList:=by
 rw [wr1_txt _ n S h,if_neg (by simp [hn]),if_neg h2]
theorem wr_no {a b c:Nat} (h:a=0) (h2:c<b):¬(a≠0\/b<=c):=by omega
theorem wrOut_none {l:Option (List UInt8)} (h:l=none):WrOut l=.tuple #[.string ⟨#[]⟩,.bool false]:=by rw [h];rfl
theorem wr_next {w wr:World} {ks:List UInt8} {fs:List Fld} {k:Nat} {acc':List UInt8} (hlt:k<fs.length) (h1:Bld w.heap.size w.heap.size acc' wr) (h2:acc'.length<=(k+1)*1000010) (h3:Below w.heap.size w wr)
 (h4:wrL ks fs=(wrL (ks.drop (k+1)) (fs.drop (k+1))).map (acc'++·)):WrRel w ks fs (fs.length-(k+1)) (.int .i64 (k+1)) wr :=
 ⟨k+1,acc',rfl,by omega,by simp,h1,h2,h3,h4⟩
set_option maxRecDepth 100000 in
set_option maxHeartbeats 4000000 in
theorem Write_in (s:ByteArray) (v:Value) (fs:List Fld) (w:World) (hs:s.size<=1000) (hv:FldsAt w v fs) (hr:rightL s.data.toList=true) (hl:s.size=fs.length) (hz:∀ p∈fs,p.2.size<=1000000) :
 Calls Tryz.prog 70 #[.string s,v] w fun e w'=>e=.returned (WrOut (wrL s.data.toList fs))/\Below w.heap.size w w':=by
 have HV:=Hd hv
 obtain ⟨a,cap,rfl⟩:=hv.form
 have rc:=Right_c s w (by omega)
 rw [hr] at rc
 have HZ:=Hd hz
 have HL:=Hd hl
 have q1:((s.size:Int) == (fs.length:Int))=true:=by simp;omega
 have q2:((s.size:Int) != (fs.length:Int))=false:=by simp;omega
 clear hv hr hz hl
 go_enter Tryz.func70,Tryz.ntmps70
 go_wp2_with fail
 refine rc.mono ?_
 rintro e w0 ⟨rfl,hb0⟩
 have HV0:=Hd ((HV.out).below hb0)
 have HB0:=Hd hb0
 clear rc hb0
 have R0:=Hd (show WrRel w0 s.data.toList fs fs.length (.int .i64 0) (w0.alloc (.cells #[.pointer none,.slice none 0 0] 156)) from
  ⟨0,[],by omega,Nat.zero_le _,rfl,bld_new w0,by simp,(Below.refl _ _).alloc (Nat.le_refl _) _,by simp⟩)
 go_wp2_with fail
 go_loopg [22] fs.length (fun g s22 wr=>WrRel w0 s.data.toList fs g s22 wr)
 case atStart=>exact R0.out
 case round =>
  obtain ⟨k,acc,rfl,hk,rfl,hbl,hacc,hb,hw⟩:=hrel
  clear R0
  by_cases hlt:k<fs.length
  ·have hks:k<s.size:=by rw [HL.out];exact hlt
   have hks':k<s.data.toList.length:=by simpa using hks
   obtain ⟨fb,fo,rfl,c1,c2,hbl2⟩:=(HV0.out).get k hlt
   have c1:=(hb.cell (p:=⟨fb,fo+k*2,none⟩) hbl2).trans c1
   have c2:=(hb.cell (p:=⟨fb,fo+k*2+1,none⟩) hbl2).trans c2
   have hN:=(HV0.out).2 fs[k] (List.getElem_mem hlt)
   have hS:=(HZ.out) fs[k] (List.getElem_mem hlt)
   have HST:=Hd (wrL_step hks' hlt hw)
   have hge:s.data.toList[k]=s[k]:=by simp;rfl
   rw [hge] at HST
   have HB:=Hd hb
   have HBL:=Hd hbl
   have HC:=Hd (u8_eq_toNat s[k])
   clear hw hb hbl hge
   generalize fs[k]=f at *
   obtain ⟨n,S⟩:=f
   simp only at c1 c2 hN hS
   by_cases k110:s[k]=110
   ·have W:∀ w,Calls Tryz.prog 121 #[.int .u8 110] w (fun e w'=>e=.returned (.int .i64 8)/\w=w'):=fun w=>width_c 110 w
    rw [k110] at HST
    have HW:=Hd (wr1_num 110 8 n S rfl rfl)
    by_cases hS0:S.toList=[]
    ·have hn:n<18446744073709551616:=hN
     have HE:=Hd (HST.out.2 (be n 8) (by rw [HW.out,if_neg (wr_no ((toList_nil _).1 hS0) (by simpa using hn))]))
     go_wp2_with (go_at_call 121;refine (W _).mono ?_;rintro e w1 ⟨rfl,rfl⟩)
     refine (number_c w0.heap.size w0.heap.size n 8 acc _ (HBL.out.alloc _) (by have:=HB.out.size;simp;omega) hN (by omega) (by omega)).mono ?_
     rintro e w2 ⟨rfl,g1,g2,g3⟩
     have R1:=Hd (wr_next hlt g1 (by rw [List.length_append,be_length];omega) (((HB.out).alloc (HB.out).size _).trans g2) HE.out)
     clear g1 g2 g3
     go_wp2_with fail
     go_roundg (fs.length-(k+1))
     case measure=>omega
     case rel=>exact R1.out
    ·have HE:=Hd (wrOut_none (HST.out.1 (by rw [HW.out,if_pos (Or.inl (fun h=>hS0 ((toList_nil _).2 h)))])))
     go_wp2_with (go_at_call 121;refine (W _).mono ?_;rintro e w1 ⟨rfl,rfl⟩)
     go_ret2
     exact ⟨by rw [HE.out];rfl,(HB0.out).trans (((HB.out).alloc (HB.out).size _).mono (HB0.out).size)⟩
   ·by_cases k104:s[k]=104
    ·have W:∀ w,Calls Tryz.prog 121 #[.int .u8 104] w (fun e w'=>e=.returned (.int .i64 4)/\w=w'):=fun w=>width_c 104 w
     rw [k104] at HST
     have HW:=Hd (wr1_num 104 4 n S rfl rfl)
     by_cases hS0:S.toList=[]
     ·by_cases hn:n<4294967296
      ·have HE:=Hd (HST.out.2 (be n 4) (by rw [HW.out,if_neg (wr_no ((toList_nil _).1 hS0) (by simpa using hn))]))
       go_wp2_with (go_at_call 121;refine (W _).mono ?_;rintro e w1 ⟨rfl,rfl⟩)
       refine (number_c w0.heap.size w0.heap.size n 4 acc _ (HBL.out.alloc _) (by have:=HB.out.size;simp;omega) hN (by omega) (by omega)).mono ?_
       rintro e w2 ⟨rfl,g1,g2,g3⟩
       have R1:=Hd (wr_next hlt g1 (by rw [List.length_append,be_length];omega) (((HB.out).alloc (HB.out).size _).trans g2) HE.out)
       clear g1 g2 g3
       go_wp2_with fail
       go_roundg (fs.length-(k+1))
       case measure=>omega
       case rel=>exact R1.out
      ·have HE:=Hd (wrOut_none (HST.out.1 (by rw [HW.out,if_pos (Or.inr (by simpa using hn))])))
       go_wp2_with (go_at_call 121;refine (W _).mono ?_;rintro e w1 ⟨rfl,rfl⟩)
       go_ret2
       exact ⟨by rw [HE.out];rfl,(HB0.out).trans (((HB.out).alloc (HB.out).size _).mono (HB0.out).size)⟩
     ·have HE:=Hd (wrOut_none (HST.out.1 (by rw [HW.out,if_pos (Or.inl (fun h=>hS0 ((toList_nil _).2 h)))])))
      go_wp2_with (go_at_call 121;refine (W _).mono ?_;rintro e w1 ⟨rfl,rfl⟩)
      go_ret2
      exact ⟨by rw [HE.out];rfl,(HB0.out).trans (((HB.out).alloc (HB.out).size _).mono (HB0.out).size)⟩
    ·by_cases k98:s[k]=98
     ·have W:∀ w,Calls Tryz.prog 121 #[.int .u8 98] w (fun e w'=>e=.returned (.int .i64 1)/\w=w'):=fun w=>width_c 98 w
      rw [k98] at HST
      have HW:=Hd (wr1_num 98 1 n S rfl rfl)
      by_cases hS0:S.toList=[]
      ·by_cases hn:n<256
       ·have HE:=Hd (HST.out.2 (be n 1) (by rw [HW.out,if_neg (wr_no ((toList_nil _).1 hS0) (by simpa using hn))]))
        go_wp2_with (go_at_call 121;refine (W _).mono ?_;rintro e w1 ⟨rfl,rfl⟩)
        refine (number_c w0.heap.size w0.heap.size n 1 acc _ (HBL.out.alloc _) (by have:=HB.out.size;simp;omega) hN (by omega) (by omega)).mono ?_
        rintro e w2 ⟨rfl,g1,g2,g3⟩
        have R1:=Hd (wr_next hlt g1 (by rw [List.length_append,be_length];omega) (((HB.out).alloc (HB.out).size _).trans g2) HE.out)
        clear g1 g2 g3
        go_wp2_with fail
        go_roundg (fs.length-(k+1))
        case measure=>omega
        case rel=>exact R1.out
       ·have HE:=Hd (wrOut_none (HST.out.1 (by rw [HW.out,if_pos (Or.inr (by simpa using hn))])))
        go_wp2_with (go_at_call 121;refine (W _).mono ?_;rintro e w1 ⟨rfl,rfl⟩)
        go_ret2
        exact ⟨by rw [HE.out];rfl,(HB0.out).trans (((HB.out).alloc (HB.out).size _).mono (HB0.out).size)⟩
      ·have HE:=Hd (wrOut_none (HST.out.1 (by rw [HW.out,if_pos (Or.inl (fun h=>hS0 ((toList_nil _).2 h)))])))
       go_wp2_with (go_at_call 121;refine (W _).mono ?_;rintro e w1 ⟨rfl,rfl⟩)
       go_ret2
       exact ⟨by rw [HE.out];rfl,(HB0.out).trans (((HB.out).alloc (HB.out).size _).mono (HB0.out).size)⟩
     ·by_cases k116:s[k]=116
      ·have W:∀ w,Calls Tryz.prog 121 #[.int .u8 116] w (fun e w'=>e=.returned (.int .i64 0)/\w=w'):=fun w=>width_c 116 w
       rw [k116] at HST
       by_cases hn:n=0
       ·by_cases hz:65535<S.size
        ·have HE:=Hd (wrOut_none (HST.out.1 (wr1_t_no n S hn hz)))
         go_wp2_with (go_at_call 121;refine (W _).mono ?_;rintro e w1 ⟨rfl,rfl⟩)
         go_ret2
         exact ⟨by rw [HE.out];rfl,(HB0.out).trans (((HB.out).alloc (HB.out).size _).mono (HB0.out).size)⟩
        ·have HE:=Hd (HST.out.2 _ (wr1_t n S hn hz))
         go_wp2_with (go_at_call 121;refine (W _).mono ?_;rintro e w1 ⟨rfl,rfl⟩)
         refine (number_c w0.heap.size w0.heap.size S.size 2 acc _ (HBL.out.alloc _) (by have:=HB.out.size;simp;omega) (by omega) (by omega) (by omega)).mono ?_
         rintro e w2 ⟨rfl,g1,g2,g3⟩
         have HB2:=Hd ((((HB.out).alloc (HB.out).size _).trans g2))
         have q3:w2.cell? ⟨wr.heap.size,1,none⟩=some (.string S):=kept_lit g3 (heap_alloc_new _ _) (by have:=(HBL.out).lt;omega) (by decide) rfl
         go_wp2_with fail
         refine (wstr_c _ _ _ S w2 g1 (HB2.out.size) (by rw [List.length_append,be_length];omega)).mono ?_
         rintro e w3 ⟨rfl,g4,g5⟩
         have R1:=Hd (wr_next hlt (by rw [List.append_assoc] at g4;exact g4) (by simp only [List.length_append,be_length];have:=Lib.size_eq S;omega) ((HB2.out).trans g5) HE.out)
         clear g1 g2 g3 g4 g5
         go_wp2_with fail
         go_roundg (fs.length-(k+1))
         case measure=>omega
         case rel=>exact R1.out
       ·have HE:=Hd (wrOut_none (HST.out.1 (wr1_txt_no 116 n S rfl hn)))
        go_wp2_with (go_at_call 121;refine (W _).mono ?_;rintro e w1 ⟨rfl,rfl⟩)
        go_ret2
        exact ⟨by rw [HE.out];rfl,(HB0.out).trans (((HB.out).alloc (HB.out).size _).mono (HB0.out).size)⟩
      ·have W:∀ w,Calls Tryz.prog 121 #[.int .u8 s[k].toNat] w (fun e w'=>e=.returned (.int .i64 0)/\w=w'):=fun w=>by
        have:=width_c s[k].toNat w
        rwa [width_other _ k110 k104 k98] at this
       have KO:=Hd (kind_other _ k110 k104 k98)
       have KT:=Hd (HC.out 116 (by decide))
       have KT1:((s[k].toNat:Int) == 116)=false:=KT.out.trans (by simpa using k116)
       have KT2:((s[k].toNat:Int) != 116)=true:=by simp [bne,KT1]
       by_cases hn:n=0
       ·have HE:=Hd (HST.out.2 _ (wr1_r _ n S KO.out k116 hn))
        go_wp2_with (go_at_call 121;refine (W _).mono ?_;rintro e w1 ⟨rfl,rfl⟩)
        refine (wstr_c w0.heap.size w0.heap.size acc S _ (HBL.out.alloc _) (by have:=HB.out.size;simp;omega) (by omega)).mono ?_
        rintro e w2 ⟨rfl,g1,g2⟩
        have R1:=Hd (wr_next hlt g1 (by simp only [List.length_append];have:=Lib.size_eq S;omega) (((HB.out).alloc (HB.out).size _).trans g2) HE.out)
        clear g1 g2
        go_wp2_with fail
        go_roundg (fs.length-(k+1))
        case measure=>omega
        case rel=>exact R1.out
       ·have HE:=Hd (wrOut_none (HST.out.1 (wr1_txt_no _ n S KO.out hn)))
        go_wp2_with (go_at_call 121;refine (W _).mono ?_;rintro e w1 ⟨rfl,rfl⟩)
        go_ret2
        exact ⟨by rw [HE.out];rfl,(HB0.out).trans (((HB.out).alloc (HB.out).size _).mono (HB0.out).size)⟩
  ·obtain rfl:k=fs.length:=by omega
   have HE:=Hd (show WrOut (wrL s.data.toList fs)=.tuple #[.string ⟨acc.toArray⟩,.bool true] by rw [hw,List.drop_length];cases s.data.toList.drop fs.length <;> simp [wrL,WrOut])
   have HB:=Hd hb
   have hbs:=hb.size
   go_wp2_with fail
   refine (Tryz.Builder_String_any_k w0.heap.size w0.heap.size _ wr hbl hbs).mono ?_
   rintro e w2 ⟨rfl,h4,h5,h6⟩
   have H5:=Hd h5
   clear h4 h5 h6 hbl hb hw
   go_wp2_with fail
   go_ret2
   exact ⟨by rw [HE.out];rfl,(HB0.out).trans (((HB.out).trans H5.out).mono (HB0.out).size)⟩
def writeL (ks:List UInt8) (fs:List Fld):Option (List UInt8):=if rightL ks=true/\ks.length=fs.length then wrL ks fs else none
theorem writeL_no {ks:List UInt8} {fs:List Fld} (h:rightL ks=false\/ks.length≠fs.length):writeL ks fs=none:=by
 unfold writeL
 rw [if_neg]
 rintro ⟨a,b⟩
 rcases h with h|h
 ·rw [a] at h;exact absurd h (by decide)
 ·exact h b
theorem writeL_yes {ks:List UInt8} {fs:List Fld} (h:rightL ks=true) (h2:ks.length=fs.length):writeL ks fs=wrL ks fs:=by
 unfold writeL
 rw [if_pos ⟨h,h2⟩]
theorem Write_c (s:ByteArray) (v:Value) (fs:List Fld) (w:World) (hs:s.size<=1000) (hv:FldsAt w v fs) (hz:∀ p∈fs,p.2.size<=1000000) :
 Calls Tryz.prog 70 #[.string s,v] w fun e w'=>e=.returned (WrOut (writeL s.data.toList fs))/\Below w.heap.size w w':=by
 have hlen:s.data.toList.length=s.size:=(Lib.size_eq s).symm
 cases hr:rightL s.data.toList
 ·have HE:=Hd (wrOut_none (writeL_no (fs:=fs) (.inl hr)))
  have rc:=Right_c s w (by omega)
  rw [hr] at rc
  clear hr hv hz
  go_enter Tryz.func70,Tryz.ntmps70
  go_wp2_with fail
  refine rc.mono ?_
  rintro e w0 ⟨rfl,hb0⟩
  have HB0:=Hd hb0
  clear rc hb0
  go_wp2_with fail
  go_ret2
  exact ⟨by rw [HE.out];rfl,HB0.out⟩
 ·by_cases hl:s.size=fs.length
  ·rw [writeL_yes hr (hlen.trans hl)]
   exact Write_in s v fs w hs hv hr hl hz
  ·have HE:=Hd (wrOut_none (writeL_no (ks:=s.data.toList) (fs:=fs) (.inr (by omega))))
   have rc:=Right_c s w (by omega)
   rw [hr] at rc
   obtain ⟨a,cap,rfl⟩:=hv.form
   have q1:((s.size:Int) == (fs.length:Int))=false:=by simp;omega
   have q2:((s.size:Int) != (fs.length:Int))=true:=by simp;omega
   clear hr hv hz hlen hl
   go_enter Tryz.func70,Tryz.ntmps70
   go_wp2_with fail
   refine rc.mono ?_
   rintro e w0 ⟨rfl,hb0⟩
   have HB0:=Hd hb0
   clear rc hb0
   go_wp2_with fail
   go_ret2
   exact ⟨by rw [HE.out];rfl,HB0.out⟩
theorem kind_right {l:List UInt8} {k:Nat} (h:k<l.length) (hr:rightL l=true):kindB l[k]=true\/l[k]=114:=by
 induction l generalizing k with
 | nil=>simp at h
 | cons c r ih =>
   by_cases hn:r=[]
   ·subst hn
    have:k=0:=by simpa using h
    subst this
    simpa [rightL] using hr
   ·rw [rightL_cons hn] at hr
    simp only [Bool.and_eq_true] at hr
    cases k with
    | zero=>exact .inl hr.1
    | succ k=>simpa using ih (k:=k) (by simpa using h) hr.2
theorem infoF:(Tryz.prog.info? 139).map (fun i=>(i.zero,i.size,i.bytes))=some (some (.agg #[.int .u64 0,.string ByteArray.empty]),2,24):=by kernel_rfl
theorem grown_drew {w w':World} {r:Option Nat} (h:w.drew.grownBy w' r):w.grownBy w' r:=⟨h.os,h.tape,h.output,h.size,h.block⟩
theorem ownsRow_heap {w w':World} {base:Nat} {e:TypeId} {size:Nat} {v:Value} {n:Nat} {xs:List Value} (h:w.ownsRow base e size v n xs) (hk:∀ j,j<w.heap.size->v.ownBlock=some j->w'.heap[j]?=w.heap[j]?):w'.ownsRow base e size v n xs:=by
 refine ⟨h.1,?_⟩
 rcases h.2 with h2|⟨g,cap,cur,rfl,hg,hh,r⟩
 ·exact Or.inl h2
 ·exact Or.inr ⟨g,cap,cur,rfl,hg,(hk g (lt_of_heap hh) rfl).trans hh,r⟩
def rd1 (k:UInt8) (r:ByteArray):Option (Fld × ByteArray) :=
 if k=116 then (if r.size<2 then none else if (r.extract 2 r.size).size<toldN 0 (r.extract 0 2).data.toList then none else
  some ((0,(r.extract 2 r.size).extract 0 (toldN 0 (r.extract 0 2).data.toList)),(r.extract 2 r.size).extract (toldN 0 (r.extract 0 2).data.toList) (r.extract 2 r.size).size))
 else if kindB k=true then (if r.size<(widthB k.toNat).toNat then none else some ((toldN 0 (r.extract 0 (widthB k.toNat).toNat).data.toList,⟨#[]⟩),r.extract (widthB k.toNat).toNat r.size))
 else some ((0,r),⟨#[]⟩)
def readL:List UInt8->ByteArray->Option (List Fld)
 | [],r=>if r.toList=[] then some [] else none
 | k::ks,r=>match rd1 k r with
   | none=>none
   | some p=>(readL ks p.2).map (p.1::·)
theorem readL_step {ks:List UInt8} {S r:ByteArray} {k:Nat} {acc:List Fld} (h1:k<ks.length) (h:readL ks S=(readL (ks.drop k) r).map (acc++·)) :
 (rd1 ks[k] r=none->readL ks S=none)/\(∀ f r',rd1 ks[k] r=some (f,r')->readL ks S=(readL (ks.drop (k+1)) r').map ((acc++[f])++·)):=by
 have e:readL (ks[k]::ks.drop (k+1)) r=(match rd1 ks[k] r with|none=>none|some p=>(readL (ks.drop (k+1)) p.2).map (p.1::·)):=rfl
 rw [List.drop_eq_getElem_cons h1,e] at h
 constructor
 ·intro hn;rw [hn] at h;exact h
 ·intro f r' ha
  rw [ha] at h
  dsimp only at h
  rw [h]
  cases readL (ks.drop (k+1)) r' <;> simp
def RdPost (w:World) (o:Option (List Fld)) (e:Ending) (w':World):Prop:=match o with
 | none=>e=.returned (.tuple #[.slice none 0 0,.bool false])/\Below w.heap.size w w'
 | some fs=>∃ v,e=.returned (.tuple #[v,.bool true])/\w'.ownsRow w.heap.size 139 2 v fs.length (fcells fs)/\Below w.heap.size w w'
theorem rdPost_none {w:World} {o:Option (List Fld)} {e:Ending} {w':World} (h:o=none) (h1:e=.returned (.tuple #[.slice none 0 0,.bool false])) (h2:Below w.heap.size w w'):RdPost w o e w':=by
 subst h;exact ⟨h1,h2⟩
def RdRel (w:World) (ks:List UInt8) (S:ByteArray) (g:Nat) (s1 s6 s16:Value) (wr:World):Prop :=
 ∃ k acc r,g=ks.length-k/\k<=ks.length/\s16=.int .i64 k/\s1=.string r/\wr.ownsRow w.heap.size 139 2 s6 k (fcells acc)/\Below w.heap.size w wr/\r.size<=S.size/\acc.length=k/\readL ks S=(readL (ks.drop k) r).map (acc++·)
theorem rd1_num (c:UInt8) (wd:Nat) (r:ByteArray) (h:(kindB c && c != 116)=true) (hw:(widthB c.toNat).toNat=wd) :
 rd1 c r=if r.size<wd then none else some ((toldN 0 (r.extract 0 wd).data.toList,⟨#[]⟩),r.extract wd r.size):=by
 have h1:kindB c=true/\c≠116:=by simpa using h
 unfold rd1
 rw [if_neg h1.2,if_pos h1.1,hw]
theorem ex_le (r:ByteArray) (a b:Nat) {n:Nat} (h:r.size<=n):(r.extract a b).size<=n:=by
 simp;omega
theorem own_le {w:World} {base base' size n:Nat} {e:TypeId} {v:Value} {xs:List Value} (h:w.ownsRow base e size v n xs) (hb:base'<=base):w.ownsRow base' e size v n xs :=
 ⟨h.1,h.2.imp id (fun ⟨g,cap,cur,a,b,c⟩=>⟨g,cap,cur,a,Nat.le_trans hb b,c⟩)⟩
theorem rdPost_some {w w0 wr:World} {o:Option (List Fld)} {acc:List Fld} {r:ByteArray} {v:Value} {k:Nat} (h:o=(readL [] r).map (acc++·)) (hr:r.toList=[]) (ha:acc.length=k) (ho:wr.ownsRow w0.heap.size 139 2 v k (fcells acc)) (hb:Below w0.heap.size w0 wr) (h0:Below w.heap.size w w0) :
 RdPost w o (.returned (.tuple #[v,.bool true])) wr:=by
 have e:o=some acc:=by rw [h];simp [readL,hr]
 subst e ha
 exact ⟨v,rfl,own_le ho h0.size,h0.trans (hb.mono h0.size)⟩
theorem rd1_t_no (r:ByteArray) (h:r.size<2):rd1 116 r=none:=by
 unfold rd1
 rw [if_pos rfl,if_pos h]
theorem rd1_t (r:ByteArray) (h:¬r.size<2):rd1 116 r=if (r.extract 2 r.size).size<toldN 0 (r.extract 0 2).data.toList then none else
 some ((0,(r.extract 2 r.size).extract 0 (toldN 0 (r.extract 0 2).data.toList)),(r.extract 2 r.size).extract (toldN 0 (r.extract 0 2).data.toList) (r.extract 2 r.size).size):=by
 unfold rd1
 rw [if_pos rfl,if_neg h]
theorem toldN_two (l:List UInt8) (h:l.length<=2):toldN 0 l<65536:=by
 match l,h with
 | [],_=>decide
 | [a],_=>have:=a.toNat_lt;simp [toldN];omega
 | [a,b],_=>have:=a.toNat_lt;have:=b.toNat_lt;simp [toldN];omega
theorem rd_alloc {w0 wr:World} {v:Value} {k:Nat} {xs:List Value} (o:Obj) (ho:wr.ownsRow w0.heap.size 139 2 v k xs) (hb:Below w0.heap.size w0 wr) :
 (wr.alloc o).ownsRow w0.heap.size 139 2 v k xs/\Below w0.heap.size w0 (wr.alloc o):=⟨ho.alloc _,hb.alloc hb.size _⟩
theorem rd_below {w0 wr w2:World} {v:Value} {k:Nat} {xs:List Value} (ho:wr.ownsRow w0.heap.size 139 2 v k xs) (hb:Below w0.heap.size w0 wr) (g:Below wr.heap.size wr w2) :
 w2.ownsRow w0.heap.size 139 2 v k xs/\Below w0.heap.size w0 w2:=⟨ownsRow_heap ho (fun j hj _=>g.block j hj),hb.trans (g.mono hb.size)⟩
theorem rd_set {w0 w2:World} {v:Value} {k p:Nat} {xs:List Value} {a:Value} {i:Nat} (ho:w2.ownsRow w0.heap.size 139 2 v k xs) (hb:Below w0.heap.size w0 w2) (hp:w0.heap.size<=p) (hn:v.ownBlock≠some p) :
 (w2.setCell ⟨p,i,none⟩ a).ownsRow w0.heap.size 139 2 v k xs/\Below w0.heap.size w0 (w2.setCell ⟨p,i,none⟩ a) :=
 ⟨ownsRow_setCell_other ho hn _,hb.setCell hp _⟩
theorem rd_next {w0 W w4:World} {ks:List UInt8} {S r':ByteArray} {v v':Value} {k n:Nat} {T:ByteArray} {acc:List Fld} {o:Obj} (hlt:k<ks.length) (ho:W.ownsRow w0.heap.size 139 2 v k (fcells acc)) (hb:Below w0.heap.size w0 W) (hg:(W.alloc o).drew.grownBy w4 v.ownBlock)
 (h4:w4.ownsRow w0.heap.size 139 2 v' (k+1) (fcells acc++[.int .u64 n,.string T])) (hr:r'.size<=S.size) (ha:acc.length=k)
 (hw:readL ks S=(readL (ks.drop (k+1)) r').map ((acc++[(n,T)])++·)):RdRel w0 ks S (ks.length-(k+1)) (.string r') v' (.int .i64 (k+1)) w4:=by
 refine ⟨k+1,acc++[(n,T)],r',rfl,by omega,by simp,rfl,?_,?_,hr,by simp [ha],hw⟩
 ·have e:fcells (acc++[(n,T)])=fcells acc++[.int .u64 n,.string T]:=by simp [fcells]
  rw [e];exact h4
 ·exact hb.grown ((World.grownBy_alloc W _ _).trans (grown_drew hg)) hb.size (fun j hj=>(ho.lt j hj).1)
set_option maxRecDepth 100000 in
set_option maxHeartbeats 4000000 in
theorem Read_in (s S:ByteArray) (w:World) (hs:s.size<=1000) (hr:rightL s.data.toList=true) (hS:S.size<=1000000) :
 Calls Tryz.prog 88 #[.string s,.string S] w (RdPost w (readL s.data.toList S)):=by
 have rc:=Right_c s w (by omega)
 rw [hr] at rc
 have HR:=Hd hr
 obtain ⟨j0,hj,hz0,hz1,hz2⟩:=info_parts infoF
 clear hr
 go_enter Tryz.func88,Tryz.ntmps88
 go_wp2_with fail
 refine rc.mono ?_
 rintro e w0 ⟨rfl,hb0⟩
 have HB0:=Hd hb0
 clear rc hb0
 have R0:=Hd (show RdRel w0 s.data.toList S s.size (.string S) (.slice none 0 0) (.int .i64 0) w0 from
  ⟨0,[],S,(Lib.size_eq s),Nat.zero_le _,rfl,rfl,World.ownsRow_nil _ _ _ _,Below.refl _ _,Nat.le_refl _,rfl,by simp⟩)
 go_wp2_with fail
 go_loopg [1,6,16] s.size (fun g s1 s6 s16 wr=>RdRel w0 s.data.toList S g s1 s6 s16 wr)
 case atStart=>exact R0.out
 case round =>
  obtain ⟨k,acc,r,rfl,hk,rfl,rfl,ho,hb,hrs,hacc,hw⟩:=hrel
  clear R0
  have hsl:s.data.toList.length=s.size:=(Lib.size_eq s).symm
  by_cases hks:k<s.size
  ·have hks':k<s.data.toList.length:=by omega
   have HST:=Hd (readL_step hks' hw)
   have hge:s.data.toList[k]=s[k]:=by simp;rfl
   rw [hge] at HST
   have HB:=Hd hb
   have HO:=Hd ho
   clear hw hb hge ho
   by_cases k110:s[k]=110
   ·have W:∀ w,Calls Tryz.prog 121 #[.int .u8 110] w (fun e w'=>e=.returned (.int .i64 8)/\w=w'):=fun w=>width_c 110 w
    rw [k110] at HST
    have HW:=Hd (rd1_num 110 8 r rfl rfl)
    by_cases hn:r.size<8
    ·have HE:=Hd (HST.out.1 (by rw [HW.out,if_pos hn]))
     go_wp2_with (first|(go_at_call 121;refine (W _).mono ?_;rintro e w1 ⟨rfl,rfl⟩))
     go_ret2
     exact rdPost_none HE.out rfl ((HB0.out).trans ((HB.out).mono (HB0.out).size))
    ·have HE:=Hd (HST.out.2 _ _ (by rw [HW.out,if_neg hn]))
     have hn':(8:Int)<=(r.size:Int):=by omega
     obtain ⟨N,hN⟩:∃ N,N=toldN 0 (r.extract 0 8).data.toList:=⟨_,rfl⟩
     rw [<-hN] at HE
     have TC:∀ w,Calls Tryz.prog 143 #[.string (r.extract 0 8)] w fun e w'=>e=.returned (.int .u64 N)/\Below w.heap.size w w':=fun w=>by rw [hN];exact told_c _ w (by simp;omega)
     clear hN
     go_wp2_with (first|(go_at_call 121;refine (W _).mono ?_;rintro e w1 ⟨rfl,rfl⟩))
     refine (TC _).mono ?_
     rintro e w2 ⟨rfl,g2⟩
     have h2:w2.heap[wr.heap.size]?=some (.cells #[.int .u64 0,.string (r.extract 0 8)] 139 (0,0)):=(g2.block _ (by simp)).trans (heap_alloc_new _ _)
     have q1:=cell_lit (i:=0) h2 rfl
     have q2:=cell_lit (i:=1) h2 rfl
     have q3:=frozen_lit h2 0
     have q4:=frozen_lit h2 1
     have hne:u6.ownBlock≠some wr.heap.size:=fun e=>absurd ((HO.out).lt _ e).2 (Nat.lt_irrefl _)
     have X1:=rd_alloc (.cells #[.int .u64 0,.string (r.extract 0 8)] 139) HO.out HB.out
     have X2:=rd_below X1.1 X1.2 g2
     have X3:=rd_set (i:=0) (a:=.int .u64 N) X2.1 X2.2 (HB.out).size hne
     have X4:=rd_set (i:=1) (a:=.string ⟨#[]⟩) X3.1 X3.2 (HB.out).size hne
     have h3:((w2.setCell ⟨wr.heap.size,0,none⟩ (.int .u64 N)).setCell ⟨wr.heap.size,1,none⟩ (.string ⟨#[]⟩)).heap[wr.heap.size]?=some (.cells #[.int .u64 N,.string ⟨#[]⟩] 139 (0,0)):=heap_set_lit (heap_set_lit h2 _) _
     have X5:=Hd X4
     have H3:=Hd h3
     clear X1 X2 X3 X4 h3 g2 h2 hne
     go_wp2_with fail
     generalize ((w2.setCell ⟨wr.heap.size,0,none⟩ (.int .u64 N)).setCell ⟨wr.heap.size,1,none⟩ (.string ⟨#[]⟩))=V at *
     have q5:=cell_lit (i:=0) H3.out rfl
     have q6:=cell_lit (i:=1) H3.out rfl
     clear q1 q2 q3 q4
     go_region_law (
      refine step_append_lies _ (by rfl) _ _ _ (by rfl) w0.heap.size 139 j0 _ 2 24 Tryz.underlying171 hj hz0 hz1 hz2 rfl (by omega) u6 _ _ (by rfl) (((X5.out).1.alloc _).drew)
       ⟨V.heap.size,0,none⟩ 1 1 [.int .u64 N,.string ⟨#[]⟩] (by rfl) (by rfl) (World.news_of_block (cs:=#[.int .u64 N,.string ⟨#[]⟩]) (t:=139) (fr:=(0,0)) (heap_alloc_new V _)) (one2 _ _ rfl rfl)
       (by decide) (by unfold maxLen;omega) (by omega) (by have:=(X5.out).2.size;simp;omega) (V.heap.size+1) (World.size_alloc _ _) ?_;intro gg cap w4 hown4 hgrow hat hlt
      have R1:=Hd (rd_next (r':=r.extract 8 r.size) hks' (X5.out).1 (X5.out).2 hgrow hown4 (by simp;omega) hacc HE.out)
      clear hown4 hgrow hat hlt)
     go_wp2_with fail
     go_roundg (s.data.toList.length-(k+1))
     case measure=>omega
     case rel=>exact R1.out
   ·by_cases k104:s[k]=104
    ·have W:∀ w,Calls Tryz.prog 121 #[.int .u8 104] w (fun e w'=>e=.returned (.int .i64 4)/\w=w'):=fun w=>width_c 104 w
     rw [k104] at HST
     have HW:=Hd (rd1_num 104 4 r rfl rfl)
     by_cases hn:r.size<4
     ·have HE:=Hd (HST.out.1 (by rw [HW.out,if_pos hn]))
      go_wp2_with (first|(go_at_call 121;refine (W _).mono ?_;rintro e w1 ⟨rfl,rfl⟩))
      go_ret2
      exact rdPost_none HE.out rfl ((HB0.out).trans ((HB.out).mono (HB0.out).size))
     ·have HE:=Hd (HST.out.2 _ _ (by rw [HW.out,if_neg hn]))
      have hn':(4:Int)<=(r.size:Int):=by omega
      obtain ⟨N,hN⟩:∃ N,N=toldN 0 (r.extract 0 4).data.toList:=⟨_,rfl⟩
      rw [<-hN] at HE
      have TC:∀ w,Calls Tryz.prog 143 #[.string (r.extract 0 4)] w fun e w'=>e=.returned (.int .u64 N)/\Below w.heap.size w w':=fun w=>by rw [hN];exact told_c _ w (by simp;omega)
      clear hN
      go_wp2_with (first|(go_at_call 121;refine (W _).mono ?_;rintro e w1 ⟨rfl,rfl⟩))
      refine (TC _).mono ?_
      rintro e w2 ⟨rfl,g2⟩
      have h2:w2.heap[wr.heap.size]?=some (.cells #[.int .u64 0,.string (r.extract 0 4)] 139 (0,0)):=(g2.block _ (by simp)).trans (heap_alloc_new _ _)
      have q1:=cell_lit (i:=0) h2 rfl
      have q2:=cell_lit (i:=1) h2 rfl
      have q3:=frozen_lit h2 0
      have q4:=frozen_lit h2 1
      have hne:u6.ownBlock≠some wr.heap.size:=fun e=>absurd ((HO.out).lt _ e).2 (Nat.lt_irrefl _)
      have X1:=rd_alloc (.cells #[.int .u64 0,.string (r.extract 0 4)] 139) HO.out HB.out
      have X2:=rd_below X1.1 X1.2 g2
      have X3:=rd_set (i:=0) (a:=.int .u64 N) X2.1 X2.2 (HB.out).size hne
      have X4:=rd_set (i:=1) (a:=.string ⟨#[]⟩) X3.1 X3.2 (HB.out).size hne
      have h3:((w2.setCell ⟨wr.heap.size,0,none⟩ (.int .u64 N)).setCell ⟨wr.heap.size,1,none⟩ (.string ⟨#[]⟩)).heap[wr.heap.size]?=some (.cells #[.int .u64 N,.string ⟨#[]⟩] 139 (0,0)):=heap_set_lit (heap_set_lit h2 _) _
      have X5:=Hd X4
      have H3:=Hd h3
      clear X1 X2 X3 X4 h3 g2 h2 hne
      go_wp2_with fail
      generalize ((w2.setCell ⟨wr.heap.size,0,none⟩ (.int .u64 N)).setCell ⟨wr.heap.size,1,none⟩ (.string ⟨#[]⟩))=V at *
      have q5:=cell_lit (i:=0) H3.out rfl
      have q6:=cell_lit (i:=1) H3.out rfl
      clear q1 q2 q3 q4
      go_region_law (
       refine step_append_lies _ (by rfl) _ _ _ (by rfl) w0.heap.size 139 j0 _ 2 24 Tryz.underlying171 hj hz0 hz1 hz2 rfl (by omega) u6 _ _ (by rfl) (((X5.out).1.alloc _).drew)
        ⟨V.heap.size,0,none⟩ 1 1 [.int .u64 N,.string ⟨#[]⟩] (by rfl) (by rfl) (World.news_of_block (cs:=#[.int .u64 N,.string ⟨#[]⟩]) (t:=139) (fr:=(0,0)) (heap_alloc_new V _)) (one2 _ _ rfl rfl)
        (by decide) (by unfold maxLen;omega) (by omega) (by have:=(X5.out).2.size;simp;omega) (V.heap.size+1) (World.size_alloc _ _) ?_;intro gg cap w4 hown4 hgrow hat hlt
       have R1:=Hd (rd_next (r':=r.extract 4 r.size) hks' (X5.out).1 (X5.out).2 hgrow hown4 (by simp;omega) hacc HE.out)
       clear hown4 hgrow hat hlt)
      go_wp2_with fail
      go_roundg (s.data.toList.length-(k+1))
      case measure=>omega
      case rel=>exact R1.out
    ·by_cases k98:s[k]=98
     ·have W:∀ w,Calls Tryz.prog 121 #[.int .u8 98] w (fun e w'=>e=.returned (.int .i64 1)/\w=w'):=fun w=>width_c 98 w
      rw [k98] at HST
      have HW:=Hd (rd1_num 98 1 r rfl rfl)
      by_cases hn:r.size<1
      ·have HE:=Hd (HST.out.1 (by rw [HW.out,if_pos hn]))
       go_wp2_with (first|(go_at_call 121;refine (W _).mono ?_;rintro e w1 ⟨rfl,rfl⟩))
       go_ret2
       exact rdPost_none HE.out rfl ((HB0.out).trans ((HB.out).mono (HB0.out).size))
      ·have HE:=Hd (HST.out.2 _ _ (by rw [HW.out,if_neg hn]))
       have hn':(1:Int)<=(r.size:Int):=by omega
       obtain ⟨N,hN⟩:∃ N,N=toldN 0 (r.extract 0 1).data.toList:=⟨_,rfl⟩
       rw [<-hN] at HE
       have TC:∀ w,Calls Tryz.prog 143 #[.string (r.extract 0 1)] w fun e w'=>e=.returned (.int .u64 N)/\Below w.heap.size w w':=fun w=>by rw [hN];exact told_c _ w (by simp;omega)
       clear hN
       go_wp2_with (first|(go_at_call 121;refine (W _).mono ?_;rintro e w1 ⟨rfl,rfl⟩))
       refine (TC _).mono ?_
       rintro e w2 ⟨rfl,g2⟩
       have h2:w2.heap[wr.heap.size]?=some (.cells #[.int .u64 0,.string (r.extract 0 1)] 139 (0,0)):=(g2.block _ (by simp)).trans (heap_alloc_new _ _)
       have q1:=cell_lit (i:=0) h2 rfl
       have q2:=cell_lit (i:=1) h2 rfl
       have q3:=frozen_lit h2 0
       have q4:=frozen_lit h2 1
       have hne:u6.ownBlock≠some wr.heap.size:=fun e=>absurd ((HO.out).lt _ e).2 (Nat.lt_irrefl _)
       have X1:=rd_alloc (.cells #[.int .u64 0,.string (r.extract 0 1)] 139) HO.out HB.out
       have X2:=rd_below X1.1 X1.2 g2
       have X3:=rd_set (i:=0) (a:=.int .u64 N) X2.1 X2.2 (HB.out).size hne
       have X4:=rd_set (i:=1) (a:=.string ⟨#[]⟩) X3.1 X3.2 (HB.out).size hne
       have h3:((w2.setCell ⟨wr.heap.size,0,none⟩ (.int .u64 N)).setCell ⟨wr.heap.size,1,none⟩ (.string ⟨#[]⟩)).heap[wr.heap.size]?=some (.cells #[.int .u64 N,.string ⟨#[]⟩] 139 (0,0)):=heap_set_lit (heap_set_lit h2 _) _
       have X5:=Hd X4
       have H3:=Hd h3
       clear X1 X2 X3 X4 h3 g2 h2 hne
       go_wp2_with fail
       generalize ((w2.setCell ⟨wr.heap.size,0,none⟩ (.int .u64 N)).setCell ⟨wr.heap.size,1,none⟩ (.string ⟨#[]⟩))=V at *
       have q5:=cell_lit (i:=0) H3.out rfl
       have q6:=cell_lit (i:=1) H3.out rfl
       clear q1 q2 q3 q4
       go_region_law (
        refine step_append_lies _ (by rfl) _ _ _ (by rfl) w0.heap.size 139 j0 _ 2 24 Tryz.underlying171 hj hz0 hz1 hz2 rfl (by omega) u6 _ _ (by rfl) (((X5.out).1.alloc _).drew)
         ⟨V.heap.size,0,none⟩ 1 1 [.int .u64 N,.string ⟨#[]⟩] (by rfl) (by rfl) (World.news_of_block (cs:=#[.int .u64 N,.string ⟨#[]⟩]) (t:=139) (fr:=(0,0)) (heap_alloc_new V _)) (one2 _ _ rfl rfl)
         (by decide) (by unfold maxLen;omega) (by omega) (by have:=(X5.out).2.size;simp;omega) (V.heap.size+1) (World.size_alloc _ _) ?_;intro gg cap w4 hown4 hgrow hat hlt
        have R1:=Hd (rd_next (r':=r.extract 1 r.size) hks' (X5.out).1 (X5.out).2 hgrow hown4 (by simp;omega) hacc HE.out)
        clear hown4 hgrow hat hlt)
       go_wp2_with fail
       go_roundg (s.data.toList.length-(k+1))
       case measure=>omega
       case rel=>exact R1.out
     ·by_cases k116:s[k]=116
      ·have W:∀ w,Calls Tryz.prog 121 #[.int .u8 116] w (fun e w'=>e=.returned (.int .i64 0)/\w=w'):=fun w=>width_c 116 w
       rw [k116] at HST
       by_cases h2:r.size<2
       ·have HE:=Hd (HST.out.1 (rd1_t_no r h2))
        go_wp2_with (first|(go_at_call 121;refine (W _).mono ?_;rintro e w1 ⟨rfl,rfl⟩))
        go_ret2
        exact rdPost_none HE.out rfl ((HB0.out).trans ((HB.out).mono (HB0.out).size))
       ·have hn':(2:Int)<=(r.size:Int):=by omega
        have HT:=Hd (rd1_t r h2)
        obtain ⟨N,hN⟩:∃ N,N=toldN 0 (r.extract 0 2).data.toList:=⟨_,rfl⟩
        have hNb:N<65536:=by rw [hN];exact toldN_two _ (by rw [<-Lib.size_eq];simp;omega)
        have TC:∀ w,Calls Tryz.prog 143 #[.string (r.extract 0 2)] w fun e w'=>e=.returned (.int .u64 N)/\Below w.heap.size w w':=fun w=>by rw [hN];exact told_c _ w (by simp;omega)
        have hwr:IntKind.i64.wrap (N:Int)=N:=by simp [IntKind.wrap,IntKind.bits,IntKind.signed];omega
        obtain ⟨r2,hr2⟩:∃ r2,r2=r.extract 2 r.size:=⟨_,rfl⟩
        have hr2s:r2.size=r.size-2:=by rw [hr2];simp
        rw [<-hN,<-hr2] at HT
        clear hN
        go_wp2_with (first|(go_at_call 121;refine (W _).mono ?_;rintro e w1 ⟨rfl,rfl⟩))
        go_region_held3 (fun _=>True) (trivial) ((go_at_call 143;refine (TC _).mono ?_;rintro e w2 ⟨rfl,g2⟩))
        have X1:=rd_below (HO.out).drew (HB.out).drew g2
        rw [<-hr2]
        clear hr2
        by_cases hn:r.size-2<N
        ·have HE:=Hd (HST.out.1 (by rw [HT.out,if_pos (by omega)]))
         have X5:=Hd X1
         clear X1 g2
         go_wp2_with fail
         go_ret2
         exact rdPost_none HE.out rfl ((HB0.out).trans ((X5.out.2).mono (HB0.out).size))
        ·have HE:=Hd (HST.out.2 _ _ (by rw [HT.out,if_neg (by omega)]))
         have X5:=Hd (rd_alloc (.cells #[.int .u64 0,.string (r2.extract 0 N)] 139) X1.1 X1.2)
         rw [hr2s] at HE
         have hn3:N<=r.size-2:=by omega
         have H3:=Hd (heap_alloc_new w2 (.cells #[.int .u64 0,.string (r2.extract 0 N)] 139))
         clear X1 g2
         go_wp2_with fail
         generalize (w2.alloc (.cells #[.int .u64 0,.string (r2.extract 0 N)] 139))=V at *
         have q5:=cell_lit (i:=0) H3.out rfl
         have q6:=cell_lit (i:=1) H3.out rfl
         go_region_law (
          refine step_append_lies _ (by rfl) _ _ _ (by rfl) w0.heap.size 139 j0 _ 2 24 Tryz.underlying171 hj hz0 hz1 hz2 rfl (by omega) u6 _ _ (by rfl) (((X5.out).1.alloc _).drew)
           ⟨V.heap.size,0,none⟩ 1 1 [.int .u64 0,.string (r2.extract 0 N)] (by rfl) (by rfl) (World.news_of_block (cs:=#[.int .u64 0,.string (r2.extract 0 N)]) (t:=139) (fr:=(0,0)) (heap_alloc_new V _)) (one2 _ _ rfl rfl)
           (by decide) (by unfold maxLen;omega) (by omega) (by have:=(X5.out).2.size;simp;omega) (V.heap.size+1) (World.size_alloc _ _) ?_;intro gg cap w4 hown4 hgrow hat hlt
          have R1:=Hd (rd_next (r':=r2.extract N (r.size-2)) hks' (X5.out).1 (X5.out).2 hgrow hown4 (ex_le _ _ _ (by omega)) hacc HE.out)
          clear hown4 hgrow hat hlt)
         go_wp2_with fail
         go_roundg (s.data.toList.length-(k+1))
         case measure=>omega
         case rel=>exact R1.out
      ·have k114:s[k]=114:=by
        have:=kind_right hks' HR.out
        have hge:s.data.toList[k]=s[k]:=by simp;rfl
        rw [hge] at this
        exact this.resolve_left (by simp [kindB,k110,k104,k98,k116])
       have W:∀ w,Calls Tryz.prog 121 #[.int .u8 114] w (fun e w'=>e=.returned (.int .i64 0)/\w=w'):=fun w=>width_c 114 w
       rw [k114] at HST
       clear k110 k104 k98 k116
       have HE:=Hd (HST.out.2 _ _ (show rd1 114 r=some ((0,r),⟨#[]⟩) from rfl))
       have X5:=Hd (rd_alloc (.cells #[.int .u64 0,.string r] 139) HO.out HB.out)
       have H3:=Hd (heap_alloc_new wr (.cells #[.int .u64 0,.string r] 139))
       go_wp2_with (first|(go_at_call 121;refine (W _).mono ?_;rintro e w1 ⟨rfl,rfl⟩))
       generalize (wr.alloc (.cells #[.int .u64 0,.string r] 139))=V at *
       have q5:=cell_lit (i:=0) H3.out rfl
       have q6:=cell_lit (i:=1) H3.out rfl
       go_region_law (
        refine step_append_lies _ (by rfl) _ _ _ (by rfl) w0.heap.size 139 j0 _ 2 24 Tryz.underlying171 hj hz0 hz1 hz2 rfl (by omega) u6 _ _ (by rfl) (((X5.out).1.alloc _).drew)
         ⟨V.heap.size,0,none⟩ 1 1 [.int .u64 0,.string r] (by rfl) (by rfl) (World.news_of_block (cs:=#[.int .u64 0,.string r]) (t:=139) (fr:=(0,0)) (heap_alloc_new V _)) (one2 _ _ rfl rfl)
         (by decide) (by unfold maxLen;omega) (by omega) (by have:=(X5.out).2.size;simp;omega) (V.heap.size+1) (World.size_alloc _ _) ?_;intro gg cap w4 hown4 hgrow hat hlt
        have R1:=Hd (rd_next (r':=⟨#[]⟩) hks' (X5.out).1 (X5.out).2 hgrow hown4 (Nat.zero_le _) hacc HE.out)
        clear hown4 hgrow hat hlt)
       go_wp2_with fail
       go_roundg (s.data.toList.length-(k+1))
       case measure=>omega
       case rel=>exact R1.out
  ·obtain rfl:k=s.size:=by omega
   have HB:=Hd hb
   have HO:=Hd ho
   have hdr:s.data.toList.drop s.size=[]:=by rw [List.drop_eq_nil_iff];omega
   rw [hdr] at hw
   by_cases hrn:r.toList=[]
   ·have HP:=Hd (show RdPost w (readL s.data.toList S) (.returned (.tuple #[u6,.bool true])) wr from rdPost_some hw hrn hacc ho hb HB0.out)
    clear ho hb hw
    go_wp2_with fail
    go_ret2
    exact HP.out
   ·have HE:=Hd (show readL s.data.toList S=none by rw [hw];simp [readL,hrn])
    have q1:(r.toList == [])=false:=by simpa using hrn
    have q2:(r.toList != [])=true:=by simpa using hrn
    have q3:¬r.size=0:=fun h=>hrn ((toList_nil r).2 h)
    clear ho hb hw
    go_wp2_with fail
    go_ret2
    exact rdPost_none HE.out rfl ((HB0.out).trans ((HB.out).mono (HB0.out).size))
def readF (ks:List UInt8) (S:ByteArray):Option (List Fld):=if rightL ks=true then readL ks S else none
theorem Read_cK (s S:ByteArray) (w:World) (hs:s.size<=1000) (hS:S.size<=1000000) :
 Calls Tryz.prog 88 #[.string s,.string S] w (RdPost w (readF s.data.toList S)):=by
 cases hr:rightL s.data.toList
 ·have HE:=Hd (show readF s.data.toList S=none by unfold readF;rw [hr];rfl)
  have rc:=Right_c s w (by omega)
  rw [hr] at rc
  clear hr
  go_enter Tryz.func88,Tryz.ntmps88
  go_wp2_with fail
  refine rc.mono ?_
  rintro e w0 ⟨rfl,hb0⟩
  have HB0:=Hd hb0
  clear rc hb0
  go_wp2_with fail
  go_ret2
  exact rdPost_none HE.out rfl HB0.out
 ·rw [show readF s.data.toList S=readL s.data.toList S by unfold readF;rw [if_pos hr]]
  exact Read_in s S w hs hr hS
theorem be_snoc (n w:Nat):be n (w+1)=be (n / 256) w++[UInt8.ofNat (n%256)]:=by
 induction w with
 | zero=>simp [be]
 | succ w ih =>
   have e1:be n (w+1+1)=UInt8.ofNat (n / 256 ^ (w+1)%256)::be n (w+1):=rfl
   have e2:be (n / 256) (w+1)=UInt8.ofNat (n / 256 / 256 ^ w%256)::be (n / 256) w:=rfl
   rw [e1,ih,e2,Nat.div_div_eq_div_mul,Nat.pow_succ,Nat.mul_comm 256]
   rfl
theorem told_of_be:∀ (w n:Nat),w<=8->n<256 ^ w->toldN 0 (be n w)=n:=by
 intro w
 induction w with
 | zero=>intro n _ h;simp at h;subst h;rfl
 | succ w ih =>
   intro n hw h
   have hp:256 ^ (w+1)<=256 ^ 8:=Nat.pow_le_pow_right (by decide) hw
   have h8:(256:Nat) ^ 8=18446744073709551616:=by decide
   rw [be_snoc,toldN_append,ih (n / 256) (by omega) (by rw [Nat.pow_succ] at h;omega)]
   show (n / 256)*256%18446744073709551616+(UInt8.ofNat (n%256)).toNat=n
   rw [UInt8.toNat_ofNat',Nat.mod_eq_of_lt (by omega),Nat.mod_eq_of_lt (by omega)]
   omega
theorem cat_take (a r:List UInt8):(⟨(a++r).toArray⟩:ByteArray).extract 0 a.length=⟨a.toArray⟩:=by
 rw [extract_take];simp
theorem cat_drop (a r:List UInt8):(⟨(a++r).toArray⟩:ByteArray).extract a.length (⟨(a++r).toArray⟩:ByteArray).size=⟨r.toArray⟩:=by
 rw [extract_drop];simp
theorem size_mk (a:List UInt8):(⟨a.toArray⟩:ByteArray).size=a.length:=by rw [Lib.size_eq]
theorem empty_of_size {S:ByteArray} (h:S.size=0):S=⟨#[]⟩:=by
 apply ByteArray.ext
 exact Array.eq_empty_of_size_eq_zero h
theorem mk_data (S:ByteArray):(⟨S.data.toList.toArray⟩:ByteArray)=S:=by apply ByteArray.ext;simp
theorem rd_wr1 {k:UInt8} {f:Fld} {a:List UInt8} (h:wr1 k f=some a) (hn:f.1<18446744073709551616) (r:List UInt8) (hr:kindB k=true\/r=[]):rd1 k ⟨(a++r).toArray⟩=some (f,⟨r.toArray⟩):=by
 obtain ⟨n,S⟩:=f
 by_cases h116:k=116
 ·subst h116
  by_cases hz:n=0
  ·by_cases hs:65535<S.size
   ·rw [wr1_t_no n S hz hs] at h;cases h
   ·rw [wr1_t n S hz hs] at h
    simp only [Option.some.injEq] at h
    subst h hz
    rw [List.append_assoc]
    generalize hq:S.data.toList++r=q
    have e1:=cat_take (be S.size 2) q
    have e2:=cat_drop (be S.size 2) q
    rw [be_length] at e1 e2
    have hsz:(⟨(be S.size 2++q).toArray⟩:ByteArray).size=2+q.length:=by rw [size_mk];simp [be_length]
    rw [rd1_t _ (by omega),e1,e2]
    have e3:toldN 0 (⟨(be S.size 2).toArray⟩:ByteArray).data.toList=S.size:=told_of_be 2 S.size (by decide) (Nat.lt_of_le_of_lt (Nat.le_of_not_lt hs) (by decide))
    rw [e3]
    subst hq
    have e4:=cat_take S.data.toList r
    have e5:=cat_drop S.data.toList r
    rw [<-Lib.size_eq] at e4 e5
    rw [e4,e5,if_neg (by rw [size_mk,List.length_append,<-Lib.size_eq];omega),mk_data]
  ·rw [wr1_txt_no 116 n S rfl hz] at h;cases h
 ·by_cases hk:kindB k=true
  ·have hk':(kindB k && k != 116)=true:=by simp [hk,h116]
   rw [wr1_num k _ n S hk' rfl] at h
   rw [rd1_num k _ _ hk' rfl]
   have hw8:(widthB k.toNat).toNat<=8:=by unfold widthB;split <;> (try split) <;> (try split) <;> decide
   generalize (widthB k.toNat).toNat=wd at *
   by_cases hc:S.size≠0\/256 ^ wd<=n
   ·rw [if_pos hc] at h;cases h
   ·rw [if_neg hc] at h
    simp only [Option.some.injEq] at h
    subst h
    have e1:=cat_take (be n wd) r
    have e2:=cat_drop (be n wd) r
    rw [be_length] at e1 e2
    rw [e1,e2,if_neg (by rw [size_mk,List.length_append,be_length];omega)]
    have e3:toldN 0 (⟨(be n wd).toArray⟩:ByteArray).data.toList=n:=told_of_be wd n hw8 (by omega)
    rw [e3,empty_of_size (S:=S) (by omega)]
  ·have e:rd1 k ⟨(a++r).toArray⟩=some ((0,⟨(a++r).toArray⟩),⟨#[]⟩):=by unfold rd1;rw [if_neg h116,if_neg hk]
   obtain rfl:r=[]:=hr.resolve_left hk
   by_cases hz:n=0
   ·rw [wr1_r k n S (by simp [hk]) h116 hz] at h
    simp only [Option.some.injEq] at h
    subst h hz
    rw [e,List.append_nil,mk_data]
   ·rw [wr1_txt_no k n S (by simp [hk]) hz] at h;cases h
theorem rd_wr:∀ (ks:List UInt8) (fs:List Fld) (a:List UInt8),rightL ks=true->ks.length=fs.length->(∀ p∈fs,p.1<18446744073709551616)->wrL ks fs=some a->readL ks ⟨a.toArray⟩=some fs:=by
 intro ks
 induction ks with
 | nil =>
   intro fs a _ hl _ h
   obtain rfl:=List.eq_nil_of_length_eq_zero hl.symm
   simp only [wrL,Option.some.injEq] at h
   subst h
   show (if (⟨#[]⟩:ByteArray).toList=[] then some [] else none)=_
   rw [if_pos (by rw [Lib.toList_data])]
 | cons k ks ih =>
   intro fs a hr hl hn h
   cases fs with
   | nil=>simp at hl
   | cons f fs =>
     have e:wrL (k::ks) (f::fs)=(match wr1 k f with|none=>none|some a=>(wrL ks fs).map (a++·)):=rfl
     rw [e] at h
     cases h1:wr1 k f with
     | none=>rw [h1] at h;cases h
     | some b =>
       rw [h1] at h
       dsimp only at h
       cases h2:wrL ks fs with
       | none=>rw [h2] at h;cases h
       | some c =>
         rw [h2] at h
         simp only [Option.map_some,Option.some.injEq] at h
         subst h
         have hc:kindB k=true\/c=[]:=by
          cases ks with
          | nil=>right;cases fs with
            | nil=>simp only [wrL,Option.some.injEq] at h2;exact h2.symm
            | cons _ _=>simp at hl
          | cons d r=>left;rw [rightL_cons (by simp)] at hr;simp only [Bool.and_eq_true] at hr;exact hr.1
         have hr':rightL ks=true:=by
          cases ks with
          | nil=>rfl
          | cons d r=>rw [rightL_cons (by simp)] at hr;simp only [Bool.and_eq_true] at hr;exact hr.2
         have e2:readL (k::ks) ⟨(b++c).toArray⟩=(match rd1 k ⟨(b++c).toArray⟩ with|none=>none|some p=>(readL ks p.2).map (p.1::·)):=rfl
         rw [e2,rd_wr1 h1 (hn f (List.mem_cons_self ..)) c hc]
         dsimp only
         rw [ih fs c hr' (by simpa using hl) (fun p hp=>hn p (List.mem_cons_of_mem _ hp)) h2]
         rfl
theorem read_write {ks:List UInt8} {fs:List Fld} {a:List UInt8} (hn:∀ p∈fs,p.1<18446744073709551616) (h:writeL ks fs=some a):readF ks ⟨a.toArray⟩=some fs:=by
 by_cases hr:rightL ks=true/\ks.length=fs.length
 ·rw [writeL_yes hr.1 hr.2] at h
  unfold readF
  rw [if_pos hr.1]
  exact rd_wr ks fs a hr.1 hr.2 hn h
 ·unfold writeL at h
  rw [if_neg hr] at h;cases h
theorem be_mod (n k:Nat):∀ w,w<=k->be (n%256 ^ k) w=be n w:=by
 intro w
 induction w with
 | zero=>intro _;rfl
 | succ w ih =>
   intro hw
   show UInt8.ofNat ((n%256 ^ k) / 256 ^ w%256)::be (n%256 ^ k) w=UInt8.ofNat (n / 256 ^ w%256)::be n w
   rw [ih (by omega)]
   have e:(256:Nat) ^ k=256 ^ w*256 ^ (k-w):=by rw [<-Nat.pow_add];congr 1;omega
   have d:(256:Nat) ∣ 256 ^ (k-w):=⟨256 ^ (k-w-1),by rw [<-Nat.pow_succ'];congr 1;omega⟩
   rw [e,Nat.mod_mul_right_div_self,Nat.mod_mod_of_dvd _ d]
theorem less_byte {a b:Nat} (ha:a<256) (hb:b<256):(decide (UInt8.ofNat a<UInt8.ofNat b))=decide (a<b)/\(UInt8.ofNat a == UInt8.ofNat b)=decide (a=b):=by
 have e1:(UInt8.ofNat a).toNat=a:=by rw [UInt8.toNat_ofNat'];omega
 have e2:(UInt8.ofNat b).toNat=b:=by rw [UInt8.toNat_ofNat'];omega
 constructor
 ·rw [decide_eq_decide,UInt8.lt_iff_toNat_lt,e1,e2]
 ·rw [Bool.eq_iff_iff]
  simp only [beq_iff_eq,decide_eq_true_eq]
  constructor
  ·intro h;rw [<-e1,h,e2]
  ·intro h;rw [h]
theorem bytesLess_be:∀ w n m,n<256 ^ w->m<256 ^ w->Op.bytesLess (be n w) (be m w)=decide (n<m):=by
 intro w
 induction w with
 | zero=>intro n m hn hm;simp at hn hm;subst hn hm;rfl
 | succ w ih =>
   intro n m hn hm
   have hp:0<256 ^ w:=Nat.pow_pos (by decide)
   rw [Nat.pow_succ] at hn hm
   have hn':n / 256 ^ w<256:=Nat.div_lt_of_lt_mul hn
   have hm':m / 256 ^ w<256:=Nat.div_lt_of_lt_mul hm
   show (decide (UInt8.ofNat (n / 256 ^ w%256)<UInt8.ofNat (m / 256 ^ w%256)) || (UInt8.ofNat (n / 256 ^ w%256) == UInt8.ofNat (m / 256 ^ w%256) && Op.bytesLess (be n w) (be m w)))=_
   rw [Nat.mod_eq_of_lt hn',Nat.mod_eq_of_lt hm',(less_byte hn' hm').1,(less_byte hn' hm').2]
   have i:=ih (n%256 ^ w) (m%256 ^ w) (Nat.mod_lt _ hp) (Nat.mod_lt _ hp)
   rw [be_mod _ _ _ (Nat.le_refl _),be_mod _ _ _ (Nat.le_refl _)] at i
   rw [i]
   have dn:=Nat.div_add_mod n (256 ^ w)
   have dm:=Nat.div_add_mod m (256 ^ w)
   have mn:=Nat.mod_lt n hp
   have mm:=Nat.mod_lt m hp
   generalize 256 ^ w=p at *
   generalize n / p=x at *
   generalize m / p=y at *
   generalize n%p=u at *
   generalize m%p=v at *
   rcases Nat.lt_trichotomy x y with h|h|h
   ·have:p*(x+1)<=p*y:=Nat.mul_le_mul_left p h
    rw [Nat.mul_add] at this
    simp [h];omega
   ·subst h
    simp;omega
   ·have:p*(y+1)<=p*x:=Nat.mul_le_mul_left p h
    rw [Nat.mul_add] at this
    have h1:¬x<y:=by omega
    have h2:¬x=y:=by omega
    simp [h1,h2];omega
theorem p256:(256:Nat) ^ 8=18446744073709551616:=by decide
set_option maxRecDepth 100000
set_option maxHeartbeats 1000000
theorem srt_o {S:RS} {place:Nat} {o:Option TT} (h:TreeSt S place o):Srt (entsO o):=by
 cases o with
 | none=>exact List.Pairwise.nil
 | some T=>exact h.2.wf.srt
set_option maxHeartbeats 20000000
theorem infoP:(Tryz.prog.info? 170).map (fun i=>(i.zero,i.size,i.bytes))=some (some (.agg #[.string ⟨#[]⟩,.string ⟨#[]⟩]),2,32):=by kernel_rfl
def ScanEnd (base:Nat) (W w':World) (lb:Nat) (v:Value) (frm tt:ByteArray) (limit:Nat) (E L:List (ByteArray × ByteArray)) (ok:Bool):Prop:=∃ L',sRun tt limit (from_ frm E) L=(L',ok)/\AccGo base W w' lb v L'
theorem leaf_cells {W:World} {F:Nat->Prop} {q:Nat} {l:List (ByteArray × ByteArray)} (h:RdIn W q (.leaf l) F) (hp:0<l.length) :
 ∃ g1 o1 c1 g2 o2 c2,W.cell? ⟨q,1,none⟩=some (.slice (some ⟨g1,o1,none⟩) l.length c1)/\W.cell? ⟨q,2,none⟩=some (.slice (some ⟨g2,o2,none⟩) l.length c2)/\(F q/\F g1/\F g2)/\∀ i (hi:i<l.length),W.cell? ⟨g1,o1+i,none⟩=some (.string l[i].1)/\W.cell? ⟨g2,o2+i,none⟩=some (.string l[i].2):=by
 obtain ⟨vk,vv,vi,a,b⟩:=h
 obtain ⟨g1,o1,c1,e1,h1,k1⟩:=a.ks.lit (by simpa [Nd.keys] using hp)
 obtain ⟨g2,o2,c2,e2,h2,k2⟩:=a.vs.lit (by simpa [Nd.vals] using hp)
 subst e1 e2
 refine ⟨g1,o1,c1,g2,o2,c2,?_,?_,⟨(b q (.inl rfl)).2,(b g1 (.inr (.inl rfl))).2,(b g2 (.inr (.inr (.inl rfl)))).2⟩,fun i hi=>⟨?_,?_⟩⟩
 ·have:=cell_lit (i:=1) a.blk rfl
  simpa [Nd.keys] using this
 ·have:=cell_lit (i:=2) a.blk rfl
  simpa [Nd.vals] using this
 ·have:=k1 i (by simpa [Nd.keys] using hi)
  rw [this];simp [Nd.keys]
 ·have:=k2 i (by simpa [Nd.vals] using hi)
  rw [this];simp [Nd.vals]
theorem scan_leaf (w0 W:World) (G:Nat->Prop) (tb rb place n m:Nat) (S:RS) (p:Nat) (t:PT 0) (frm tt:ByteArray) (limit lb deep base:Nat) (L:List (ByteArray × ByteArray)) (v:Value) (hB:TBase w0 W G G tb rb place n m S) (hA:Acc base W lb L v) (hl:w0.heap.size<=lb) (hb:w0.heap.size<=base) (hbW:base<=W.heap.size) (hG:∀ k,G k->k<w0.heap.size) (hT:Tr S 0 p t) (hd:deep<=20) (hm:m<=3900000) (hcap:L.length+(ents 0 t).length<=40000000) (hlim:limit<=9223372036854775807) (htt:tt.size=0) :
 Calls Tryz.prog 142 #[.pointer (some ⟨tb,0,none⟩),.int .i64 (p:Int),.string frm,.string tt,.int .i64 (limit:Int),.pointer (some ⟨lb,0,none⟩),.int .i64 (deep:Int)] W fun e w'=>∃ ok,e=.returned (.bool ok)/\Hid (ScanEnd base W w' lb v frm tt limit (ents 0 t) L ok):=by
 have hnot:∀ (x:Bool) (w:World),(Op.unary .not (.bool x)).run Tryz.prog w=.ok (.bool (!x)) w:=fun _ _=>rfl
 have RD:=Hd (tail_read hB (by omega) hT.on hT.fit hT.ok)
 have hd1:¬(20:Int)<(deep:Int):=by omega
 obtain ⟨A,B,rfl,hA1,hB1,-⟩:=lb_split t frm hT.wf.srt
 have HF:Hid (from_ frm (ents 0 (A++B))=B):=Hd (by
  show from_ frm (A++B)=B
  rw [from_app,from_none hA1,from_all hB1,List.nil_append])
 have hpos:0<(A++B).length:=by have:=hT.pos;rw [nd_len0] at this;exact this
 have hl6:(Nd.leaf (A++B)).len<=1000000:=Nat.le_of_lt (Nat.lt_trans hT.ok.few (by decide))
 have hlab:(A++B).length<=65536:=by have:=hT.ok.few;rw [nd_len0] at this;exact Nat.le_of_lt this
 have HTH:∃ there:Bool,there=true ↔ ∃ B',B.map Prod.fst=frm::B':=by
  by_cases h:∃ B',B.map Prod.fst=frm::B'
  ·exact ⟨true,⟨fun _=>h,fun _=>rfl⟩⟩
  ·exact ⟨false,⟨(fun e=>by cases e),fun e=>absurd e h⟩⟩
 obtain ⟨there,hth⟩:=HTH
 have FD:Hid (∀ W' q,RdN w0 W' G q (nd 0 (A++B))->Calls Tryz.prog 165 #[.pointer (some ⟨q,0,none⟩),.string frm] W' fun e w'=>e=.returned (.tuple #[.int .i64 (A.length:Nat),.bool there])/\∃ q,w'=W'.drewN q):=Hd fun W' q hr=>by
  obtain ⟨vk,vv,vi,hv⟩:=hr.view
  have:=find_c there q (.leaf (A++B)) vk vv vi (A.map Prod.fst) (B.map Prod.fst) frm W' hv (by simp [Nd.keys]) hT.pos hl6 (fun a ha=>by obtain ⟨e,he,rfl⟩:=List.mem_map.1 ha;exact hA1 e he) (fun b hb=>by obtain ⟨e,he,rfl⟩:=List.mem_map.1 hb;exact hB1 e he) hth
  rw [List.length_map] at this;exact this
 have HB:=Hd hB
 have HAcc:=Hd hA
 have HG:=Hd hG
 have HLB:Hid (lb<W.heap.size):=Hd (lt_of_heap hA.blk)
 have HCAP:=Hd hcap
 have HBW:=Hd hbW
 have HBB:=Hd hb
 clear hB hA hG hT hA1 hB1 hm hcap hth hl6 hd hbW hb
 go_enter Tryz.func142,Tryz.ntmps142
 go_wp2_with fail
 refine RD.out.mono ?_
 rintro e w3 ⟨q,rfl,HO⟩
 have N3:Hid (RdN w0 w3 G q (nd 0 (A++B))):=Hd (HO.out.rdN HB.out.up.size HB.out.room.lt)
 have HFN:Hid (∀ k,w3.heap.size<=k->W.heap.size<=k):=Hd fun k hk=>Nat.le_trans HO.out.below.size hk
 have FD3:=Hd (FD.out w3 q N3.out)
 obtain ⟨vk,vv,vi,hv⟩:=N3.out.view
 have c0:w3.cell? ⟨q,0,none⟩=some (.bool true):=cell_lit hv.blk rfl
 have HO2:=HO
 clear RD FD hv
 go_wp2_with fail
 refine FD3.out.mono ?_
 rintro e w4 ⟨rfl,qn,rfl⟩
 have HO4:Hid (∃ F,IsNd (w3.drewN qn) F q (nd 0 (A++B))/\∀ k,F k->W.heap.size<=k):=Hd (by
  obtain ⟨F,a,b,c⟩:=HO2.out
  exact ⟨F,a.below (drewN_below w3 qn) (Nat.le_refl _),b⟩)
 have A4:=Hd ((HAcc.out.below HO2.out.below).below (drewN_below w3 qn))
 have BL4:Hid (Below W.heap.size W (w3.drewN qn)):=Hd (HO2.out.below.trans (Below.drewN (Below.refl _ _) qn))
 generalize w3.drewN qn=w4 at *
 clear FD3 N3 HO HO2 c0
 go_wp2_with fail
 go_loopg [18] B.length (fun gg s18 wr=>∃ (j:Nat),gg=B.length-j/\j<=B.length/\s18=.int .i64 ((A.length+j:Nat):Int)/\Hid (∃ Lj vj,sRun tt limit (B.take j) L=(Lj,true)/\Lj.length<=L.length+j/\Acc base wr lb Lj vj/\(∀ k,vj.ownBlock=some k->v.ownBlock=some k\/w4.heap.size<=k)/\Upd (fun k=>k=lb\/v.ownBlock=some k) w4 wr))
 case atStart=>exact ⟨0,rfl,Nat.zero_le _,rfl,Hd ⟨L,v,by simp [sRun],Nat.le_refl _,A4.out,fun k e=>.inl e,Upd.refl _ _⟩⟩
 case round =>
  obtain ⟨j,hgk,hj,rfl,HI⟩:=hrel
  obtain ⟨Lj,vj,hs,hll,ha,hn,hu⟩:=HI.out
  obtain ⟨F5,f1,f2⟩:=HO4.out
  have N5:RdIn wr q (.leaf (A++B)) F5:=(f1.upd hu fun k hk e=>by
   have:=f2 k hk
   rcases e with e|e
   ·have:=HLB.out;omega
   ·have:=(HAcc.out.row.lt k e).2;omega).rdIn
  have HF5:Hid (∀ k,F5 k->W.heap.size<=k/\k<w4.heap.size):=Hd fun k hk=>⟨f2 k hk,f1.lt k hk⟩
  obtain ⟨g1,o1,c1,g2,o2,c2,k1,k2,hFF,kc⟩:=leaf_cells N5 hpos
  have HFF:=Hd hFF
  clear hFF f1 f2
  obtain ⟨la,lc,hvj⟩:∃ a c,vj=.slice a Lj.length c:=by
   rcases ha.row.2 with ⟨rfl,h0⟩|⟨g,cap,cur,rfl,-⟩
   ·exact ⟨none,0,by rw [h0]⟩
   ·exact ⟨_,_,rfl⟩
  subst hvj
  have m0:wr.cell? ⟨lb,0,none⟩=some (.slice la Lj.length lc):=cell_lit ha.blk rfl
  have m1:wr.frozen? ⟨lb,0,none⟩=false:=frozen_lit ha.blk 0
  have hlbl:=lt_of_heap ha.blk
  by_cases hjl:j<B.length
  ·obtain ⟨kx,ky⟩:=kc (A.length+j) (by simp;omega)
   rw [List.getElem_append_right (by omega)] at kx ky
   simp only [Nat.add_sub_cancel_left] at kx ky
   have hlt:((A.length+j:Nat):Int)<(((A++B).length:Nat):Int):=by simp;omega
   have hixb:A.length+j<=65536:=by simp at hlab;omega
   obtain ⟨LN,hLN⟩:=exE (Lj.length)
   obtain ⟨e,he⟩:=exE (B[j])
   have HE:Hid (B[j]?=some e):=Hd (by rw [List.getElem?_eq_getElem hjl,he])
   rw [he] at kx ky
   rw [hLN] at m0
   have HLN:=Hd hLN
   have HJ:=Hd hj
   have HJL:=Hd hjl
   have HS:=Hd hs
   have HLL:=Hd hll
   have HA2:=Hd ha
   have HN2:=Hd hn
   have HU2:=Hd hu
   have QC:Hid (∀ W5,Upd (fun k=>k=lb\/(Value.slice la Lj.length lc).ownBlock=some k) wr W5->W5.cell? ⟨q,1,none⟩=some (.slice (some ⟨g1,o1,none⟩) (A++B).length c1)/\W5.cell? ⟨q,2,none⟩=some (.slice (some ⟨g2,o2,none⟩) (A++B).length c2)/\W5.cell? ⟨g1,o1+(A.length+j),none⟩=some (.string e.1)/\W5.cell? ⟨g2,o2+(A.length+j),none⟩=some (.string e.2)):=Hd fun W5 hU5=>by
    have nn:∀ k,F5 k->k<wr.heap.size->W5.heap[k]?=wr.heap[k]?:=fun k hk hlt=>hU5.block k hlt fun e=>by
     obtain ⟨h1,h2⟩:=HF5.out k hk
     rcases e with e|e
     ·have:=HLB.out;omega
     ·rcases hn k e with e|e
      ·have:=(HAcc.out.row.lt k e).2;omega
      ·omega
    exact ⟨(World.cell?_of_block (nn q HFF.out.1 (World.block_lt_of_cell? _ _ k1))).trans k1,(World.cell?_of_block (nn q HFF.out.1 (World.block_lt_of_cell? _ _ k2))).trans k2,(World.cell?_of_block (nn g1 HFF.out.2.1 (World.block_lt_of_cell? _ _ kx))).trans kx,(World.cell?_of_block (nn g2 HFF.out.2.2 (World.block_lt_of_cell? _ _ ky))).trans ky⟩
   have HGK:=Hd hgk
   clear kc
   obtain ⟨ix,hix⟩:=exE (A.length+j)
   have HIX:=Hd hix
   rw [hix] at kx ky hlt hixb QC ⊢
   clear hix
   generalize (A++B).length=NN at *
   clear hj hjl hs hll ha hn hu N5 hgk he hLN HI hlab hpos
   have hb':B=B.take j++e::B.drop (j+1):=by
    have h1:=HE.out
    obtain ⟨h2,h3⟩:=List.getElem?_eq_some_iff.1 h1
    rw [<-h3];exact (List.take_append_drop j B).symm.trans (by rw [List.drop_eq_getElem_cons h2])
   have HSTOP:Hid (LN=limit\/(tt.size≠0/\kless e.1 tt=false)->ScanEnd base W wr lb v frm tt limit (ents 0 (A++B)) L false):=Hd fun hst=>by
    refine ⟨Lj,?_,(AccGo.below_left BL4.out ⟨⟨_,HA2.out,HN2.out⟩,HU2.out⟩)⟩
    rw [HF.out,hb',sRun_true HS.out,sRun_cons,if_pos (by rw [HLN.out];exact hst)]
   have HGO:Hid (¬(LN=limit\/(tt.size≠0/\kless e.1 tt=false))->sRun tt limit (B.take (j+1)) L=(Lj++[e],true)):=Hd fun hst=>by
    have h1:=HE.out
    obtain ⟨h2,h3⟩:=List.getElem?_eq_some_iff.1 h1
    rw [List.take_succ_eq_append_getElem h2,h3,sRun_true HS.out,sRun_cons,if_neg (by rw [HLN.out];exact hst)];rfl
   have hfew:LN+1<=40000000:=by
    have h1:=HLL.out
    have h2:=HCAP.out
    have h3:(ents 0 (A++B)).length=(A++B).length:=rfl
    have h4:=HJL.out
    rw [HLN.out] at h1
    rw [h3,List.length_append] at h2;omega
   clear hb'
   have htl:tt.toList=[] ↔ tt.size=0:=by rw [Lib.toList_data,Lib.size_eq];exact List.length_eq_zero_iff.symm
   by_cases hst:LN=limit\/(tt.size≠0/\kless e.1 tt=false)
   ·have HE2:=Hd (HSTOP.out hst)
    have hc1:LN=limit:=by rcases hst with h|⟨h,-⟩;exact h;exact absurd htt h
    have q1:((LN:Int) == (limit:Int))=true:=by simp;omega
    have q0:=htl.2 htt
    clear HSTOP HGO hfew htl
    go_wp2_with fail
    all_goals (go_ret;exact ⟨false,rfl,HE2⟩)
   ·have HR:=Hd (HGO.out hst)
    have q1:((LN:Int) == (limit:Int))=false:=by simp;exact fun h=>hst (.inl (by omega))
    have q0:=htl.2 htt
    obtain ⟨jP,hjP,hP0,hP1,hP2⟩:=info_parts infoP
    have hdr:=(Below.refl wr.heap.size wr).drew
    have AD:=Hd (HA2.out.below hdr)
    have UD:=Hd (HU2.out.trans' (hdr.upd' (Nat.le_refl _)) fun _ _ e=>False.elim e)
    have HBS:Hid (base<=wr.drew.heap.size):=Hd (by
     have h1:=HU2.out.size;have h2:=BL4.out.size;have h3:=HBW.out
     show base<=wr.heap.size;omega)
    have d0:wr.drew.cell? ⟨lb,0,none⟩=some (.slice la Lj.length lc):=by rw [<-HLN.out] at m0;exact m0
    have dl:lb<wr.drew.heap.size:=hlbl
    have HN5':Hid (wr.drew.heap.size=wr.heap.size):=Hd rfl
    have HFEW:Hid (Lj.length+1<=maxLen/\(Lj.length+1)*32<=140737488355328/\Lj.length+1<=40000000):=Hd (by have:=HLN.out;unfold maxLen;omega)
    clear HSTOP HGO htl hst hfew htt
    rw [<-HLN.out] at m0 q1
    have w1:IntKind.i64.wrap ((ix:Int)+1)=(ix:Int)+1:=wrap_small (by omega) (by omega)
    go_wp2_with fail
    all_goals (
     have AW:=Hd (HA2.out.below (((Below.refl wr.heap.size wr).alloc (Nat.le_refl _) (.cells #[.string e.1,.string e.2] 170)).drew))
     have hbW:Below wr.heap.size wr ((wr.alloc (.cells #[.string e.1,.string e.2] 170)).drew):=((Below.refl wr.heap.size wr).alloc (Nat.le_refl _) _).drew
     go_region_law ((first
      | (refine step_append_y (by rfl) _ _ _ (by rfl) base 170 jP _ 2 32 Tryz.underlying166 hjP hP0 hP1 hP2 rfl (by decide) _ _ _ (by rfl) AW.out.row _ 1 _ (by rfl) (show Yields ((wr.alloc (.cells #[.string e.1,.string e.2] 170)).drew) (.slice (some ⟨wr.heap.size,0,none⟩) 1 1) 1 [.string e.1,.string e.2] from yields_boxL wr #[.string e.1,.string e.2] 170 1 1) rfl (one2 _ _ rfl rfl) HFEW.out.1 HFEW.out.2.1 (by have:=HBS.out;show base<=(wr.alloc _).heap.size;rw [World.size_alloc];have:=HN5'.out;omega) ?_
         intro v5 W5 ho5 hg5 ha5
         have PU:=Hd (acc_push (e:=e) HA2.out (((Below.refl wr.heap.size wr).alloc (Nat.le_refl _) (.cells #[.string e.1,.string e.2] 170)).drew) ho5 hg5 ha5 HFEW.out.2.2)
         obtain ⟨xa,xm,xc,rfl⟩:∃ a b c,v5=.slice a b c:=by
          rcases ho5.2 with ⟨rfl,_⟩|⟨g,cap,cur,rfl,_⟩
          ·exact ⟨_,_,_,rfl⟩
          ·exact ⟨_,_,_,rfl⟩
         have p0:=PU.out.1.1
         have p1:=PU.out.1.2
         clear ho5 hg5 ha5)))
     all_goals (
      go_wp2_with fail
      go_roundg (B.length-(j+1))))
    all_goals (first
     | (case measure=>have:=HGK.out;have:=HJL.out;omega)
     | (case rel =>
         refine ⟨j+1,rfl,HJL.out,by have:=HIX.out;congr 1;omega,Hd ⟨Lj++[e],_,HR.out,by have:=HLL.out;simp;omega,PU.out.2.1,fun k hk=>?_,HU2.out.trans' PU.out.2.2.2 fun k hk e=>?_⟩⟩
         ·rcases PU.out.2.2.1 k hk with e|e
          ·exact HN2.out k e
          ·have:=HU2.out.size;have:=HN5'.out;exact .inr (by omega)
         ·rcases e with e|e
          ·exact .inl e
          ·exact .inr ((HN2.out k e).resolve_right (by omega))))
  ·obtain rfl:j=B.length:=by omega
   rw [List.take_length] at hs
   have HE2:Hid (ScanEnd base W wr lb v frm tt limit (ents 0 (A++B)) L true):=Hd ⟨Lj,by rw [HF.out];exact hs,AccGo.below_left BL4.out ⟨⟨_,ha,hn⟩,hu⟩⟩
   have hlt:¬((A.length+B.length:Nat):Int)<(((A++B).length:Nat):Int):=by simp
   clear kc
   generalize (A++B).length=NN at *
   clear HI ha hn hu N5 hgk
   clear hs hll
   go_wp2_with fail
   go_ret
   first|exact ⟨true,rfl,HE2⟩|exact .inr ⟨rfl,HE2⟩
theorem geq_of {k tt:ByteArray} (h:kless k tt=false):Op.bytesLess k.toList tt.toList=false/\(Op.bytesLess tt.toList k.toList=true\/(Op.bytesLess tt.toList k.toList=false/\(k.toList == tt.toList)=true/\(tt.toList == k.toList)=true/\(k.toList=tt.toList)=True/\(tt.toList=k.toList)=True)):=by
 refine ⟨h,?_⟩
 cases g:kless tt k with
 | true=>exact .inl g
 | false =>
   have e:tt=k:=kless_total g h
   subst e
   exact .inr ⟨g,by simp⟩
theorem geq_no {k tt:ByteArray} (h:kless k tt=true):Op.bytesLess k.toList tt.toList=true/\Op.bytesLess tt.toList k.toList=false/\(k.toList == tt.toList)=false/\(tt.toList == k.toList)=false/\(¬k.toList=tt.toList/\¬tt.toList=k.toList):=by
 have h1:kless tt k=false:=kless_asymm h
 have h2:k.toList≠tt.toList:=fun e=>by
  have:Op.bytesLess k.toList tt.toList=true:=h
  rw [e] at this
  have h3:kless tt tt=true:=this
  rw [kless_irrefl] at h3;cases h3
 exact ⟨h,h1,by simpa using h2,by simpa using fun e=>h2 e.symm,h2,fun e=>h2 e.symm⟩
theorem scan_leaf2 (w0 W:World) (G:Nat->Prop) (tb rb place n m:Nat) (S:RS) (p:Nat) (t:PT 0) (frm tt:ByteArray) (limit lb deep base:Nat) (L:List (ByteArray × ByteArray)) (v:Value) (hB:TBase w0 W G G tb rb place n m S) (hA:Acc base W lb L v) (hl:w0.heap.size<=lb) (hb:w0.heap.size<=base) (hbW:base<=W.heap.size) (hG:∀ k,G k->k<w0.heap.size) (hT:Tr S 0 p t) (hd:deep<=20) (hm:m<=3900000) (hcap:L.length+(ents 0 t).length<=40000000) (hlim:limit<=9223372036854775807) (htt:tt.size≠0) :
 Calls Tryz.prog 142 #[.pointer (some ⟨tb,0,none⟩),.int .i64 (p:Int),.string frm,.string tt,.int .i64 (limit:Int),.pointer (some ⟨lb,0,none⟩),.int .i64 (deep:Int)] W fun e w'=>∃ ok,e=.returned (.bool ok)/\Hid (ScanEnd base W w' lb v frm tt limit (ents 0 t) L ok):=by
 have hnot:∀ (x:Bool) (w:World),(Op.unary .not (.bool x)).run Tryz.prog w=.ok (.bool (!x)) w:=fun _ _=>rfl
 have RD:=Hd (tail_read hB (by omega) hT.on hT.fit hT.ok)
 have hd1:¬(20:Int)<(deep:Int):=by omega
 obtain ⟨A,B,rfl,hA1,hB1,-⟩:=lb_split t frm hT.wf.srt
 have HF:Hid (from_ frm (ents 0 (A++B))=B):=Hd (by
  show from_ frm (A++B)=B
  rw [from_app,from_none hA1,from_all hB1,List.nil_append])
 have hpos:0<(A++B).length:=by have:=hT.pos;rw [nd_len0] at this;exact this
 have hl6:(Nd.leaf (A++B)).len<=1000000:=Nat.le_of_lt (Nat.lt_trans hT.ok.few (by decide))
 have hlab:(A++B).length<=65536:=by have:=hT.ok.few;rw [nd_len0] at this;exact Nat.le_of_lt this
 have HTH:∃ there:Bool,there=true ↔ ∃ B',B.map Prod.fst=frm::B':=by
  by_cases h:∃ B',B.map Prod.fst=frm::B'
  ·exact ⟨true,⟨fun _=>h,fun _=>rfl⟩⟩
  ·exact ⟨false,⟨(fun e=>by cases e),fun e=>absurd e h⟩⟩
 obtain ⟨there,hth⟩:=HTH
 have FD:Hid (∀ W' q,RdN w0 W' G q (nd 0 (A++B))->Calls Tryz.prog 165 #[.pointer (some ⟨q,0,none⟩),.string frm] W' fun e w'=>e=.returned (.tuple #[.int .i64 (A.length:Nat),.bool there])/\∃ q,w'=W'.drewN q):=Hd fun W' q hr=>by
  obtain ⟨vk,vv,vi,hv⟩:=hr.view
  have:=find_c there q (.leaf (A++B)) vk vv vi (A.map Prod.fst) (B.map Prod.fst) frm W' hv (by simp [Nd.keys]) hT.pos hl6 (fun a ha=>by obtain ⟨e,he,rfl⟩:=List.mem_map.1 ha;exact hA1 e he) (fun b hb=>by obtain ⟨e,he,rfl⟩:=List.mem_map.1 hb;exact hB1 e he) hth
  rw [List.length_map] at this;exact this
 have HB:=Hd hB
 have HAcc:=Hd hA
 have HG:=Hd hG
 have HLB:Hid (lb<W.heap.size):=Hd (lt_of_heap hA.blk)
 have HCAP:=Hd hcap
 have HBW:=Hd hbW
 have HBB:=Hd hb
 clear hB hA hG hT hA1 hB1 hm hcap hth hl6 hd hbW hb
 go_enter Tryz.func142,Tryz.ntmps142
 go_wp2_with fail
 refine RD.out.mono ?_
 rintro e w3 ⟨q,rfl,HO⟩
 have N3:Hid (RdN w0 w3 G q (nd 0 (A++B))):=Hd (HO.out.rdN HB.out.up.size HB.out.room.lt)
 have HFN:Hid (∀ k,w3.heap.size<=k->W.heap.size<=k):=Hd fun k hk=>Nat.le_trans HO.out.below.size hk
 have FD3:=Hd (FD.out w3 q N3.out)
 obtain ⟨vk,vv,vi,hv⟩:=N3.out.view
 have c0:w3.cell? ⟨q,0,none⟩=some (.bool true):=cell_lit hv.blk rfl
 have HO2:=HO
 clear RD FD hv
 go_wp2_with fail
 refine FD3.out.mono ?_
 rintro e w4 ⟨rfl,qn,rfl⟩
 have HO4:Hid (∃ F,IsNd (w3.drewN qn) F q (nd 0 (A++B))/\∀ k,F k->W.heap.size<=k):=Hd (by
  obtain ⟨F,a,b,c⟩:=HO2.out
  exact ⟨F,a.below (drewN_below w3 qn) (Nat.le_refl _),b⟩)
 have A4:=Hd ((HAcc.out.below HO2.out.below).below (drewN_below w3 qn))
 have BL4:Hid (Below W.heap.size W (w3.drewN qn)):=Hd (HO2.out.below.trans (Below.drewN (Below.refl _ _) qn))
 generalize w3.drewN qn=w4 at *
 clear FD3 N3 HO HO2 c0
 go_wp2_with fail
 go_loopg [18] B.length (fun gg s18 wr=>∃ (j:Nat),gg=B.length-j/\j<=B.length/\s18=.int .i64 ((A.length+j:Nat):Int)/\Hid (∃ Lj vj,sRun tt limit (B.take j) L=(Lj,true)/\Lj.length<=L.length+j/\Acc base wr lb Lj vj/\(∀ k,vj.ownBlock=some k->v.ownBlock=some k\/w4.heap.size<=k)/\Upd (fun k=>k=lb\/v.ownBlock=some k) w4 wr))
 case atStart=>exact ⟨0,rfl,Nat.zero_le _,rfl,Hd ⟨L,v,by simp [sRun],Nat.le_refl _,A4.out,fun k e=>.inl e,Upd.refl _ _⟩⟩
 case round =>
  obtain ⟨j,hgk,hj,rfl,HI⟩:=hrel
  obtain ⟨Lj,vj,hs,hll,ha,hn,hu⟩:=HI.out
  obtain ⟨F5,f1,f2⟩:=HO4.out
  have N5:RdIn wr q (.leaf (A++B)) F5:=(f1.upd hu fun k hk e=>by
   have:=f2 k hk
   rcases e with e|e
   ·have:=HLB.out;omega
   ·have:=(HAcc.out.row.lt k e).2;omega).rdIn
  have HF5:Hid (∀ k,F5 k->W.heap.size<=k/\k<w4.heap.size):=Hd fun k hk=>⟨f2 k hk,f1.lt k hk⟩
  obtain ⟨g1,o1,c1,g2,o2,c2,k1,k2,hFF,kc⟩:=leaf_cells N5 hpos
  have HFF:=Hd hFF
  clear hFF f1 f2
  obtain ⟨la,lc,hvj⟩:∃ a c,vj=.slice a Lj.length c:=by
   rcases ha.row.2 with ⟨rfl,h0⟩|⟨g,cap,cur,rfl,-⟩
   ·exact ⟨none,0,by rw [h0]⟩
   ·exact ⟨_,_,rfl⟩
  subst hvj
  have m0:wr.cell? ⟨lb,0,none⟩=some (.slice la Lj.length lc):=cell_lit ha.blk rfl
  have m1:wr.frozen? ⟨lb,0,none⟩=false:=frozen_lit ha.blk 0
  have hlbl:=lt_of_heap ha.blk
  by_cases hjl:j<B.length
  ·obtain ⟨kx,ky⟩:=kc (A.length+j) (by simp;omega)
   rw [List.getElem_append_right (by omega)] at kx ky
   simp only [Nat.add_sub_cancel_left] at kx ky
   have hlt:((A.length+j:Nat):Int)<(((A++B).length:Nat):Int):=by simp;omega
   have hixb:A.length+j<=65536:=by simp at hlab;omega
   obtain ⟨LN,hLN⟩:=exE (Lj.length)
   obtain ⟨e,he⟩:=exE (B[j])
   have HE:Hid (B[j]?=some e):=Hd (by rw [List.getElem?_eq_getElem hjl,he])
   rw [he] at kx ky
   rw [hLN] at m0
   have HLN:=Hd hLN
   have HJ:=Hd hj
   have HJL:=Hd hjl
   have HS:=Hd hs
   have HLL:=Hd hll
   have HA2:=Hd ha
   have HN2:=Hd hn
   have HU2:=Hd hu
   have QC:Hid (∀ W5,Upd (fun k=>k=lb\/(Value.slice la Lj.length lc).ownBlock=some k) wr W5->W5.cell? ⟨q,1,none⟩=some (.slice (some ⟨g1,o1,none⟩) (A++B).length c1)/\W5.cell? ⟨q,2,none⟩=some (.slice (some ⟨g2,o2,none⟩) (A++B).length c2)/\W5.cell? ⟨g1,o1+(A.length+j),none⟩=some (.string e.1)/\W5.cell? ⟨g2,o2+(A.length+j),none⟩=some (.string e.2)):=Hd fun W5 hU5=>by
    have nn:∀ k,F5 k->k<wr.heap.size->W5.heap[k]?=wr.heap[k]?:=fun k hk hlt=>hU5.block k hlt fun e=>by
     obtain ⟨h1,h2⟩:=HF5.out k hk
     rcases e with e|e
     ·have:=HLB.out;omega
     ·rcases hn k e with e|e
      ·have:=(HAcc.out.row.lt k e).2;omega
      ·omega
    exact ⟨(World.cell?_of_block (nn q HFF.out.1 (World.block_lt_of_cell? _ _ k1))).trans k1,(World.cell?_of_block (nn q HFF.out.1 (World.block_lt_of_cell? _ _ k2))).trans k2,(World.cell?_of_block (nn g1 HFF.out.2.1 (World.block_lt_of_cell? _ _ kx))).trans kx,(World.cell?_of_block (nn g2 HFF.out.2.2 (World.block_lt_of_cell? _ _ ky))).trans ky⟩
   have HGK:=Hd hgk
   clear kc
   obtain ⟨ix,hix⟩:=exE (A.length+j)
   have HIX:=Hd hix
   rw [hix] at kx ky hlt hixb QC ⊢
   clear hix
   generalize (A++B).length=NN at *
   clear hj hjl hs hll ha hn hu N5 hgk he hLN HI hlab hpos
   have hb':B=B.take j++e::B.drop (j+1):=by
    have h1:=HE.out
    obtain ⟨h2,h3⟩:=List.getElem?_eq_some_iff.1 h1
    rw [<-h3];exact (List.take_append_drop j B).symm.trans (by rw [List.drop_eq_getElem_cons h2])
   have HSTOP:Hid (LN=limit\/(tt.size≠0/\kless e.1 tt=false)->ScanEnd base W wr lb v frm tt limit (ents 0 (A++B)) L false):=Hd fun hst=>by
    refine ⟨Lj,?_,(AccGo.below_left BL4.out ⟨⟨_,HA2.out,HN2.out⟩,HU2.out⟩)⟩
    rw [HF.out,hb',sRun_true HS.out,sRun_cons,if_pos (by rw [HLN.out];exact hst)]
   have HGO:Hid (¬(LN=limit\/(tt.size≠0/\kless e.1 tt=false))->sRun tt limit (B.take (j+1)) L=(Lj++[e],true)):=Hd fun hst=>by
    have h1:=HE.out
    obtain ⟨h2,h3⟩:=List.getElem?_eq_some_iff.1 h1
    rw [List.take_succ_eq_append_getElem h2,h3,sRun_true HS.out,sRun_cons,if_neg (by rw [HLN.out];exact hst)];rfl
   have hfew:LN+1<=40000000:=by
    have h1:=HLL.out
    have h2:=HCAP.out
    have h3:(ents 0 (A++B)).length=(A++B).length:=rfl
    have h4:=HJL.out
    rw [HLN.out] at h1
    rw [h3,List.length_append] at h2;omega
   clear hb'
   have htl:tt.toList=[] ↔ tt.size=0:=by rw [Lib.toList_data,Lib.size_eq];exact List.length_eq_zero_iff.symm
   by_cases hst:LN=limit\/(tt.size≠0/\kless e.1 tt=false)
   ·have HE2:=Hd (HSTOP.out hst)
    by_cases hc1:LN=limit
    ·have q1:((LN:Int) == (limit:Int))=true:=by simp;omega
     clear HSTOP HGO hfew htl hst htt
     go_wp2_with fail
     all_goals (go_ret;exact ⟨false,rfl,HE2⟩)
    ·have hc2:kless e.1 tt=false:=by rcases hst with h|⟨-,h⟩;exact absurd h hc1;exact h
     have q1:((LN:Int) == (limit:Int))=false:=by simp;omega
     have q0:tt.toList.isEmpty=false:=by cases h:tt.toList with|nil=>exact absurd (htl.1 h) htt|cons a r=>rfl
     obtain ⟨r1,r2⟩:=geq_of hc2
     clear HSTOP HGO hfew htl hst htt hc1 hc2
     rcases r2 with r2|⟨r2,r3,r4,r5,r6⟩
     ·go_wp2_with fail
      all_goals (go_ret;exact ⟨false,rfl,HE2⟩)
     ·go_wp2_with fail
      all_goals (go_ret;exact ⟨false,rfl,HE2⟩)
   ·have HR:=Hd (HGO.out hst)
    have q1:((LN:Int) == (limit:Int))=false:=by simp;exact fun h=>hst (.inl (by omega))
    have q0:tt.toList.isEmpty=false:=by cases h:tt.toList with|nil=>exact absurd (htl.1 h) htt|cons a r=>rfl
    have hc2:kless e.1 tt=true:=by
     cases h:kless e.1 tt with
     | true=>rfl
     | false=>exact absurd (.inr ⟨htt,h⟩) hst
    obtain ⟨r1,r2,r3,r4,r5⟩:=geq_no hc2
    obtain ⟨jP,hjP,hP0,hP1,hP2⟩:=info_parts infoP
    have hdr:=(Below.refl wr.heap.size wr).drew
    have AD:=Hd (HA2.out.below hdr)
    have UD:=Hd (HU2.out.trans' (hdr.upd' (Nat.le_refl _)) fun _ _ e=>False.elim e)
    have HBS:Hid (base<=wr.drew.heap.size):=Hd (by
     have h1:=HU2.out.size;have h2:=BL4.out.size;have h3:=HBW.out
     show base<=wr.heap.size;omega)
    have d0:wr.drew.cell? ⟨lb,0,none⟩=some (.slice la Lj.length lc):=by rw [<-HLN.out] at m0;exact m0
    have dl:lb<wr.drew.heap.size:=hlbl
    have HN5':Hid (wr.drew.heap.size=wr.heap.size):=Hd rfl
    have HFEW:Hid (Lj.length+1<=maxLen/\(Lj.length+1)*32<=140737488355328/\Lj.length+1<=40000000):=Hd (by have:=HLN.out;unfold maxLen;omega)
    clear HSTOP HGO htl hst hfew htt hc2
    rw [<-HLN.out] at m0 q1
    have w1:IntKind.i64.wrap ((ix:Int)+1)=(ix:Int)+1:=wrap_small (by omega) (by omega)
    go_wp2_with fail
    all_goals (
     have AW:=Hd (HA2.out.below (((Below.refl wr.heap.size wr).alloc (Nat.le_refl _) (.cells #[.string e.1,.string e.2] 170)).drew))
     have hbW:Below wr.heap.size wr ((wr.alloc (.cells #[.string e.1,.string e.2] 170)).drew):=((Below.refl wr.heap.size wr).alloc (Nat.le_refl _) _).drew
     go_region_law ((first
      | (refine step_append_y (by rfl) _ _ _ (by rfl) base 170 jP _ 2 32 Tryz.underlying166 hjP hP0 hP1 hP2 rfl (by decide) _ _ _ (by rfl) AW.out.row _ 1 _ (by rfl) (show Yields ((wr.alloc (.cells #[.string e.1,.string e.2] 170)).drew) (.slice (some ⟨wr.heap.size,0,none⟩) 1 1) 1 [.string e.1,.string e.2] from yields_boxL wr #[.string e.1,.string e.2] 170 1 1) rfl (one2 _ _ rfl rfl) HFEW.out.1 HFEW.out.2.1 (by have:=HBS.out;show base<=(wr.alloc _).heap.size;rw [World.size_alloc];have:=HN5'.out;omega) ?_
         intro v5 W5 ho5 hg5 ha5
         have PU:=Hd (acc_push (e:=e) HA2.out (((Below.refl wr.heap.size wr).alloc (Nat.le_refl _) (.cells #[.string e.1,.string e.2] 170)).drew) ho5 hg5 ha5 HFEW.out.2.2)
         obtain ⟨xa,xm,xc,rfl⟩:∃ a b c,v5=.slice a b c:=by
          rcases ho5.2 with ⟨rfl,_⟩|⟨g,cap,cur,rfl,_⟩
          ·exact ⟨_,_,_,rfl⟩
          ·exact ⟨_,_,_,rfl⟩
         have p0:=PU.out.1.1
         have p1:=PU.out.1.2
         clear ho5 hg5 ha5)))
     all_goals (
      go_wp2_with fail
      go_roundg (B.length-(j+1))))
    all_goals (first
     | (case measure=>have:=HGK.out;have:=HJL.out;omega)
     | (case rel =>
         refine ⟨j+1,rfl,HJL.out,by have:=HIX.out;congr 1;omega,Hd ⟨Lj++[e],_,HR.out,by have:=HLL.out;simp;omega,PU.out.2.1,fun k hk=>?_,HU2.out.trans' PU.out.2.2.2 fun k hk e=>?_⟩⟩
         ·rcases PU.out.2.2.1 k hk with e|e
          ·exact HN2.out k e
          ·have:=HU2.out.size;have:=HN5'.out;exact .inr (by omega)
         ·rcases e with e|e
          ·exact .inl e
          ·exact .inr ((HN2.out k e).resolve_right (by omega))))
  ·obtain rfl:j=B.length:=by omega
   rw [List.take_length] at hs
   have HE2:Hid (ScanEnd base W wr lb v frm tt limit (ents 0 (A++B)) L true):=Hd ⟨Lj,by rw [HF.out];exact hs,AccGo.below_left BL4.out ⟨⟨_,ha,hn⟩,hu⟩⟩
   have hlt:¬((A.length+B.length:Nat):Int)<(((A++B).length:Nat):Int):=by simp
   clear kc
   generalize (A++B).length=NN at *
   clear HI ha hn hu N5 hgk
   clear hs hll
   go_wp2_with fail
   go_ret
   first|exact ⟨true,rfl,HE2⟩|exact .inr ⟨rfl,HE2⟩
set_option maxHeartbeats 1000000
theorem kids_sl {W:World} {F:Nat->Prop} {q:Nat} {l:List (ByteArray × Nat)} (h:RdIn W q (.inner l) F) (hp:0<l.length) :
 ∃ g o c,W.cell? ⟨q,3,none⟩=some (.slice (some ⟨g,o,none⟩) l.length c)/\l.length<=c/\(F q/\F g)/\∀ i (hi:i<l.length),W.cell? ⟨g,o+i,none⟩=some (.int .i64 (l[i].2:Int)):=by
 obtain ⟨vk,vv,vi,a,b⟩:=h
 obtain ⟨g2,o2,c2,e2,h2,k2⟩:=a.is.lit (by simpa [Nd.kids] using hp)
 subst e2
 refine ⟨g2,o2,c2,?_,by simpa [Nd.kids] using h2,⟨(b q (.inl rfl)).2,(b g2 (.inr (.inr (.inr rfl)))).2⟩,fun i hi=>?_⟩
 ·have:=cell_lit (i:=3) a.blk rfl
  simpa [Nd.kids] using this
 ·have:=k2 i (by simpa [Nd.kids] using hi)
  rw [this];simp [Nd.kids]
theorem from_len (key:ByteArray) (E:List (ByteArray × ByteArray)):(from_ key E).length<=E.length:=List.length_filter_le _ _
theorem scan_c:∀ (h:Nat) (w0 W:World) (G:Nat->Prop) (tb rb place n m:Nat) (S:RS) (p:Nat) (t:PT h) (frm tt:ByteArray) (limit lb deep base:Nat) (L:List (ByteArray × ByteArray)) (v:Value) (_:TBase w0 W G G tb rb place n m S) (_:Acc base W lb L v) (_:w0.heap.size<=lb) (_:w0.heap.size<=base) (_:base<=W.heap.size) (_:∀ k,G k->k<w0.heap.size) (_:Tr S h p t) (_:deep+h<=20) (_:m<=3900000) (_:L.length+(ents h t).length<=40000000) (_:limit<=9223372036854775807),
 Calls Tryz.prog 142 #[.pointer (some ⟨tb,0,none⟩),.int .i64 (p:Int),.string frm,.string tt,.int .i64 (limit:Int),.pointer (some ⟨lb,0,none⟩),.int .i64 (deep:Int)] W fun e w'=>∃ ok,e=.returned (.bool ok)/\Hid (ScanEnd base W w' lb v frm tt limit (ents h t) L ok)
 | 0,w0,W,G,tb,rb,place,n,m,S,p,t,frm,tt,limit,lb,deep,base,L,v,hB,hA,hl,hb,hbW,hG,hT,hd,hm,hcap,hlim=>by
   by_cases htt:tt.size=0
   ·exact scan_leaf w0 W G tb rb place n m S p t frm tt limit lb deep base L v hB hA hl hb hbW hG hT (by omega) hm hcap hlim htt
   ·exact scan_leaf2 w0 W G tb rb place n m S p t frm tt limit lb deep base L v hB hA hl hb hbW hG hT (by omega) hm hcap hlim htt
 | hh+1,w0,W,G,tb,rb,place,n,m,S,p,t,frm,tt,limit,lb,deep,base,L,v,hB,hA,hl,hb,hbW,hG,hT,hd,hm,hcap,hlim=>by
   have hnot:∀ (x:Bool) (w:World),(Op.unary .not (.bool x)).run Tryz.prog w=.ok (.bool (!x)) w:=fun _ _=>rfl
   have RD:=Hd (tail_read hB (by omega) hT.on hT.fit hT.ok)
   have hd1:¬(20:Int)<(deep:Int):=by omega
   have hd2:deep<=20:=by omega
   have hpos:=hT.pos
   rw [nd_lenS] at hpos
   obtain ⟨A,x,B,rfl,hW,hAx⟩:=way_split t frm (hT.wf.2.keys fun x hx=>ents_pos (hT.wf.1 x hx).2.2.2.2 (hT.wf.1 x hx).2.2.1) hpos
   have hlen:(nd (hh+1) (A++x::B:List (Kid hh))).len<=1000000:=Nat.le_of_lt (Nat.lt_trans hT.ok.few (by decide))
   have hfew:=hT.ok.few
   rw [nd_lenS] at hfew
   have hK:∀ y∈x::B,Tr S hh y.2.1 y.2.2:=fun y hy=>hT.kid (x:=y) (by simp at hy ⊢;exact .inr hy)
   have HF:Hid (from_ frm (ents (hh+1) (A++x::B:List (Kid hh)))=from_ frm (ents (hh+1) (x::B:List (Kid hh)))):=Hd (by
    obtain ⟨w1,w2⟩:=hT.wf.2.way hW
    rw [ents_app,from_app,from_none (fun e he=>by obtain ⟨y,hy,he⟩:=(ents_mem hh A e).1 he;exact w1 y hy e he),List.nil_append])
   have HCE:Hid (L.length+(ents (hh+1) (x::B:List (Kid hh))).length<=40000000):=Hd (by
    rw [ents_app,List.length_append] at hcap;omega)
   have IH:Hid (∀ wr Lj vj,∀ y∈x::B,TBase w0 wr G G tb rb place n m S->Acc base wr lb Lj vj->base<=wr.heap.size->Lj.length+(ents hh y.2.2).length<=40000000->Calls Tryz.prog 142 #[.pointer (some ⟨tb,0,none⟩),.int .i64 (y.2.1:Int),.string frm,.string tt,.int .i64 (limit:Int),.pointer (some ⟨lb,0,none⟩),.int .i64 ((deep:Int)+1)] wr fun e w'=>∃ ok,e=.returned (.bool ok)/\Hid (ScanEnd base wr w' lb vj frm tt limit (ents hh y.2.2) Lj ok)):=Hd fun wr Lj vj y hy hb1 ha1 hbw1 hc1=>by
    have:=scan_c hh w0 wr G tb rb place n m S y.2.1 y.2.2 frm tt limit lb (deep+1) base Lj vj hb1 ha1 hl hb hbw1 hG (hK y hy) (by omega) hm hc1 hlim
    rw [show ((deep+1:Nat):Int)=(deep:Int)+1 by omega] at this
    exact this
   have HB:=Hd hB
   have HAcc:=Hd hA
   have HG:=Hd hG
   have HLB:Hid (lb<W.heap.size):=Hd (lt_of_heap hA.blk)
   have HBW:=Hd hbW
   have HBB:=Hd hb
   have HLO:=Hd hl
   have HW:=Hd hW
   have HAX:=Hd hAx
   have HLEN:=Hd hlen
   clear hB hA hG hT hm hcap hd hbW hb hK hW hAx hlen hpos hl
   go_enter Tryz.func142,Tryz.ntmps142
   go_wp2_with fail
   refine RD.out.mono ?_
   rintro e w3 ⟨q,rfl,HO⟩
   have HO3:Hid (∃ F,RdIn w3 q (nd (hh+1) (A++x::B:List (Kid hh))) F/\(∀ k,F k->W.heap.size<=k/\k<w3.heap.size)/\Below W.heap.size W w3):=Hd (by
    obtain ⟨F,a,b,c⟩:=HO.out
    exact ⟨F,a.rdIn,fun k hk=>⟨b k hk,a.lt k hk⟩,c⟩)
   have N3:Hid (RdN w0 w3 G q (nd (hh+1) (A++x::B:List (Kid hh)))):=Hd (HO.out.rdN HB.out.up.size HB.out.room.lt)
   obtain ⟨F3,f1,f2,f3⟩:=HO3.out
   have c0:w3.cell? ⟨q,0,none⟩=some (.bool false):=by obtain ⟨vk,vv,vi,a,b⟩:=f1;exact cell_lit a.blk rfl
   rw [show nd (hh+1) (A++x::B:List (Kid hh))=.inner ((A++x::B:List (Kid hh)).map (fun x:Kid hh=>(x.1,x.2.1))) by rfl] at f1
   obtain ⟨g3,o3,cp3,k3,hcp,hFF,kc⟩:=kids_sl f1 (by simp;omega)
   rw [List.length_map] at k3 hcp
   have KC:Hid (∀ i (hi:i<(x::B).length),w3.cell? ⟨g3,o3+(A.length+i),none⟩=some (.int .i64 ((x::B)[i].2.1:Int))):=Hd fun i hi=>by
    have:=kc (A.length+i) (by simp at hi ⊢;omega)
    rw [List.getElem_map,List.getElem_append_right (by omega)] at this
    simp only [Nat.add_sub_cancel_left] at this
    exact this
   have hdr:=(Below.refl w3.heap.size w3).drew
   have WN:Hid (Calls Tryz.prog 166 #[.pointer (some ⟨q,0,none⟩),.string frm] w3.drew fun e w'=>e=.returned (.int .i64 (A.length:Nat))/\w'.cell? ⟨q,3,none⟩=some (.slice (some ⟨g3,o3,none⟩) (A++x::B).length cp3)/\Hid (Below w3.heap.size w3 w')):=Hd (by
    refine (way_nd (N3.out.below hdr) HLEN.out HW.out HAX.out).mono ?_
    rintro e w' ⟨rfl,hb⟩
    have hb':Below w3.heap.size w3 w':=hdr.trans hb.out
    exact ⟨rfl,(World.cell?_of_block (hb'.block _ (World.block_lt_of_cell? _ _ k3))).trans k3,hb'⟩)
   have HFF:=Hd hFF
   have HF2:=Hd f2
   have HF3:=Hd f3
   have hAB:(A++x::B).length=A.length+(x::B).length:=by simp
   have s1:(A.length<=(A++x::B).length)=True:=by simp
   have s2:(cp3=A.length)=False:=by simp at hcp;simp;omega
   have s3:(A++x::B).length-A.length=(x::B).length:=by simp
   have s4:(x::B).length<=65536:=by simp at hfew ⊢;omega
   have HABL:=Hd hAB
   clear f1 f2 f3 hFF kc hdr hfew hcp hAB RD HO
   generalize (A++x::B).length=NN at *
   go_wp2_with fail
   go_region_held3 (fun w'=>w'.cell? ⟨q,3,none⟩=some (.slice (some ⟨g3,o3,none⟩) NN cp3)) (go_keep) ((go_at_call 166;refine Calls.at_args WN.out (by with_reducible rfl) ?_;rintro e w4 ⟨rfl,hk4,HB4⟩))
   all_goals (
    have BL4:Hid (Below W.heap.size W w4):=Hd (HF3.out.trans (HB4.out.mono HF3.out.size))
    have A4:=Hd (HAcc.out.below BL4.out)
    have B4:=Hd (HB.out.below BL4.out)
    have KC4:Hid (∀ wr,Upd (fun k=>k=lb\/v.ownBlock=some k) w4 wr->∀ i (hi:i<(x::B).length),wr.cell? ⟨g3,o3+(A.length+i),none⟩=some (.int .i64 ((x::B)[i].2.1:Int))):=Hd fun wr hu i hi=>by
     have h0:=KC.out i hi
     have h1:=(World.cell?_of_block (HB4.out.block _ (World.block_lt_of_cell? _ _ h0))).trans h0
     have h2:=HF2.out g3 HFF.out.2
     refine (World.cell?_of_block (hu.block _ (World.block_lt_of_cell? _ _ h1) fun e=>?_)).trans h1
     rcases e with e|e
     ·have:=HLB.out;simp only at e;omega
     ·have:=(HAcc.out.row.lt _ e).2;simp only at this;omega
    have hk0:(x::B).length=B.length+1:=List.length_cons
    rw [List.length_cons] at s3 s4
    generalize hBN:B.length=BN at s3 s4 hk0 ⊢
    have HKN:=Hd hk0
    clear hk0
    clear KC WN k3 N3 c0 HO3 hk4
    clear hBN
    go_wp2_with fail
    go_loopg [40] (BN+1) (fun gg s40 wr=>∃ (j:Nat),gg=BN+1-j/\j<=BN+1/\s40=.int .i64 (j:Int)/\Hid (∃ Lj vj,sRun tt limit (from_ frm (ents (hh+1) ((x::B).take j:List (Kid hh)))) L=(Lj,true)/\Acc base wr lb Lj vj/\(∀ k,vj.ownBlock=some k->v.ownBlock=some k\/w4.heap.size<=k)/\Upd (fun k=>k=lb\/v.ownBlock=some k) w4 wr)))
   all_goals (first
    | (case atStart=>exact ⟨0,rfl,Nat.zero_le _,rfl,Hd ⟨L,v,by simp [ents,from_,sRun],A4.out,fun k e=>.inl e,Upd.refl _ _⟩⟩)
    | skip)
   all_goals (
    obtain ⟨j,hgk,hj,rfl,HI⟩:=hrel
    obtain ⟨Lj,vj,hs,ha,hn,hu⟩:=HI.out
    have HGK:=Hd hgk
    have HS:=Hd hs
    have HN:=Hd hn
    have HU:=Hd hu
    have HA2:=Hd ha
    by_cases hjl:j<BN+1
    ·have hjx:j<(x::B).length:=by rw [HKN.out];exact hjl
     have k5:=KC4.out wr hu j hjx
     rw [<-Nat.add_assoc] at k5
     obtain ⟨y,hy⟩:=exE ((x::B)[j])
     rw [hy] at k5
     have hym:y∈x::B:=by rw [<-hy];exact List.getElem_mem hjx
     have hsum:ents (hh+1) ((x::B).take (j+1):List (Kid hh))=ents (hh+1) ((x::B).take j:List (Kid hh))++ents hh y.2.2:=by
      rw [List.take_succ_eq_append_getElem hjx,hy,ents_app];simp [ents]
     have hle:(ents (hh+1) ((x::B).take (j+1):List (Kid hh))).length<=(ents (hh+1) (x::B:List (Kid hh))).length:=by
      have e1:ents (hh+1) (x::B:List (Kid hh))=ents (hh+1) ((x::B).take (j+1):List (Kid hh))++ents (hh+1) ((x::B).drop (j+1):List (Kid hh)):=by
       rw [<-ents_app,List.take_append_drop]
      rw [e1,List.length_append];omega
     have hfewj:Lj.length+(ents hh y.2.2).length<=40000000:=by
      have h1:=sRun_len hs
      have h2:=from_len frm (ents (hh+1) ((x::B).take j:List (Kid hh)))
      have h3:=HCE.out
      rw [hsum,List.length_append] at hle;omega
     have hBr:TBase w0 wr G G tb rb place n m S:=B4.out.acc A4.out HLO.out HBB.out HG.out ⟨⟨vj,ha,hn⟩,hu⟩
     have CL:=Hd (IH.out wr Lj vj y hym hBr ha (by have:=hu.size;have:=BL4.out.size;have:=HBW.out;omega) hfewj)
     have HSUM:=Hd hsum
     have HJL:=Hd hjl
     have hKT:Hid ((x::B).take (BN+1)=x::B):=Hd (by rw [<-HKN.out];exact List.take_length)
     have hlt:(j:Int)<(BN:Int)+1:=by omega
     have hj6:j<=65536:=by omega
     have HDROP:Hid (from_ frm (ents (hh+1) (x::B:List (Kid hh)))=from_ frm (ents (hh+1) ((x::B).take (j+1):List (Kid hh)))++from_ frm (ents (hh+1) ((x::B).drop (j+1):List (Kid hh)))):=Hd (by
      rw [<-from_app,<-ents_app,List.take_append_drop])
     clear hjx hy hym hsum hle hfewj hBr hs ha hn hu HI IH hgk hj
     go_wp2_with fail
     refine CL.out.mono ?_
     rintro e w7 ⟨ok,rfl,HE⟩
     obtain ⟨L7,r1,r2⟩:=HE.out
     have hrun:sRun tt limit (from_ frm (ents (hh+1) ((x::B).take (j+1):List (Kid hh)))) L=(L7,ok):=by
      rw [HSUM.out,from_app,sRun_true HS.out];exact r1
     have HRUN:=Hd hrun
     have HGO7:Hid (AccGo base w4 w7 lb v L7):=Hd (AccGo.trans HU.out HN.out r2)
     clear CL k5 r1 r2 hrun HE
     cases ok with
     | false =>
       have HE2:Hid (ScanEnd base W w7 lb v frm tt limit (ents (hh+1) (A++x::B:List (Kid hh))) L false):=Hd ⟨L7,by rw [HF.out,HDROP.out];exact sRun_false HRUN.out,AccGo.below_left BL4.out HGO7.out⟩
       go_wp2_with fail
       go_ret
       first|exact ⟨false,rfl,HE2⟩|exact .inl ⟨rfl,HE2⟩
     | true =>
       go_wp2_with fail
       go_roundg (BN+1-(j+1))
       case measure=>have:=HGK.out;have:=HJL.out;omega
       case rel =>
        obtain ⟨⟨v7,x1,x2⟩,x3⟩:=HGO7.out
        exact ⟨j+1,rfl,HJL.out,by congr 1,Hd ⟨L7,v7,HRUN.out,x1,x2,x3⟩⟩
    ·have hje:j=BN+1:=by omega
     have HE2:Hid (ScanEnd base W wr lb v frm tt limit (ents (hh+1) (A++x::B:List (Kid hh))) L true):=Hd ⟨Lj,by
      rw [HF.out]
      rw [hje,<-HKN.out,List.take_length] at hs
      exact hs,AccGo.below_left BL4.out ⟨⟨vj,ha,hn⟩,hu⟩⟩
     have hlt:¬(j:Int)<(BN:Int)+1:=by omega
     have hlt2:decide ((j:Int)<(BN:Int)+1)=false:=by simp;omega
     have hlt3:((j:Int)<(BN:Int)+1)=False:=by simp;omega
     clear hs ha hn hu HI IH hgk hj
     go_wp2_with fail
     go_ret
     first|exact ⟨true,rfl,HE2⟩|exact .inr ⟨rfl,HE2⟩)
def scanW (w:World):World:=(w.alloc (.cells #[.slice none 0 0] 166)).alloc (.cells #[.int .i64 0] 34)
theorem scanW_below (w:World):Below w.heap.size w (scanW w):=((Below.refl w.heap.size w).alloc (Nat.le_refl _) _).alloc (by simp) _
theorem scanW_size (w:World):(scanW w).heap.size=w.heap.size+2:=by unfold scanW;simp
theorem scanW_acc (w:World):Acc (w.heap.size+2) (scanW w) w.heap.size [] (.slice none 0 0):=by
 refine ⟨?_,⟨rfl,.inl ⟨rfl,rfl⟩⟩,by simp [Value.ownBlock],by simp⟩
 unfold scanW;rw [heap_alloc_at,if_neg (by simp),heap_alloc_new]
theorem scanW_e (w:World):(scanW w).heap[w.heap.size+1]?=some (.cells #[.int .i64 0] 34 (0,0)):=by
 unfold scanW;rw [heap_alloc_at,if_pos (by simp)]
def StK (w w':World) (G:Nat->Prop) (rb n m:Nat) (S:RS):Prop:=RmS w' G rb n m S/\Upd G w w'
theorem StG.keep {w W:World} {G:Nat->Prop} {rb n m:Nat} {S:RS} (h:StG w W G G rb n m S):StK w W G rb n m S:=⟨h.room,h.up⟩
def ScanRes (w w':World) (G:Nat->Prop) (rb n m:Nat) (S:RS) (E:List (ByteArray × ByteArray)) (v:Value):Prop:=w'.ownsRow (w.heap.size+2) 170 2 v E.length (pairC E)/\StK w w' G rb n m S
theorem Scan_none (G:Nat->Prop) (tb rb place n m:Nat) (S:RS) (w:World) (frm tt:ByteArray) (limit:Int) (h:RmS w G rb n m S) (ht:TB w tb rb place) (hg:¬G tb) (hp:place<16) (hm:m<=3900000) (hr:S.root place=0) :
 Calls Tryz.prog 87 #[.pointer (some ⟨tb,0,none⟩),.string frm,.string tt,.int .i64 limit] w fun e w'=>∃ v,e=.returned (.tuple #[v,.int .i64 0])/\Hid (ScanRes w w' G rb n m S [] v):=by
 have hmf:∀ (fn:Fn) (first cap:Array Value) (w:World),(Instr.makeFunc fn first cap).run Tryz.prog w=.ok (.func fn first cap) w:=fun _ _ _ _=>rfl
 have B0:=Hd ((TBase.start h ht hg).below (scanW_below w))
 have HG:=Hd h.lt
 have HM:=Hd hm
 have A0:=Hd (scanW_acc w)
 have E0:=Hd (scanW_e w)
 have S0:=Hd (scanW_size w)
 have RT:=root_c G tb rb place n m S _ B0.out.room B0.out.blk hp (by omega) (by rw [hr];omega)
 rw [hr] at RT
 clear h ht hg hp hm hr
 go_enter_defers Tryz.func87,Tryz.ntmps87
 go_wp2_with fail
 change Calls Tryz.prog 125 #[.pointer (some ⟨tb,0,none⟩)] (scanW w) _
 generalize scanW w=W0 at *
 refine RT.mono ?_
 rintro e w2 ⟨rfl,hb⟩
 have B9:=Hd (B0.out.below hb.out)
 have A9:=Hd (A0.out.below hb.out)
 have E9:Hid (w2.heap[w.heap.size+1]?=some (.cells #[.int .i64 0] 34 (0,0))):=Hd ((hb.out.block _ (lt_of_heap E0.out)).trans E0.out)
 obtain ⟨v9,hv9⟩:=exE (Value.slice none 0 0)
 rw [hv9] at A9
 clear hv9 RT hb
 have hfl:((w2.setCell ⟨w.heap.size,0,none⟩ v9).setCell ⟨w.heap.size+1,0,none⟩ (.int .i64 0)).cell? ⟨w.heap.size,0,none⟩=some v9:=cell_lit ((heap_set_ne _ (by omega)).trans (heap_set_lit A9.out.blk _)) rfl
 have hfe:((w2.setCell ⟨w.heap.size,0,none⟩ v9).setCell ⟨w.heap.size+1,0,none⟩ (.int .i64 0)).cell? ⟨w.heap.size+1,0,none⟩=some (.int .i64 0):=cell_lit (heap_set_lit ((heap_set_ne _ (by omega)).trans E9.out) _) rfl
 have HRES:Hid (ScanRes w ((w2.setCell ⟨w.heap.size,0,none⟩ v9).setCell ⟨w.heap.size+1,0,none⟩ (.int .i64 0)) G rb n m S [] v9):=Hd (by
  refine ⟨ownsRow_of2 A9.out.row fun k hk=>?_,(((StG.of B9.out (Below.refl _ _)).loc (x:=w.heap.size) (Nat.le_refl _) (fun e=>by have:=HG.out _ e;omega) 0 _).loc (x:=w.heap.size+1) (by omega) (fun e=>by have:=HG.out _ e;omega) 0 _).keep⟩
  have h1:=(A9.out.row.lt k hk).1
  exact (heap_set_ne _ (by omega)).trans (heap_set_ne _ (by omega)))
 have m0:w2.cell? ⟨w.heap.size,0,none⟩=some v9:=cell_lit A9.out.blk rfl
 have m1:w2.frozen? ⟨w.heap.size,0,none⟩=false:=frozen_lit A9.out.blk 0
 have m2:w2.cell? ⟨w.heap.size+1,0,none⟩=some (.int .i64 0):=cell_lit E9.out rfl
 have m3:w2.frozen? ⟨w.heap.size+1,0,none⟩=false:=frozen_lit E9.out 0
 obtain ⟨xa,xm,xc,rfl⟩:∃ a b c,v9=.slice a b c:=by
  rcases A9.out.row.2 with ⟨rfl,_⟩|⟨g,cap,cur,rfl,_⟩
  ·exact ⟨_,_,_,rfl⟩
  ·exact ⟨_,_,_,rfl⟩
 clear B0 A0 E0
 go_wp2_with fail
 refine leaves_cons (f:=124) (args:=#[.pointer (some ⟨w.heap.size+1,0,none⟩)]) (by simp) (by simp [go_sem]) ?_
 refine (guard_idle _ _).mono ?_
 rintro e u' wa ⟨rfl,rfl,rfl⟩
 refine leaves_cons (f:=141) (args:=#[.pointer (some ⟨w.heap.size+1,0,none⟩),.pointer (some ⟨w.heap.size,0,none⟩)]) (by simp [settle]) (by simp [go_sem]) ?_
 refine (scan1_idle _ _ _ _ hfe).mono ?_
 rintro e u' wb ⟨rfl,rfl,rfl⟩
 simp [Leaves,settle,results,Tryz.results87,go_sem,hfe,hfl]
 exact HRES
theorem Scan_gen (G:Nat->Prop) (tb rb place n m:Nat) (S:RS) (hh p:Nat) (t:PT hh) (w:World) (frm tt:ByteArray) (limit:Nat) (h:RmS w G rb n m S) (ht:TB w tb rb place) (hg:¬G tb) (hp:place<16) (hm:m<=3900000) (hr:S.root place=p+1) (hT:Tr S hh p t) (hh20:hh<=20) (hl0:(ents hh t).length<=40000000) (hl1:0<limit) (hl2:limit<=9223372036854775807) :
 Calls Tryz.prog 87 #[.pointer (some ⟨tb,0,none⟩),.string frm,.string tt,.int .i64 (limit:Int)] w fun e w'=>∃ v,e=.returned (.tuple #[v,.int .i64 0])/\Hid (ScanRes w w' G rb n m S (sRun tt limit (from_ frm (ents hh t)) []).1 v):=by
 have hmf:∀ (fn:Fn) (first cap:Array Value) (w:World),(Instr.makeFunc fn first cap).run Tryz.prog w=.ok (.func fn first cap) w:=fun _ _ _ _=>rfl
 obtain ⟨RL,hRL⟩:=exE ((sRun tt limit (from_ frm (ents hh t)) []).1)
 rw [hRL]
 have HRL:=Hd hRL
 clear hRL
 have hp65:p<65536:=by
  have:=h.lim p hT.on.top.1
  have:=h.bounds
  unfold pagesN at *;omega
 have B0:=Hd ((TBase.start h ht hg).below (scanW_below w))
 have HG:=Hd h.lt
 have HM:=Hd hm
 have A0:=Hd (scanW_acc w)
 have E0:=Hd (scanW_e w)
 have S0:=Hd (scanW_size w)
 have RT:=root_c G tb rb place n m S _ B0.out.room B0.out.blk hp (by omega) (by rw [hr];omega)
 rw [hr,show (((p+1:Nat):Int)-1)=(p:Int) by omega] at RT
 have HT:=Hd hT
 have HH:=Hd hh20
 have HL0:=Hd hl0
 have HL2:=Hd hl2
 have hlim1:(0:Int)<(limit:Int):=by omega
 have hp0:(0:Int)<=(p:Int):=by omega
 clear h ht hg hp hm hr hT hh20 hl0 hl1 hl2 hp65
 go_enter_defers Tryz.func87,Tryz.ntmps87
 go_wp2_with fail
 change Calls Tryz.prog 125 #[.pointer (some ⟨tb,0,none⟩)] (scanW w) _
 generalize scanW w=W0 at *
 refine RT.mono ?_
 rintro e w2 ⟨rfl,hb⟩
 have B2:=Hd (B0.out.below hb.out)
 have A2:=Hd (A0.out.below hb.out)
 have E2:Hid (w2.heap[w.heap.size+1]?=some (.cells #[.int .i64 0] 34 (0,0))):=Hd ((hb.out.block _ (lt_of_heap E0.out)).trans E0.out)
 have SC0:=scan_c hh w w2 G tb rb place n m S p t frm tt limit w.heap.size 0 (w.heap.size+2) [] (.slice none 0 0) B2.out A2.out (Nat.le_refl _) (by omega) (by have:=hb.out.size;have:=S0.out;omega) HG.out HT.out (by have:=HH.out;omega) HM.out (by have:=HL0.out;simp;omega) (by have:=HL2.out;omega)
 rw [show ((0:Nat):Int)=0 from rfl] at SC0
 have SC:=Hd SC0
 clear RT hb SC0 B0 A0 E0
 go_wp2_with fail
 refine SC.out.mono ?_
 rintro e w9 ⟨ok,rfl,HE⟩
 clear SC
 obtain ⟨L9,hr9,hgo⟩:=HE.out
 obtain rfl:RL=L9:=HRL.out.symm.trans (congrArg Prod.fst hr9)
 have B9:=Hd (B2.out.acc A2.out (Nat.le_refl _) (by omega:w.heap.size<=w.heap.size+2) HG.out hgo)
 obtain ⟨⟨v9,a9,b9⟩,c9⟩:=hgo
 have A9:=Hd a9
 have E9:Hid (w9.heap[w.heap.size+1]?=some (.cells #[.int .i64 0] 34 (0,0))):=Hd (c9.at E2.out fun e=>by
  rcases e with e|e
  ·omega
  ·simp [Value.ownBlock] at e)
 clear a9 b9 c9 hr9 HE B2 A2 E2
 have hfl:((w9.setCell ⟨w.heap.size,0,none⟩ v9).setCell ⟨w.heap.size+1,0,none⟩ (.int .i64 0)).cell? ⟨w.heap.size,0,none⟩=some v9:=cell_lit ((heap_set_ne _ (by omega)).trans (heap_set_lit A9.out.blk _)) rfl
 have hfe:((w9.setCell ⟨w.heap.size,0,none⟩ v9).setCell ⟨w.heap.size+1,0,none⟩ (.int .i64 0)).cell? ⟨w.heap.size+1,0,none⟩=some (.int .i64 0):=cell_lit (heap_set_lit ((heap_set_ne _ (by omega)).trans E9.out) _) rfl
 have HRES:Hid (ScanRes w ((w9.setCell ⟨w.heap.size,0,none⟩ v9).setCell ⟨w.heap.size+1,0,none⟩ (.int .i64 0)) G rb n m S RL v9):=Hd (by
  refine ⟨ownsRow_of2 A9.out.row fun k hk=>?_,(((StG.of B9.out (Below.refl _ _)).loc (x:=w.heap.size) (Nat.le_refl _) (fun e=>by have:=HG.out _ e;omega) 0 _).loc (x:=w.heap.size+1) (by omega) (fun e=>by have:=HG.out _ e;omega) 0 _).keep⟩
  have h1:=(A9.out.row.lt k hk).1
  exact (heap_set_ne _ (by omega)).trans (heap_set_ne _ (by omega)))
 have m0:w9.cell? ⟨w.heap.size,0,none⟩=some v9:=cell_lit A9.out.blk rfl
 have m1:w9.frozen? ⟨w.heap.size,0,none⟩=false:=frozen_lit A9.out.blk 0
 have m2:w9.cell? ⟨w.heap.size+1,0,none⟩=some (.int .i64 0):=cell_lit E9.out rfl
 have m3:w9.frozen? ⟨w.heap.size+1,0,none⟩=false:=frozen_lit E9.out 0
 obtain ⟨xa,xm,xc,rfl⟩:∃ a b c,v9=.slice a b c:=by
  rcases A9.out.row.2 with ⟨rfl,_⟩|⟨g,cap,cur,rfl,_⟩
  ·exact ⟨_,_,_,rfl⟩
  ·exact ⟨_,_,_,rfl⟩
 go_wp2_with fail
 refine leaves_cons (f:=124) (args:=#[.pointer (some ⟨w.heap.size+1,0,none⟩)]) (by simp) (by simp [go_sem]) ?_
 refine (guard_idle _ _).mono ?_
 rintro e u' wa ⟨rfl,rfl,rfl⟩
 refine leaves_cons (f:=141) (args:=#[.pointer (some ⟨w.heap.size+1,0,none⟩),.pointer (some ⟨w.heap.size,0,none⟩)]) (by simp [settle]) (by simp [go_sem]) ?_
 refine (scan1_idle _ _ _ _ hfe).mono ?_
 rintro e u' wb ⟨rfl,rfl,rfl⟩
 simp [Leaves,settle,results,Tryz.results87,go_sem,hfe,hfl]
 exact HRES
def walkV (b c:Nat):Value:=.func (Fn.func 150) #[] #[.pointer (some ⟨b+1,0,none⟩),.pointer (some ⟨b,0,none⟩),.pointer (some ⟨c,0,none⟩),.pointer (some ⟨c+1+1,0,none⟩),.pointer (some ⟨c+1,0,none⟩),.pointer (some ⟨c+1+1+1,0,none⟩)]
structure PgS (base:Nat) (W:World) (b c tb:Nat) (P:List Nat) (v:Value) (lv:Int) (sm:Bool) (la:ByteArray):Prop where
 pg:W.heap[b+1]?=some (.cells #[v] 191 (0,0))
 row:W.ownsRow base 3 1 v P.length (P.map encN)
 tx:W.heap[b]?=some (.cells #[.pointer (some ⟨tb,0,none⟩)] 103 (0,0))
 lf:W.heap[c]?=some (.cells #[.int .i64 lv] 3 (0,0))
 ls:W.heap[c+1]?=some (.cells #[.string la] 9 (0,0))
 so:W.heap[c+1+1]?=some (.cells #[.bool sm] 4 (0,0))
 wk:W.heap[c+1+1+1]?=some (.cells #[walkV b c] 242 (0,0))
 bc:b+3<=c
 cb:c+4<=base
def PgL (b c:Nat) (v:Value) (k:Nat):Prop:=k=b+1\/k=c\/k=c+1\/k=c+1+1\/v.ownBlock=some k
section
variable {base b c tb:Nat} {W W':World} {P:List Nat} {v:Value} {lv:Int} {sm:Bool} {la:ByteArray}
theorem PgS.below (h:PgS base W b c tb P v lv sm la) (hb:Below W.heap.size W W'):PgS base W' b c tb P v lv sm la :=
 ⟨(hb.block _ (lt_of_heap h.pg)).trans h.pg,ownsRow_of h.row fun k e=>hb.block k (h.row.lt k e).2,(hb.block _ (lt_of_heap h.tx)).trans h.tx,(hb.block _ (lt_of_heap h.lf)).trans h.lf,(hb.block _ (lt_of_heap h.ls)).trans h.ls,(hb.block _ (lt_of_heap h.so)).trans h.so,(hb.block _ (lt_of_heap h.wk)).trans h.wk,h.bc,h.cb⟩
theorem PgS.cells (h:PgS base W b c tb P v lv sm la):W.cell? ⟨b+1,0,none⟩=some v/\W.frozen? ⟨b+1,0,none⟩=false/\W.cell? ⟨b,0,none⟩=some (.pointer (some ⟨tb,0,none⟩))/\W.cell? ⟨c,0,none⟩=some (.int .i64 lv)/\W.frozen? ⟨c,0,none⟩=false/\W.cell? ⟨c+1,0,none⟩=some (.string la)/\W.frozen? ⟨c+1,0,none⟩=false/\W.cell? ⟨c+1+1,0,none⟩=some (.bool sm)/\W.frozen? ⟨c+1+1,0,none⟩=false/\W.cell? ⟨c+1+1+1,0,none⟩=some (walkV b c)/\c+1+1+1<W.heap.size :=
 ⟨cell_lit h.pg rfl,frozen_lit h.pg 0,cell_lit h.tx rfl,cell_lit h.lf rfl,frozen_lit h.lf 0,cell_lit h.ls rfl,frozen_lit h.ls 0,cell_lit h.so rfl,frozen_lit h.so 0,cell_lit h.wk rfl,lt_of_heap h.wk⟩
theorem PgS.rowlt (h:PgS base W b c tb P v lv sm la):∀ k,v.ownBlock=some k->base<=k:=fun k e=>(h.row.lt k e).1
theorem PgS.push {W5:World} {v':Value} {p:Nat} (h:PgS base W b c tb P v lv sm la) {Wb:World} (hb:Below W.heap.size W Wb) (ho:W5.ownsRow base 3 1 v' (P.length+1) (P.map encN++[encN p])) (hg:Wb.grownBy W5 v.ownBlock) (hv:v'.ownBlock=v.ownBlock\/v'.ownBlock=some Wb.heap.size) :
 (W5.cell? ⟨b+1,0,none⟩=some v/\W5.frozen? ⟨b+1,0,none⟩=false)/\PgS base (W5.setCell ⟨b+1,0,none⟩ v') b c tb (P++[p]) v' lv sm la/\(∀ k,v'.ownBlock=some k->v.ownBlock=some k\/W.heap.size<=k)/\Upd (PgL b c v) W (W5.setCell ⟨b+1,0,none⟩ v'):=by
 have hA:=h.below hb
 have hu:Upd (fun k=>v.ownBlock=some k) Wb W5:=(Upd.refl _ _).grown hg fun k e=>.inl e
 have hbc:=h.bc
 have hcb:=h.cb
 have nb:∀ k,k<base->¬v.ownBlock=some k:=fun k hk e=>by have:=h.rowlt k e;omega
 have hs:=hb.size
 have hlt:=lt_of_heap h.wk
 have f:∀ k o,k<base->k≠b+1->Wb.heap[k]?=some o->(W5.setCell ⟨b+1,0,none⟩ v').heap[k]?=some o:=fun k o hk hne hko=>(heap_set_ne v' hne).trans (hu.at hko (nb k hk))
 have h5:=hu.at hA.pg (nb _ (by omega))
 refine ⟨⟨cell_lit h5 rfl,frozen_lit h5 0⟩,⟨heap_set_lit h5 v',?_,f _ _ (by omega) (by omega) hA.tx,f _ _ (by omega) (by omega) hA.lf,f _ _ (by omega) (by omega) hA.ls,f _ _ (by omega) (by omega) hA.so,f _ _ (by omega) (by omega) hA.wk,hbc,hcb⟩,fun k hk=>?_,?_⟩
 ·have e1:(P++[p]).length=P.length+1:=by simp
  have e2:(P++[p]).map encN=P.map encN++[encN p]:=by simp
  rw [e1,e2]
  exact ownsRow_of ho fun k hk=>heap_set_ne _ fun e=>by have:=(ho.lt k hk).1;omega
 ·rcases hv with e|e
  ·exact .inl (by rw [<-e];exact hk)
  ·rw [e] at hk;cases hk;exact .inr hs
 ·have u1:Upd (PgL b c v) W Wb:=(hb.upd' (Nat.le_refl _)).mono fun _ _ e=>False.elim e
  exact (u1.trans (hu.mono fun k _ e=>.inr (.inr (.inr (.inr e))))).setCell (p:=⟨b+1,0,none⟩) (.inl (.inl rfl)) v'
theorem PgS.setL (h:PgS base W b c tb P v lv sm la) (x:Int):PgS base (W.setCell ⟨c,0,none⟩ (.int .i64 x)) b c tb P v x sm la/\Upd (PgL b c v) W (W.setCell ⟨c,0,none⟩ (.int .i64 x)):=by
 have hbc:=h.bc
 have hcb:=h.cb
 refine ⟨⟨(heap_set_ne _ (by omega)).trans h.pg,ownsRow_of h.row fun k hk=>heap_set_ne _ fun e=>by have:=h.rowlt k hk;omega,(heap_set_ne _ (by omega)).trans h.tx,heap_set_lit h.lf _,(heap_set_ne _ (by omega)).trans h.ls,(heap_set_ne _ (by omega)).trans h.so,(heap_set_ne _ (by omega)).trans h.wk,hbc,hcb⟩,(Upd.refl _ _).setCell (p:=⟨c,0,none⟩) (.inl (.inr (.inl rfl))) _⟩
theorem PgS.setK (h:PgS base W b c tb P v lv sm la) (x:ByteArray):PgS base ((W.setCell ⟨c+1,0,none⟩ (.string x)).setCell ⟨c+1+1,0,none⟩ (.bool true)) b c tb P v lv true x/\Upd (PgL b c v) W ((W.setCell ⟨c+1,0,none⟩ (.string x)).setCell ⟨c+1+1,0,none⟩ (.bool true)):=by
 have hbc:=h.bc
 have hcb:=h.cb
 have e:∀ k,k≠c+1->k≠c+1+1->((W.setCell ⟨c+1,0,none⟩ (.string x)).setCell ⟨c+1+1,0,none⟩ (.bool true)).heap[k]?=W.heap[k]?:=fun k h1 h2=>(heap_set_ne _ h2).trans (heap_set_ne _ h1)
 refine ⟨⟨(e _ (by omega) (by omega)).trans h.pg,ownsRow_of h.row fun k hk=>e k (by have:=h.rowlt k hk;omega) (by have:=h.rowlt k hk;omega),(e _ (by omega) (by omega)).trans h.tx,(e _ (by omega) (by omega)).trans h.lf,(heap_set_ne _ (by omega)).trans (heap_set_lit h.ls _),heap_set_lit ((heap_set_ne _ (by omega)).trans h.so) _,(e _ (by omega) (by omega)).trans h.wk,hbc,hcb⟩,((Upd.refl _ _).setCell (p:=⟨c+1,0,none⟩) (.inl (.inr (.inr (.inl rfl)))) _).setCell (p:=⟨c+1+1,0,none⟩) (.inl (.inr (.inr (.inr (.inl rfl))))) _⟩
end
def PgGo (base:Nat) (W W':World) (b c tb:Nat) (v:Value) (P':List Nat) (lv':Int) (sm':Bool) (la':ByteArray):Prop :=
 (∃ v',PgS base W' b c tb P' v' lv' sm' la'/\∀ k,v'.ownBlock=some k->v.ownBlock=some k\/W.heap.size<=k)/\Upd (PgL b c v) W W'
theorem PgGo.trans {base b c tb:Nat} {W W1 W2:World} {v v1:Value} {P2:List Nat} {lv2:Int} {sm2:Bool} {la2:ByteArray} (hu:Upd (PgL b c v) W W1) (hn:∀ k,v1.ownBlock=some k->v.ownBlock=some k\/W.heap.size<=k) (h:PgGo base W1 W2 b c tb v1 P2 lv2 sm2 la2):PgGo base W W2 b c tb v P2 lv2 sm2 la2:=by
 obtain ⟨⟨v2,a,bb⟩,cc⟩:=h
 refine ⟨⟨v2,a,fun k hk=>?_⟩,hu.trans' cc fun j hj e=>?_⟩
 ·rcases bb k hk with e|e
  ·exact hn k e
  ·have:=hu.size;exact .inr (by omega)
 ·rcases e with e|e|e|e|e
  ·exact .inl e
  ·exact .inr (.inl e)
  ·exact .inr (.inr (.inl e))
  ·exact .inr (.inr (.inr (.inl e)))
  ·exact .inr (.inr (.inr (.inr ((hn j e).resolve_right (by omega)))))
theorem PgGo.below_left {base b c tb:Nat} {W W1 W2:World} {v:Value} {P2:List Nat} {lv2:Int} {sm2:Bool} {la2:ByteArray} (hb:Below W.heap.size W W1) (h:PgGo base W1 W2 b c tb v P2 lv2 sm2 la2):PgGo base W W2 b c tb v P2 lv2 sm2 la2 :=
 PgGo.trans ((hb.upd' (Nat.le_refl _)).mono fun _ _ e=>False.elim e) (fun k e=>.inl e) h
theorem TBase.pgs {w0 W W':World} {G0 G:Nat->Prop} {tb rb place n m:Nat} {S:RS} (h:TBase w0 W G0 G tb rb place n m S) {base b c tb2:Nat} {P:List Nat} {v:Value} {lv:Int} {sm:Bool} {la:ByteArray} (hp:PgS base W b c tb2 P v lv sm la) (hb:w0.heap.size<=b) (hG:∀ k,G k->k<w0.heap.size) (hu:Upd (PgL b c v) W W'):TBase w0 W' G0 G tb rb place n m S:=by
 have hbc:=hp.bc
 have hcb:=hp.cb
 refine h.node hu fun k hk=>?_
 have:w0.heap.size<=k:=by
  rcases hk with e|e|e|e|e
  ·omega
  ·omega
  ·omega
  ·omega
  ·have:=hp.rowlt k e;omega
 exact ⟨this,fun e'=>by have:=hG k e';omega⟩
def lastK (E:List (ByteArray × ByteArray)) (la:ByteArray):ByteArray:=match E.getLast? with
 | some e=>e.1
 | none=>la
theorem lastK_snoc (E:List (ByteArray × ByteArray)) (e:ByteArray × ByteArray) (la:ByteArray):lastK (E++[e]) la=e.1:=by simp [lastK]
theorem lastK_mem {E:List (ByteArray × ByteArray)} (la:ByteArray) (h:0<E.length):∃ e∈E,lastK E la=e.1:=by
 rcases nil_or_snoc E with rfl|⟨A,z,rfl⟩
 ·simp at h
 ·exact ⟨z,by simp,lastK_snoc A z la⟩
theorem lastK_app {E F:List (ByteArray × ByteArray)} (la la':ByteArray) (h:0<F.length):lastK (E++F) la=lastK F la':=by
 rcases nil_or_snoc F with rfl|⟨A,z,rfl⟩
 ·simp at h
 ·rw [<-List.append_assoc,lastK_snoc,lastK_snoc]
set_option maxHeartbeats 4000000
theorem pg_lit {base b c tb:Nat} {W:World} {P:List Nat} {v:Value} {lv:Int} {sm:Bool} {la:ByteArray} (h:PgS base W b c tb P v lv sm la):∃ a k,v=.slice a P.length k:=by
 rcases h.row.2 with ⟨rfl,h0⟩|⟨g,cap,cur,rfl,-⟩
 ·exact ⟨none,0,by rw [h0]⟩
 ·exact ⟨_,_,rfl⟩
theorem rowi_lit {base:Nat} {W:World} {v:Value} {n:Nat} {xs:List Value} (h:W.ownsRow base 3 1 v n xs):∃ a k,v=.slice a n k:=by
 rcases h.2 with ⟨rfl,h0⟩|⟨g,cap,cur,rfl,-⟩
 ·exact ⟨none,0,by rw [h0]⟩
 ·exact ⟨_,_,rfl⟩
theorem leq_no {k la:ByteArray} (h:kless la k=true):Op.bytesLess k.toList la.toList=false/\(k.toList == la.toList)=false/\(k.toList=la.toList)=False:=by
 have h1:kless k la=false:=kless_asymm h
 have h2:k.toList≠la.toList:=fun e=>by
  have:Op.bytesLess la.toList k.toList=true:=h
  rw [e] at this
  have h3:kless la la=true:=this
  rw [kless_irrefl] at h3;cases h3
 exact ⟨h1,by simpa using h2,by simpa using h2⟩
theorem srt_next {t:List (ByteArray × ByteArray)} (H:Srt t) {j:Nat} {e:ByteArray × ByteArray} (he:t[j]?=some e):e∈t.drop j/\(∀ e'∈t.drop (j+1),kless e.1 e'.1=true)/\t.take (j+1)=t.take j++[e]:=by
 obtain ⟨hj,rfl⟩:=List.getElem?_eq_some_iff.1 he
 have h1:=List.drop_eq_getElem_cons hj
 have h2:Srt (t.drop j):=H.sublist (List.drop_sublist _ _)
 rw [h1] at h2
 exact ⟨by rw [h1];exact List.mem_cons_self,(List.pairwise_cons.1 h2).1,List.take_succ_eq_append_getElem hj⟩
theorem walk_leaf (w0 W:World) (G:Nat->Prop) (tb rb place n m:Nat) (S:RS) (p:Nat) (t:PT 0) (low:ByteArray) (b c deep base:Nat) (P:List Nat) (v:Value) (lv:Int) (sm:Bool) (la:ByteArray) (hB:TBase w0 W G G tb rb place n m S) (hP:PgS base W b c tb P v lv sm la) (hb:w0.heap.size<=b) (hbW:base<=W.heap.size) (hG:∀ k,G k->k<w0.heap.size) (hT:Tr S 0 p t) (hd:deep<=20) (hm:m<=3900000) (hcap:P.length<=100000) (hlv:lv=-1\/lv=(deep:Int)) (hsm:sm=true->∀ e∈ents 0 t,kless la e.1=true) (hlow:∀ e∈ents 0 t,kless e.1 low=false) :
 Calls Tryz.prog 150 #[.int .i64 (p:Int),.int .i64 (deep:Int),.string low,.pointer (some ⟨b+1,0,none⟩),.pointer (some ⟨b,0,none⟩),.pointer (some ⟨c,0,none⟩),.pointer (some ⟨c+1+1,0,none⟩),.pointer (some ⟨c+1,0,none⟩),.pointer (some ⟨c+1+1+1,0,none⟩)] W fun e w'=>e=.returned (.tuple #[])/\Hid (PgGo base W w' b c tb v (P++[p]) (deep:Int) true (lastK (ents 0 t) la)):=by
 have RD:Hid (∀ W',TBase w0 W' G G tb rb place n m S->Calls Tryz.prog 133 #[.pointer (some ⟨tb,0,none⟩),.int .i64 (p:Int)] W' fun e w'=>∃ q,e=.returned (.pointer (some ⟨q,0,none⟩))/\Hid (OneNd W' w' q (nd 0 t))):=Hd fun W' h=>tail_read h (by omega) hT.on hT.fit hT.ok
 have hd1:¬(20:Int)<(deep:Int):=by omega
 have hpos:0<t.length:=by have:=hT.pos;rw [nd_len0] at this;exact this
 have hlab:t.length<=65536:=by have:=hT.ok.few;rw [nd_len0] at this;exact Nat.le_of_lt this
 have HSRT:Hid (Srt t):=Hd hT.wf.srt
 have HB:=Hd hB
 have HP:=Hd hP
 have HG:=Hd hG
 have HBB:=Hd hb
 have HBW:=Hd hbW
 have HLV:=Hd hlv
 have HSM:=Hd hsm
 have HLOW:=Hd hlow
 have HL:Hid (P.length+1<=maxLen/\(P.length+1)*8<=140737488355328):=Hd (by unfold maxLen;omega)
 obtain ⟨jI,hjI,hI0,hI1,hI2⟩:=info_parts infoI
 obtain ⟨va,vc,hv⟩:=pg_lit hP
 have HV:=Hd hv
 subst hv
 have m0:=hP.cells.1
 have hbs:b+1<W.heap.size:=lt_of_heap hP.pg
 have PA:=Hd (hP.below ((Below.refl W.heap.size W).alloc (Nat.le_refl _) (.cells #[.int .i64 (p:Int)] 3)))
 have HBA:Hid (base<=(W.alloc (.cells #[.int .i64 (p:Int)] 3)).heap.size):=Hd (by rw [World.size_alloc];omega)
 clear hB hP hG hT hm hcap hd hbW hb hlv hsm hlow
 go_enter Tryz.func150,Tryz.ntmps150
 go_wp2_with (
  (refine chkA 191 191 ⟨_,_,by with_reducible rfl⟩ ?_
   refine wpList_append_y (by rfl) _ _ _ rfl base 3 jI _ 1 8 Tryz.underlying191 hjI hI0 hI1 hI2 rfl (by decide) _ _ _ (by rfl) PA.out.row _ 1 _ (by rfl) (yields_boxL _ #[.int .i64 (p:Int)] _ 1 1) rfl (one1 _ rfl) HL.out.1 HL.out.2 HBA.out ?_
   intro v5 W5 ho5 hg5 ha5
   have PU:=Hd (HP.out.push (p:=p) ((Below.refl W.heap.size W).alloc (Nat.le_refl _) _) ho5 hg5 ha5)
   obtain ⟨xa,xc,hx5⟩:=rowi_lit ho5
   subst hx5
   have p0:=PU.out.1.1
   have p1:=PU.out.1.2
   have p2:=PU.out.2.1.cells.2.2.1
   clear ho5 hg5 ha5))
 generalize hW2:W5.setCell ⟨b+1,0,none⟩ (.slice xa (P.length+1) xc)=W2 at *
 clear hW2 p0 p1 p2
 have B2:=Hd (HB.out.pgs HP.out HBB.out HG.out PU.out.2.2.2)
 refine (RD.out _ B2.out).mono ?_
 rintro e w3 ⟨q,rfl,HO⟩
 have HOB:=Hd HO.out.below
 have P3:=Hd (PU.out.2.1.below HOB.out)
 have HO3:Hid (∃ F,IsNd w3 F q (nd 0 t)/\∀ k,F k->W2.heap.size<=k):=Hd (by
  obtain ⟨F,a,bb,cc⟩:=HO.out
  exact ⟨F,a,bb⟩)
 obtain ⟨F3,f1,f2⟩:=HO3.out
 have N3:RdIn w3 q (.leaf t) F3:=f1.rdIn
 have c0:w3.cell? ⟨q,0,none⟩=some (.bool true):=by obtain ⟨vk,vv,vi,a,bb⟩:=N3;exact cell_lit a.blk rfl
 obtain ⟨g1,o1,c1,g2,o2,c2,k1,-,hFF,kc⟩:=leaf_cells N3 hpos
 have NL:Hid (∀ wr,Upd (PgL b c (.slice xa (P.length+1) xc)) w3 wr->∀ k i x,F3 k->w3.cell? ⟨k,i,none⟩=some x->wr.cell? ⟨k,i,none⟩=some x):=Hd fun wr hu k i x hk hx=>by
  have h1:=f2 k hk
  refine (World.cell?_of_block (hu.block _ (World.block_lt_of_cell? _ _ hx) fun e=>?_)).trans hx
  have h2:=PU.out.2.1.bc
  have h3:=PU.out.2.1.cb
  have h4:=lt_of_heap PU.out.2.1.wk
  rcases e with e|e|e|e|e
  ·simp only at e;omega
  ·simp only at e;omega
  ·simp only at e;omega
  ·simp only at e;omega
  ·have:=(PU.out.2.1.row.lt _ e).2;simp only at this;omega
 have KC:Hid (∀ wr,Upd (PgL b c (.slice xa (P.length+1) xc)) w3 wr->wr.cell? ⟨q,0,none⟩=some (.bool true)/\∀ i e,t[i]?=some e->wr.cell? ⟨g1,o1+i,none⟩=some (.string e.1)):=Hd fun wr hu=>⟨NL.out wr hu q 0 _ hFF.1 c0,fun i e he=>by
  obtain ⟨hi,rfl⟩:=List.getElem?_eq_some_iff.1 he
  exact NL.out wr hu g1 _ _ hFF.2.1 (kc i hi).1⟩
 have SL:=Hd (P3.out.setL (deep:Int))
 have l0:=P3.out.cells.2.2.2.1
 have l1:=P3.out.cells.2.2.2.2.1
 have k4:=NL.out _ SL.out.2 q 1 _ hFF.1 k1
 have hlen:(t.length:Int)<=65536:=by omega
 clear N3 f1 f2 hFF kc NL HO RD k1
 generalize hTN:t.length=TN at *
 have HTN:=Hd hTN
 clear hTN
 have hdeep:(0:Int)<=(deep:Int):=by omega
 rcases HLV.out with rfl|rfl
 all_goals (
  go_wp2_with fail
  go_loopg [44] TN (fun gg s44 wr=>∃ (j:Nat),gg=TN-j/\j<=TN/\s44=.int .i64 (j:Int)/\Hid (∃ smj laj,PgS base wr b c tb (P++[p]) (.slice xa (P.length+1) xc) (deep:Int) smj laj/\(smj=true->∀ e∈(t:List (ByteArray × ByteArray)).drop j,kless laj e.1=true)/\(0<j->smj=true/\laj=lastK ((t:List (ByteArray × ByteArray)).take j) la)/\Upd (PgL b c (.slice xa (P.length+1) xc)) w3 wr)))
 all_goals (first
  | (case atStart=>exact ⟨0,rfl,Nat.zero_le _,rfl,Hd ⟨sm,la,SL.out.1,(fun hs e he=>HSM.out hs e he),(fun h=>absurd h (Nat.lt_irrefl _)),SL.out.2⟩⟩)
  | skip)
 all_goals (
  obtain ⟨j,hgk,hj,rfl,HI⟩:=hrel
  obtain ⟨smj,laj,ha,hs1,hs2,hu⟩:=HI.out
  have HGK:=Hd hgk
  have HA:=Hd ha
  have HU:=Hd hu
  have HS2:=Hd hs2
  clear hgk HI
  by_cases hjl:j<TN
  ·obtain ⟨e,he⟩:∃ e,(t:List (ByteArray × ByteArray))[j]?=some e:=⟨_,List.getElem?_eq_getElem (by rw [HTN.out];exact hjl)⟩
   obtain ⟨n1,n2,n3⟩:=srt_next HSRT.out he
   have HN2:=Hd n2
   have HN3:=Hd n3
   have hlw:Op.bytesLess e.1.toList low.toList=false:=HLOW.out e (List.mem_of_getElem? he)
   obtain ⟨k5,kx⟩:=KC.out wr hu
   have kx:=kx j e he
   obtain ⟨-,-,-,-,-,m1,m2,m3,m4,-,m5⟩:=ha.cells
   have m6:(wr.setCell ⟨c+1,0,none⟩ (.string e.1)).cell? ⟨c+1+1,0,none⟩=some (.bool smj):=cell_lit ((heap_set_ne _ (by omega)).trans ha.so) rfl
   have m7:(wr.setCell ⟨c+1,0,none⟩ (.string e.1)).frozen? ⟨c+1+1,0,none⟩=false:=frozen_lit ((heap_set_ne _ (by omega)).trans ha.so) 0
   have HK:=Hd (ha.setK e.1)
   have hlt:(j:Int)<(TN:Int):=by omega
   have HJ:=Hd hjl
   have hj6:j<=65536:=by omega
   obtain ⟨ek,hek⟩:=exE (e.1)
   have HEK:=Hd hek
   have HSMJ:Hid (smj=true->kless laj ek=true):=Hd fun h=>by rw [<-hek];exact hs1 h e n1
   rw [hek] at hlw kx m6 m7 HK HN2
   clear ha hs1 hs2 hu n1 n2 n3 he hek hj hjl HA
   cases smj with
   | false =>
     go_wp2_with fail
     go_roundg (TN-(j+1))
     all_goals (first
      | (case measure=>have:=HGK.out;have:=HJ.out;omega)
      | (case rel=>exact ⟨j+1,rfl,HJ.out,by congr 1,Hd ⟨true,ek,HK.out.1,fun _=>HN2.out,fun _=>⟨rfl,by rw [HN3.out,lastK_snoc,HEK.out]⟩,HU.out.trans HK.out.2⟩⟩))
   | true =>
     obtain ⟨q1,q2,q3⟩:=leq_no (HSMJ.out rfl)
     go_wp2_with fail
     go_roundg (TN-(j+1))
     all_goals (first
      | (case measure=>have:=HGK.out;have:=HJ.out;omega)
      | (case rel=>exact ⟨j+1,rfl,HJ.out,by congr 1,Hd ⟨true,ek,HK.out.1,fun _=>HN2.out,fun _=>⟨rfl,by rw [HN3.out,lastK_snoc,HEK.out]⟩,HU.out.trans HK.out.2⟩⟩))
  ·have hje:j=TN:=by omega
   have HRES:Hid (PgGo base W wr b c tb (.slice va P.length vc) (P++[p]) (deep:Int) true (lastK (ents 0 t) la)):=Hd (by
    obtain ⟨hx,hy⟩:=hs2 (by omega)
    subst hx
    rw [hje,<-HTN.out,List.take_length] at hy
    subst hy
    exact PgGo.trans PU.out.2.2.2 PU.out.2.2.1 (PgGo.below_left HOB.out ⟨⟨_,ha,fun k e=>.inl e⟩,hu⟩))
   have hlt:¬(j:Int)<(TN:Int):=by omega
   have hlt2:decide ((j:Int)<(TN:Int))=false:=by simp;omega
   clear ha hs1 hs2 hu hj hje hjl HA
   go_wp2_with fail
   first|(go_end0;exact ⟨rfl,HRES⟩)|(go_end0;go_wp2;exact ⟨rfl,HRES⟩))
theorem inner_cells {W:World} {F:Nat->Prop} {q:Nat} {l:List (ByteArray × Nat)} (h:RdIn W q (.inner l) F) (hp:0<l.length) :
 ∃ g1 o1 c1 g2 o2 c2,W.cell? ⟨q,1,none⟩=some (.slice (some ⟨g1,o1,none⟩) l.length c1)/\W.cell? ⟨q,3,none⟩=some (.slice (some ⟨g2,o2,none⟩) l.length c2)/\(F q/\F g1/\F g2)/\∀ i e,l[i]?=some e->W.cell? ⟨g1,o1+i,none⟩=some (.string e.1)/\W.cell? ⟨g2,o2+i,none⟩=some (.int .i64 (e.2:Int)):=by
 obtain ⟨vk,vv,vi,a,b⟩:=h
 obtain ⟨g1,o1,c1,e1,h1,k1⟩:=a.ks.lit (by simpa [Nd.keys] using hp)
 obtain ⟨g2,o2,c2,e2,h2,k2⟩:=a.is.lit (by simpa [Nd.kids] using hp)
 subst e1 e2
 refine ⟨g1,o1,c1,g2,o2,c2,?_,?_,⟨(b q (.inl rfl)).2,(b g1 (.inr (.inl rfl))).2,(b g2 (.inr (.inr (.inr rfl)))).2⟩,fun i e he=>?_⟩
 ·have:=cell_lit (i:=1) a.blk rfl
  simpa [Nd.keys] using this
 ·have:=cell_lit (i:=3) a.blk rfl
  simpa [Nd.kids] using this
 ·obtain ⟨hi,rfl⟩:=List.getElem?_eq_some_iff.1 he
  refine ⟨?_,?_⟩
  ·have:=k1 i (by simpa [Nd.keys] using hi)
   rw [this];simp [Nd.keys]
  ·have:=k2 i (by simpa [Nd.kids] using hi)
   rw [this];simp [Nd.kids]
theorem kid_next {h:Nat} {l:List (Kid h)} {j:Nat} {y:Kid h} (hy:l[j]?=some y):l=l.take j++y::l.drop (j+1)/\l.drop j=y::l.drop (j+1)/\l.take (j+1)=l.take j++[y]:=by
 obtain ⟨hj,rfl⟩:=List.getElem?_eq_some_iff.1 hy
 have h1:=List.drop_eq_getElem_cons hj
 exact ⟨by rw [<-h1,List.take_append_drop],h1,List.take_succ_eq_append_getElem hj⟩
def pgsL (h:Nat) (l:List (Kid h)):List Nat:=l.flatMap (fun x=>pgs h x.2.1 x.2.2)
theorem pgsL_app (h:Nat) (A B:List (Kid h)):pgsL h (A++B)=pgsL h A++pgsL h B:=by simp [pgsL]
theorem pgsL_one (h:Nat) (y:Kid h):pgsL h [y]=pgs h y.2.1 y.2.2:=by simp [pgsL]
theorem kid_round {h:Nat} {l:List (Kid h)} (HS:Srt (ents (h+1) l)) (HP:Seps h l) (hpos:∀ x∈l,0<(ents h x.2.2).length) {j:Nat} {y:Kid h} (hy:l[j]?=some y) (la laj:ByteArray) (smj:Bool)
 (h1:smj=true->∀ e∈ents (h+1) (l.drop j:List (Kid h)),kless laj e.1=true) :
 (smj=true->∀ e∈ents h y.2.2,kless laj e.1=true)/\(∀ e∈ents (h+1) (l.drop (j+1):List (Kid h)),kless (lastK (ents h y.2.2) laj) e.1=true)/\lastK (ents (h+1) (l.take (j+1):List (Kid h))) la=lastK (ents h y.2.2) laj/\(0<j->∀ e∈ents h y.2.2,kless e.1 y.1=false)/\y∈l:=by
 obtain ⟨e1,e2,e3⟩:=kid_next hy
 have hm:y∈l:=List.mem_of_getElem? hy
 refine ⟨fun hs e he=>h1 hs e ?_,?_,?_,?_,hm⟩
 ·rw [e2];exact (ents_mem h _ e).2 ⟨y,by simp,he⟩
 ·have hd:Srt (ents (h+1) (l.take j:List (Kid h))++(ents h y.2.2++ents (h+1) (l.drop (j+1):List (Kid h)))):=by
   rw [<-ents_mid,<-e1];exact HS
  obtain ⟨e,he,hl⟩:=lastK_mem laj (hpos y hm)
  intro e' he'
  rw [hl]
  exact (List.pairwise_append.1 (List.pairwise_append.1 hd).2.1).2.2 e he e' he'
 ·rw [e3,ents_app,show ents (h+1) ([y]:List (Kid h))=ents h y.2.2 by simp [ents]]
  exact lastK_app la laj (hpos y hm)
 ·intro hj e he
  refine HP.2 y ?_ e he
  cases l with
  | nil=>cases hm
  | cons x l =>
    obtain ⟨i,rfl⟩:∃ i,j=i+1:=⟨j-1,by omega⟩
    exact List.mem_of_getElem? (by simpa using hy)
theorem walk_kept {base:Nat} {W W':World} {b c tb:Nat} {v:Value} {P:List Nat} {lv:Int} {sm:Bool} {la:ByteArray} (h:PgGo base W W' b c tb v P lv sm la):W'.cell? ⟨c+1+1+1,0,none⟩=some (.func (Fn.func 150) #[] #[.pointer (some ⟨b+1,0,none⟩),.pointer (some ⟨b,0,none⟩),.pointer (some ⟨c,0,none⟩),.pointer (some ⟨c+1+1,0,none⟩),.pointer (some ⟨c+1,0,none⟩),.pointer (some ⟨c+1+1+1,0,none⟩)]):=by
 obtain ⟨⟨v',a,-⟩,-⟩:=h
 exact cell_lit a.wk rfl
theorem pgsS (h p:Nat) (l:List (Kid h)):pgs (h+1) p l=p::pgsL h l:=rfl
theorem walk_c:∀ (h:Nat) (w0 W:World) (G:Nat->Prop) (tb rb place n m:Nat) (S:RS) (p:Nat) (t:PT h) (low:ByteArray) (b c deep base:Nat) (P:List Nat) (v:Value) (lv:Int) (sm:Bool) (la:ByteArray) (_:TBase w0 W G G tb rb place n m S) (_:PgS base W b c tb P v lv sm la) (_:w0.heap.size<=b) (_:base<=W.heap.size) (_:∀ k,G k->k<w0.heap.size) (_:Tr S h p t) (_:deep+h<=20) (_:m<=3900000) (_:P.length+(pgs h p t).length<=100000) (_:lv=-1\/lv=((deep+h:Nat):Int)) (_:sm=true->∀ e∈ents h t,kless la e.1=true) (_:∀ e∈ents h t,kless e.1 low=false),
 Calls Tryz.prog 150 #[.int .i64 (p:Int),.int .i64 (deep:Int),.string low,.pointer (some ⟨b+1,0,none⟩),.pointer (some ⟨b,0,none⟩),.pointer (some ⟨c,0,none⟩),.pointer (some ⟨c+1+1,0,none⟩),.pointer (some ⟨c+1,0,none⟩),.pointer (some ⟨c+1+1+1,0,none⟩)] W fun e w'=>e=.returned (.tuple #[])/\Hid (PgGo base W w' b c tb v (P++pgs h p t) ((deep+h:Nat):Int) true (lastK (ents h t) la))
 | 0,w0,W,G,tb,rb,place,n,m,S,p,t,low,b,c,deep,base,P,v,lv,sm,la,hB,hP,hb,hbW,hG,hT,hd,hm,hcap,hlv,hsm,hlow=>walk_leaf w0 W G tb rb place n m S p t low b c deep base P v lv sm la hB hP hb hbW hG hT (by omega) hm (by simp [pgs] at hcap;omega) hlv hsm hlow
 | hh+1,w0,W,G,tb,rb,place,n,m,S,p,t,low,b,c,deep,base,P,v,lv,sm,la,hB,hP,hb,hbW,hG,hT,hd,hm,hcap,hlv,hsm,hlow=>by
   obtain ⟨l,hl⟩:∃ l:List (Kid hh),l=t:=⟨t,rfl⟩
   subst hl
   have RD:Hid (∀ W',TBase w0 W' G G tb rb place n m S->Calls Tryz.prog 133 #[.pointer (some ⟨tb,0,none⟩),.int .i64 (p:Int)] W' fun e w'=>∃ q,e=.returned (.pointer (some ⟨q,0,none⟩))/\Hid (OneNd W' w' q (nd (hh+1) l))):=Hd fun W' h=>tail_read h (by omega) hT.on hT.fit hT.ok
   have IH:Hid (∀ wr Pj vj lvj smj laj lo,∀ y∈l,TBase w0 wr G G tb rb place n m S->PgS base wr b c tb Pj vj lvj smj laj->base<=wr.heap.size->Pj.length+(pgs hh y.2.1 y.2.2).length<=100000->(lvj=-1\/lvj=((deep+(hh+1):Nat):Int))->(smj=true->∀ e∈ents hh y.2.2,kless laj e.1=true)->(∀ e∈ents hh y.2.2,kless e.1 lo=false)->Calls Tryz.prog 150 #[.int .i64 (y.2.1:Int),.int .i64 ((deep:Int)+1),.string lo,.pointer (some ⟨b+1,0,none⟩),.pointer (some ⟨b,0,none⟩),.pointer (some ⟨c,0,none⟩),.pointer (some ⟨c+1+1,0,none⟩),.pointer (some ⟨c+1,0,none⟩),.pointer (some ⟨c+1+1+1,0,none⟩)] wr fun e w'=>e=.returned (.tuple #[])/\Hid (PgGo base wr w' b c tb vj (Pj++pgs hh y.2.1 y.2.2) ((deep+(hh+1):Nat):Int) true (lastK (ents hh y.2.2) laj))):=Hd fun wr Pj vj lvj smj laj lo y hy h1 h2 h3 h4 h5 h6 h7=>by
    have:=walk_c hh w0 wr G tb rb place n m S y.2.1 y.2.2 lo b c (deep+1) base Pj vj lvj smj laj h1 h2 hb h3 hG (hT.kid hy) (by omega) hm h4 (by rw [show deep+1+hh=deep+(hh+1) by omega];exact h5) h6 h7
    rw [show ((deep+1:Nat):Int)=(deep:Int)+1 by omega,show deep+1+hh=deep+(hh+1) by omega] at this
    exact this
   have hd1:¬(20:Int)<(deep:Int):=by omega
   have hd2:deep<=20:=by omega
   have hpos:0<l.length:=by have:=hT.pos;rw [nd_lenS] at this;exact this
   have hlab:l.length<=65536:=by have:=hT.ok.few;rw [nd_lenS] at this;exact Nat.le_of_lt this
   have HSRT:Hid (Srt (ents (hh+1) l)):=Hd hT.wf.srt
   have HSEP:Hid (Seps hh l):=Hd hT.wf.2
   have HKP:Hid (∀ x∈l,0<(ents hh x.2.2).length):=Hd fun x hx=>ents_pos (hT.wf.1 x hx).2.2.2.2 (hT.wf.1 x hx).2.2.1
   have HB:=Hd hB
   have HP:=Hd hP
   have HG:=Hd hG
   have HBB:=Hd hb
   have HBW:=Hd hbW
   have HLV:=Hd hlv
   have HSM:=Hd hsm
   have HLOW:=Hd hlow
   have HCAP:Hid (P.length+1+(pgsL hh l).length<=100000):=Hd (by rw [pgsS] at hcap;simp at hcap;omega)
   have HL:Hid (P.length+1<=maxLen/\(P.length+1)*8<=140737488355328):=Hd (by have:=HCAP.out;unfold maxLen;omega)
   obtain ⟨jI,hjI,hI0,hI1,hI2⟩:=info_parts infoI
   obtain ⟨va,vc,hv⟩:=pg_lit hP
   subst hv
   have m0:=hP.cells.1
   have hbs:b+1<W.heap.size:=lt_of_heap hP.pg
   have PA:=Hd (hP.below ((Below.refl W.heap.size W).alloc (Nat.le_refl _) (.cells #[.int .i64 (p:Int)] 3)))
   have HBA:Hid (base<=(W.alloc (.cells #[.int .i64 (p:Int)] 3)).heap.size):=Hd (by rw [World.size_alloc];omega)
   clear hB hP hG hT hm hcap hd hbW hb hlv hsm hlow
   go_enter Tryz.func150,Tryz.ntmps150
   go_wp2_with (
    (refine chkA 191 191 ⟨_,_,by with_reducible rfl⟩ ?_
     refine wpList_append_y (by rfl) _ _ _ rfl base 3 jI _ 1 8 Tryz.underlying191 hjI hI0 hI1 hI2 rfl (by decide) _ _ _ (by rfl) PA.out.row _ 1 _ (by rfl) (yields_boxL _ #[.int .i64 (p:Int)] _ 1 1) rfl (one1 _ rfl) HL.out.1 HL.out.2 HBA.out ?_
     intro v5 W5 ho5 hg5 ha5
     have PU:=Hd (HP.out.push (p:=p) ((Below.refl W.heap.size W).alloc (Nat.le_refl _) _) ho5 hg5 ha5)
     obtain ⟨xa,xc,hx5⟩:=rowi_lit ho5
     subst hx5
     have p0:=PU.out.1.1
     have p1:=PU.out.1.2
     have p2:=PU.out.2.1.cells.2.2.1
     clear ho5 hg5 ha5))
   generalize hW2:W5.setCell ⟨b+1,0,none⟩ (.slice xa (P.length+1) xc)=W2 at *
   clear hW2 p0 p1 p2
   have B2:=Hd (HB.out.pgs HP.out HBB.out HG.out PU.out.2.2.2)
   refine (RD.out _ B2.out).mono ?_
   rintro e w3 ⟨q,rfl,HO⟩
   have HOB:=Hd HO.out.below
   have P3:=Hd (PU.out.2.1.below HOB.out)
   have B3:=Hd (B2.out.below HOB.out)
   have HO3:Hid (∃ F,IsNd w3 F q (nd (hh+1) l)/\∀ k,F k->W2.heap.size<=k):=Hd (by
    obtain ⟨F,a,bb,cc⟩:=HO.out
    exact ⟨F,a,bb⟩)
   obtain ⟨F3,f1,f2⟩:=HO3.out
   have N3:RdIn w3 q (.inner (l.map (fun x:Kid hh=>(x.1,x.2.1)))) F3:=f1.rdIn
   have c0:w3.cell? ⟨q,0,none⟩=some (.bool false):=by obtain ⟨vk,vv,vi,a,bb⟩:=N3;exact cell_lit a.blk rfl
   obtain ⟨g1,o1,c1,g2,o2,c2,k1,k2,hFF,kc⟩:=inner_cells N3 (by simpa using hpos)
   rw [List.length_map] at k1 k2
   have NL:Hid (∀ wr,Upd (PgL b c (.slice xa (P.length+1) xc)) w3 wr->∀ k i x,F3 k->w3.cell? ⟨k,i,none⟩=some x->wr.cell? ⟨k,i,none⟩=some x):=Hd fun wr hu k i x hk hx=>by
    have h1:=f2 k hk
    refine (World.cell?_of_block (hu.block _ (World.block_lt_of_cell? _ _ hx) fun e=>?_)).trans hx
    have h2:=PU.out.2.1.bc
    have h3:=PU.out.2.1.cb
    have h4:=lt_of_heap PU.out.2.1.wk
    rcases e with e|e|e|e|e
    ·simp only at e;omega
    ·simp only at e;omega
    ·simp only at e;omega
    ·simp only at e;omega
    ·have:=(PU.out.2.1.row.lt _ e).2;simp only at this;omega
   have KC:Hid (∀ wr,Upd (PgL b c (.slice xa (P.length+1) xc)) w3 wr->wr.cell? ⟨q,0,none⟩=some (.bool false)/\wr.cell? ⟨q,3,none⟩=some (.slice (some ⟨g2,o2,none⟩) l.length c2)/\∀ i y,l[i]?=some y->wr.cell? ⟨g1,o1+i,none⟩=some (.string y.1)/\wr.cell? ⟨g2,o2+i,none⟩=some (.int .i64 (y.2.1:Int))):=Hd fun wr hu=>⟨NL.out wr hu q 0 _ hFF.1 c0,NL.out wr hu q 3 _ hFF.1 k2,fun i y hy=>by
    obtain ⟨x1,x2⟩:=kc i (y.1,y.2.1) (by simp [hy])
    exact ⟨NL.out wr hu g1 _ _ hFF.2.1 x1,NL.out wr hu g2 _ _ hFF.2.2 x2⟩⟩
   clear N3 f1 f2 hFF kc NL HO RD k2
   generalize hTN:l.length=TN at *
   have HTN:=Hd hTN
   clear hTN
   go_wp2_with fail
   go_loopg [44] TN (fun gg s44 wr=>∃ (j:Nat),gg=TN-j/\j<=TN/\s44=.int .i64 (j:Int)/\Hid (∃ vj lvj smj laj,PgS base wr b c tb (P++[p]++pgsL hh (l.take j)) vj lvj smj laj/\(∀ k,vj.ownBlock=some k->(Value.slice xa (P.length+1) xc).ownBlock=some k\/w3.heap.size<=k)/\(lvj=-1\/lvj=((deep+(hh+1):Nat):Int))/\(smj=true->∀ e∈ents (hh+1) (l.drop j:List (Kid hh)),kless laj e.1=true)/\(0<j->lvj=((deep+(hh+1):Nat):Int)/\smj=true/\laj=lastK (ents (hh+1) (l.take j:List (Kid hh))) la)/\Upd (PgL b c (.slice xa (P.length+1) xc)) w3 wr))
   case atStart=>exact ⟨0,rfl,Nat.zero_le _,rfl,Hd ⟨_,lv,sm,la,by simpa [pgsL] using P3.out,fun k e=>.inl e,HLV.out,fun hs e he=>HSM.out hs e he,(fun h=>absurd h (Nat.lt_irrefl _)),Upd.refl _ _⟩⟩
   case round =>
    obtain ⟨j,hgk,hj,rfl,HI⟩:=hrel
    obtain ⟨vj,lvj,smj,laj,ha,hn,hl1,hs1,hs2,hu⟩:=HI.out
    have HGK:=Hd hgk
    clear hgk
    by_cases hjl:j<TN
    ·obtain ⟨y,hy⟩:∃ y,l[j]?=some y:=⟨_,List.getElem?_eq_getElem (by rw [HTN.out];exact hjl)⟩
     obtain ⟨n1,n2,n3,n4,hym⟩:=kid_round HSRT.out HSEP.out HKP.out hy la laj smj hs1
     obtain ⟨-,-,e3⟩:=kid_next hy
     obtain ⟨k5,k6,kx⟩:=KC.out wr hu
     obtain ⟨kx',ky⟩:=kx j y hy
     clear kx
     obtain ⟨-,-,-,-,-,-,-,-,-,m5,-⟩:=ha.cells
     unfold walkV at m5
     have hBr:TBase w0 wr G G tb rb place n m S:=by
      have hP3:=P3.out
      exact B3.out.pgs hP3 HBB.out HG.out hu
     have hcp:(P++[p]++pgsL hh (l.take j)).length+(pgs hh y.2.1 y.2.2).length<=100000:=by
      have h1:pgsL hh l=pgsL hh (l.take j)++pgs hh y.2.1 y.2.2++pgsL hh (l.drop (j+1)):=by
       obtain ⟨a1,-,-⟩:=kid_next hy
       conv=>lhs;rw [a1]
       rw [show l.take j++y::l.drop (j+1)=l.take j++[y]++l.drop (j+1) by simp,pgsL_app,pgsL_app,pgsL_one]
      have h2:=HCAP.out
      rw [h1] at h2
      simp at h2 ⊢;omega
     have hd:=(Below.refl wr.heap.size wr).drew
     have hbw:base<=wr.drew.heap.size:=by have:=hu.size;have:=HOB.out.size;have:=PU.out.2.2.2.size;have:=HBW.out;have:=hd.size;omega
     have CLL:∀ lo,(∀ e∈ents hh y.2.2,kless e.1 lo=false)->_:=fun lo hlo=>IH.out wr.drew _ _ _ _ _ lo y hym (hBr.below hd) (ha.below hd) hbw hcp hl1 n1 hlo
     have HUD:Hid (Below wr.heap.size wr wr.drew):=Hd hd
     have HWD:Hid (IntKind.i64.wrap ((deep:Int)+1)=(deep:Int)+1):=Hd (wrap_small (by omega) (by omega))
     have hlt:(j:Int)<(TN:Int):=by omega
     have hj6:j<=65536:=by omega
     have HJ:=Hd hjl
     have HN:=Hd hn
     have HU:=Hd hu
     have HE3:=Hd e3
     have HN2:=Hd n2
     have HN3:=Hd n3
     have HA:=Hd ha
     have HLO:Hid (∃ lo,((j=0/\lo=low)\/(0<j/\lo=y.1))/\∀ e∈ents hh y.2.2,kless e.1 lo=false):=Hd (by
      rcases Nat.eq_zero_or_pos j with h0|h0
      ·exact ⟨low,.inl ⟨h0,rfl⟩,fun e he=>HLOW.out e ((ents_mem hh l e).2 ⟨y,hym,he⟩)⟩
      ·exact ⟨y.1,.inr ⟨h0,rfl⟩,n4 h0⟩)
     obtain ⟨lo,hlo,hlo2⟩:=HLO.out
     have CL:=Hd (CLL lo hlo2)
     have HY:=Hd hy
     clear CLL hlo2 HLO ha hn hl1 hs1 hs2 hu HI IH n1 n2 n3 n4 hym e3 hBr hcp hd hbw hjl hj hy
     have HJD:Hid ((((j:Int) == 0)=true/\lo=low)\/(((j:Int) == 0)=false/\lo=y.1)):=Hd (by
      rcases hlo with ⟨hz,hlo⟩|⟨hz,hlo⟩
      ·exact .inl ⟨by simp;omega,hlo⟩
      ·exact .inr ⟨by simp;omega,hlo⟩)
     clear hlo
     rcases HJD.out with ⟨hz,rfl⟩|⟨hz,rfl⟩
     all_goals (
      go_wp2_with fail
      go_region_held3 (fun w'=>w'.cell? ⟨c+1+1+1,0,none⟩=some (.func (Fn.func 150) #[] #[.pointer (some ⟨b+1,0,none⟩),.pointer (some ⟨b,0,none⟩),.pointer (some ⟨c,0,none⟩),.pointer (some ⟨c+1+1,0,none⟩),.pointer (some ⟨c+1,0,none⟩),.pointer (some ⟨c+1+1+1,0,none⟩)])/\w'.cell? ⟨q,3,none⟩=some (.slice (some ⟨g2,o2,none⟩) TN c2)/\w'.cell? ⟨g2,o2+j,none⟩=some (.int .i64 (y.2.1:Int))) (go_keep) ((go_at_call 150;refine Calls.at_args CL.out (by first|with_reducible rfl|rw [HWD.out]) ?_;rintro e w7 ⟨rfl,HE⟩;have hk7:=walk_kept HE.out;have ⟨_,hk8,hk9⟩:=KC.out w7 (PgGo.trans HU.out HN.out (PgGo.below_left HUD.out HE.out)).2;have hk10:=(hk9 j y HY.out).2;clear hk9)))
     all_goals (
      go_wp2_with fail
      go_roundg (TN-(j+1)))
     all_goals (first
      | (case measure=>have:=HGK.out;have:=HJ.out;omega)
      | (case rel=>
          have HE2:=PgGo.below_left HUD.out HE.out
          obtain ⟨⟨v7,x1,x2⟩,x3⟩:=PgGo.trans HU.out HN.out HE2
          exact ⟨j+1,rfl,HJ.out,by congr 1,Hd ⟨v7,_,true,_,by rw [HE3.out,pgsL_app,pgsL_one,<-List.append_assoc];exact x1,x2,.inr rfl,fun _=>HN2.out,fun _=>⟨rfl,rfl,HN3.out.symm⟩,x3⟩⟩))
    ·have hje:j=TN:=by omega
     have HRES:Hid (PgGo base W wr b c tb (.slice va P.length vc) (P++pgs (hh+1) p l) ((deep+(hh+1):Nat):Int) true (lastK (ents (hh+1) l) la)):=Hd (by
      obtain ⟨hw,hx,hz⟩:=hs2 (by omega)
      subst hx hw
      rw [hje,<-HTN.out,List.take_length] at hz ha
      subst hz
      rw [List.append_assoc] at ha
      exact PgGo.trans PU.out.2.2.2 PU.out.2.2.1 (PgGo.below_left HOB.out ⟨⟨_,ha,hn⟩,hu⟩))
     have hlt:¬(j:Int)<(TN:Int):=by omega
     have hlt2:decide ((j:Int)<(TN:Int))=false:=by simp;omega
     clear ha hn hl1 hs1 hs2 hu HI hj hje hjl
     go_wp2_with fail
     first|(go_end0;exact ⟨rfl,HRES⟩)|(go_end0;go_wp2;exact ⟨rfl,HRES⟩)
theorem Sort_c (base:Nat) (w:World) (v:Value) (P:List Nat) (h:w.ownsRow base 3 1 v P.length (P.map encN)) (hp:0<P.length) (hl:P.length<=100000) :
 Calls Tryz.prog 151 #[v] w fun e w'=>e=.returned (.tuple #[])/\Hid (∃ Q:List Nat,Q.Perm P/\Q.Pairwise (fun a b=>a<=b)/\w'.ownsRow base 3 1 v P.length (Q.map encN)/\w.grownBy w' v.ownBlock):=by
 rcases h.2 with ⟨rfl,h0⟩|⟨g,cap,cur,rfl,h1,h2,h3,h4,h5,h6⟩
 ·omega
 have e1:P.map encN=(P.map fun c:Nat=>(c:Int)).map (Value.int .i64):=by rw [List.map_map];rfl
 have hz:(P.map fun c:Nat=>(c:Int)).length=P.length:=List.length_map _
 rw [Nat.mul_one] at h6
 have hH:=holds_of_blockI (ss:=P.map fun c:Nat=>(c:Int)) h2 (by rw [hz,<-e1];exact h6)
 have hs:=Tryz.slices_Sort_int g 0 cap (P.map fun c:Nat=>(c:Int)) w hH (lt_of_heap h2) (by rw [hz];omega)
 rw [hz] at hs
 refine hs.mono ?_
 rintro e w' ⟨rfl,n,os,rfl⟩
 have hm:(P.map fun c:Nat=>(c:Int)).mergeSort (fun x y=>decide (x<=y))=(P.mergeSort fun x y=>decide (x<=y)).map fun c:Nat=>(c:Int):=by
  rw [List.map_mergeSort]
  intro a _ b _
  simp
 have hpm:(P.mergeSort fun x y=>decide (x<=y)).Perm P:=List.mergeSort_perm _ _
 refine ⟨rfl,Hd ⟨P.mergeSort fun x y=>decide (x<=y),hpm,?_,?_,grownBy_sortedI _⟩⟩
 ·have:=List.pairwise_mergeSort (le:=fun x y:Nat=>decide (x<=y)) (fun a b c h1 h2=>by simp at *;omega) (fun a b=>by simp;omega) P
  exact this.imp fun h=>by simpa using h
 ·rw [hm]
  have hll:((P.mergeSort fun x y=>decide (x<=y)).map fun c:Nat=>(c:Int)).length=(P.map fun c:Nat=>(c:Int)).length:=by rw [List.length_map,List.length_map];exact hpm.length_eq
  have:=ownsRow_sortedI (n:=n) (os:=os) hll h1 h2 (by rw [hz];exact h3) h4 h5
  rw [hz,List.map_map] at this
  exact this
def PagesRes (w w':World) (G:Nat->Prop) (rb n m:Nat) (S:RS) (P:List Nat) (v:Value):Prop :=
 (∃ Q:List Nat,Q.Perm P/\Q.Pairwise (fun a b=>a<=b)/\w'.ownsRow (w.heap.size+3) 3 1 v P.length (Q.map encN))/\StK w w' G rb n m S
structure PgLoc (W:World) (b tb:Nat):Prop where
 b0:W.heap[b]?=some (.cells #[.pointer (some ⟨tb,0,none⟩)] 103 (0,0))
 b1:W.heap[b+1]?=some (.cells #[.slice none 0 0] 191 (0,0))
 b2:W.heap[b+1+1]?=some (.cells #[.int .i64 0] 34 (0,0))
theorem PgLoc.upd {W W':World} {b tb:Nat} {G:Nat->Prop} (h:PgLoc W b tb) (hu:Upd G W W') (hn:∀ k,b<=k->k<b+3->¬G k):PgLoc W' b tb :=
 ⟨hu.at h.b0 (hn _ (by omega) (by omega)),hu.at h.b1 (hn _ (by omega) (by omega)),hu.at h.b2 (hn _ (by omega) (by omega))⟩
theorem PgLoc.below {W W':World} {b tb:Nat} (h:PgLoc W b tb) (hb:Below W.heap.size W W'):PgLoc W' b tb:=h.upd (hb.upd' (Nat.le_refl _)) (fun _ _ _ e=>e)
theorem PgLoc.cells {W:World} {b tb:Nat} (h:PgLoc W b tb):W.cell? ⟨b,0,none⟩=some (.pointer (some ⟨tb,0,none⟩))/\W.cell? ⟨b+1,0,none⟩=some (.slice none 0 0)/\W.cell? ⟨b+1+1,0,none⟩=some (.int .i64 0)/\W.frozen? ⟨b+1,0,none⟩=false/\W.frozen? ⟨b+1+1,0,none⟩=false/\b<W.heap.size/\b+1+1<W.heap.size :=
 ⟨cell_lit h.b0 rfl,cell_lit h.b1 rfl,cell_lit h.b2 rfl,frozen_lit h.b1 0,frozen_lit h.b2 0,lt_of_heap h.b0,lt_of_heap h.b2⟩
def pagesW (w:World) (tb:Nat):World:=((w.alloc (.cells #[.pointer (some ⟨tb,0,none⟩)] 103)).alloc (.cells #[.slice none 0 0] 191)).alloc (.cells #[.int .i64 0] 34)
theorem pagesW_below (w:World) (tb:Nat):Below w.heap.size w (pagesW w tb):=(((Below.refl w.heap.size w).alloc (Nat.le_refl _) _).alloc (by simp) _).alloc (by simp;omega) _
theorem pagesW_size (w:World) (tb:Nat):(pagesW w tb).heap.size=w.heap.size+3:=by unfold pagesW;simp
theorem pagesW_loc (w:World) (tb:Nat):PgLoc (pagesW w tb) w.heap.size tb:=by
 refine ⟨?_,?_,?_⟩
 ·unfold pagesW;rw [heap_alloc_at,if_neg (by simp;omega),heap_alloc_at,if_neg (by simp),heap_alloc_new]
 ·unfold pagesW;rw [heap_alloc_at,if_neg (by simp),heap_alloc_at,if_pos (by simp)]
 ·unfold pagesW;rw [heap_alloc_at,if_pos (by simp)]
theorem Pages_none (G:Nat->Prop) (tb rb place n m:Nat) (S:RS) (w:World) (h:RmS w G rb n m S) (ht:TB w tb rb place) (hg:¬G tb) (hp:place<16) (hm:m<=3900000) (hr:S.root place=0) :
 Calls Tryz.prog 104 #[.pointer (some ⟨tb,0,none⟩)] w fun e w'=>∃ v,e=.returned (.tuple #[v,.int .i64 0])/\Hid (PagesRes w w' G rb n m S [] v):=by
 have hmf:∀ (fn:Fn) (first cap:Array Value) (w:World),(Instr.makeFunc fn first cap).run Tryz.prog w=.ok (.func fn first cap) w:=fun _ _ _ _=>rfl
 have B0:=Hd ((TBase.start h ht hg).below (pagesW_below w tb))
 have HG:=Hd h.lt
 have L0:=pagesW_loc w tb
 have S0:=Hd (pagesW_size w tb)
 have RT:=root_c G tb rb place n m S _ B0.out.room B0.out.blk hp (by omega) (by rw [hr];omega)
 rw [hr] at RT
 have HL0:=Hd L0
 clear h ht hg hp hm hr L0
 go_enter_defers Tryz.func104,Tryz.ntmps104
 go_wp2_with fail
 change Calls Tryz.prog 125 #[.pointer (some ⟨tb,0,none⟩)] (pagesW w tb) _
 generalize pagesW w tb=W0 at *
 refine RT.mono ?_
 rintro e w2 ⟨rfl,hb⟩
 have B9:=Hd (B0.out.below hb.out)
 have L9:=Hd (HL0.out.below hb.out)
 obtain ⟨m0,m1,m2,m3,m4,m5,m6⟩:=L9.out.cells
 have hfl:((w2.setCell ⟨w.heap.size+1,0,none⟩ (.slice none 0 0)).setCell ⟨w.heap.size+1+1,0,none⟩ (.int .i64 0)).cell? ⟨w.heap.size+1,0,none⟩=some (.slice none 0 0):=cell_lit ((heap_set_ne _ (by omega)).trans (heap_set_lit L9.out.b1 _)) rfl
 have hfe:((w2.setCell ⟨w.heap.size+1,0,none⟩ (.slice none 0 0)).setCell ⟨w.heap.size+1+1,0,none⟩ (.int .i64 0)).cell? ⟨w.heap.size+1+1,0,none⟩=some (.int .i64 0):=cell_lit (heap_set_lit ((heap_set_ne _ (by omega)).trans L9.out.b2) _) rfl
 have HRES:Hid (PagesRes w ((w2.setCell ⟨w.heap.size+1,0,none⟩ (.slice none 0 0)).setCell ⟨w.heap.size+1+1,0,none⟩ (.int .i64 0)) G rb n m S [] (.slice none 0 0)):=Hd
  ⟨⟨[],List.Perm.refl _,List.Pairwise.nil,World.ownsRow_nil _ _ _ _⟩,(((StG.of B9.out (Below.refl _ _)).loc (x:=w.heap.size+1) (by omega) (fun e=>by have:=HG.out _ e;omega) 0 _).loc (x:=w.heap.size+1+1) (by omega) (fun e=>by have:=HG.out _ e;omega) 0 _).keep⟩
 clear B0 HL0 RT hb
 go_wp2_with fail
 refine leaves_cons (f:=124) (args:=#[.pointer (some ⟨w.heap.size+1+1,0,none⟩)]) (by simp) (by simp [go_sem]) ?_
 refine (guard_idle _ _).mono ?_
 rintro e u' wa ⟨rfl,rfl,rfl⟩
 refine leaves_cons (f:=149) (args:=#[.pointer (some ⟨w.heap.size+1+1,0,none⟩),.pointer (some ⟨w.heap.size+1,0,none⟩)]) (by simp [settle]) (by simp [go_sem]) ?_
 refine (pages1_idle _ _ _ _ hfe).mono ?_
 rintro e u' wb ⟨rfl,rfl,rfl⟩
 simp [Leaves,settle,results,Tryz.results104,go_sem,hfe,hfl]
 exact HRES
def walkW (w2:World) (b c:Nat):World:=(((w2.alloc (.cells #[.int .i64 (-1)] 3)).alloc (.cells #[.string ⟨#[]⟩] 9)).alloc (.cells #[.bool false] 4)).alloc (.cells #[walkV b c] 242)
theorem walkW_ok {w w2:World} {G:Nat->Prop} {tb rb place n m b c:Nat} {S:RS} (hL:PgLoc w2 w.heap.size tb) (hB:TBase w w2 G G tb rb place n m S) (hb:w.heap.size=b) (hc:w2.heap.size=c) (hbc:b+3<=c) :
 TBase w (walkW w2 b c) G G tb rb place n m S/\PgS (c+4) (walkW w2 b c) b c tb [] (.slice none 0 0) (-1) false ⟨#[]⟩/\(walkW w2 b c).heap.size=c+4/\(walkW w2 b c).heap[b+1+1]?=some (.cells #[.int .i64 0] 34 (0,0)):=by
 subst hb hc
 have hbl:Below w2.heap.size w2 (walkW w2 w.heap.size w2.heap.size):=((((Below.refl w2.heap.size w2).alloc (Nat.le_refl _) _).alloc (by simp) _).alloc (by simp <;> omega) _).alloc (by simp <;> omega) _
 have L:=hL.below hbl
 have hs:(walkW w2 w.heap.size w2.heap.size).heap.size=w2.heap.size+4:=by unfold walkW;simp
 refine ⟨hB.below hbl,⟨L.b1,World.ownsRow_nil _ _ _ _,L.b0,?_,?_,?_,?_,hbc,Nat.le_refl _⟩,hs,L.b2⟩
 ·unfold walkW;rw [heap_alloc_at,if_neg (by simp <;> omega),heap_alloc_at,if_neg (by simp <;> omega),heap_alloc_at,if_neg (by simp),heap_alloc_new]
 ·unfold walkW;rw [heap_alloc_at,if_neg (by simp <;> omega),heap_alloc_at,if_neg (by simp),heap_alloc_at,if_pos (by simp)]
 ·unfold walkW;rw [heap_alloc_at,if_neg (by simp),heap_alloc_at,if_pos (by simp)]
 ·unfold walkW;rw [heap_alloc_at,if_pos (by simp)]
theorem ownsRow_base {w:World} {base base' s n:Nat} {e:TypeId} {v:Value} {xs:List Value} (h:w.ownsRow base e s v n xs) (hb:base'<=base):w.ownsRow base' e s v n xs :=
 ⟨h.1,h.2.imp id fun ⟨g,cap,cur,e1,e2,r⟩=>⟨g,cap,cur,e1,Nat.le_trans hb e2,r⟩⟩
theorem pages_rest {w w4 w9:World} {G:Nat->Prop} {tb rb place n m b c:Nat} {S:RS} {P:List Nat} {lv:Int} {sm:Bool} {la:ByteArray}
 (h4:TBase w w4 G G tb rb place n m S/\PgS (c+4) w4 b c tb [] (.slice none 0 0) (-1) false ⟨#[]⟩/\w4.heap.size=c+4/\w4.heap[b+1+1]?=some (.cells #[.int .i64 0] 34 (0,0)))
 (hgo:PgGo (c+4) w4 w9 b c tb (.slice none 0 0) ([]++P) lv sm la) (hb:w.heap.size=b) (hbc:b+3<=c) (hG:∀ k,G k->k<w.heap.size) :
 ∃ v9,w9.cell? ⟨b+1,0,none⟩=some v9/\b+1<w9.heap.size/\w9.ownsRow (c+4) 3 1 v9 P.length (P.map encN)/\∀ w10,(∃ Q:List Nat,Q.Perm P/\Q.Pairwise (fun a b=>a<=b)/\w10.ownsRow (c+4) 3 1 v9 P.length (Q.map encN)/\w9.grownBy w10 v9.ownBlock) ->
  w10.cell? ⟨b+1,0,none⟩=some v9/\w10.frozen? ⟨b+1,0,none⟩=false/\w10.cell? ⟨b+1+1,0,none⟩=some (.int .i64 0)/\w10.frozen? ⟨b+1+1,0,none⟩=false/\b+1<w10.heap.size/\b+1+1<w10.heap.size /\
  ((w10.setCell ⟨b+1,0,none⟩ v9).setCell ⟨b+1+1,0,none⟩ (.int .i64 0)).cell? ⟨b+1,0,none⟩=some v9/\((w10.setCell ⟨b+1,0,none⟩ v9).setCell ⟨b+1+1,0,none⟩ (.int .i64 0)).cell? ⟨b+1+1,0,none⟩=some (.int .i64 0) /\
  PagesRes w ((w10.setCell ⟨b+1,0,none⟩ v9).setCell ⟨b+1+1,0,none⟩ (.int .i64 0)) G rb n m S P v9:=by
 obtain ⟨hB,hP,hs,he⟩:=h4
 obtain ⟨⟨v9,p9,-⟩,u9⟩:=hgo
 rw [List.nil_append] at p9
 refine ⟨v9,cell_lit p9.pg rfl,lt_of_heap p9.pg,p9.row,?_⟩
 rintro w10 ⟨Q,q1,q2,q3,q4⟩
 have e9:w9.heap[b+1+1]?=some (.cells #[.int .i64 0] 34 (0,0)):=u9.at he fun hk=>by
  rcases hk with e|e|e|e|e
  ·omega
  ·omega
  ·omega
  ·omega
  ·simp [Value.ownBlock] at e
 have hu:Upd (fun k=>v9.ownBlock=some k) w9 w10:=(Upd.refl _ _).grown q4 fun k e=>.inl e
 have hrow:∀ k,v9.ownBlock=some k->c+4<=k:=fun k e=>p9.rowlt k e
 have n1:¬v9.ownBlock=some (b+1):=fun e=>by have:=hrow _ e;omega
 have n2:¬v9.ownBlock=some (b+1+1):=fun e=>by have:=hrow _ e;omega
 have p10:=hu.at p9.pg n1
 have e10:=hu.at e9 n2
 have B9:=hB.pgs hP (by omega) hG u9
 have B10:TBase w w10 G G tb rb place n m S:=B9.node hu fun k hk=>by
  have:=hrow k hk
  exact ⟨by omega,fun e=>by have:=hG k e;omega⟩
 refine ⟨cell_lit p10 rfl,frozen_lit p10 0,cell_lit e10 rfl,frozen_lit e10 0,lt_of_heap p10,lt_of_heap e10,cell_lit ((heap_set_ne _ (by omega)).trans (heap_set_lit p10 _)) rfl,cell_lit (heap_set_lit ((heap_set_ne _ (by omega)).trans e10) _) rfl,⟨Q,q1,q2,?_⟩,?_⟩
 ·refine ownsRow_base (ownsRow_of2 q3 fun k hk=>?_) (by omega:w.heap.size+3<=c+4)
  have:=hrow k hk
  exact (heap_set_ne _ (by omega)).trans (heap_set_ne _ (by omega))
 ·exact (((StG.of B10 (Below.refl _ _)).loc (x:=b+1) (by omega) (fun e=>by have:=hG _ e;omega) 0 _).loc (x:=b+1+1) (by omega) (fun e=>by have:=hG _ e;omega) 0 _).keep
theorem Pages_some (G:Nat->Prop) (tb rb place n m:Nat) (S:RS) (hh p:Nat) (t:PT hh) (w:World) (h:RmS w G rb n m S) (ht:TB w tb rb place) (hg:¬G tb) (hp:place<16) (hm:m<=3900000) (hr:S.root place=p+1) (hT:Tr S hh p t) (hh20:hh<=20) (hl0:(pgs hh p t).length<=100000) :
 Calls Tryz.prog 104 #[.pointer (some ⟨tb,0,none⟩)] w fun e w'=>∃ v,e=.returned (.tuple #[v,.int .i64 0])/\Hid (PagesRes w w' G rb n m S (pgs hh p t) v):=by
 have hmf:∀ (fn:Fn) (first cap:Array Value) (w:World),(Instr.makeFunc fn first cap).run Tryz.prog w=.ok (.func fn first cap) w:=fun _ _ _ _=>rfl
 have hsf:∀ (a:Addr) (fn:Fn) (f c:Array Value) (w:World),(store a (.func fn f c)).run Tryz.prog w=stored Tryz.prog w a (.func fn f c) .plain:=fun a fn f c w=>run_store Tryz.prog w a (.func fn f c) .plain rfl
 have hp65:p<65536:=by
  have:=h.lim p hT.on.top.1
  have:=h.bounds
  unfold pagesN at *;omega
 have B0:=Hd ((TBase.start h ht hg).below (pagesW_below w tb))
 have HG:=Hd h.lt
 have HM:=Hd hm
 have L0:=pagesW_loc w tb
 have S0:=Hd (pagesW_size w tb)
 have RT:=root_c G tb rb place n m S _ B0.out.room B0.out.blk hp (by omega) (by rw [hr];omega)
 rw [hr,show (((p+1:Nat):Int)-1)=(p:Int) by omega] at RT
 have HT:=Hd hT
 have HH:=Hd hh20
 have HL0:=Hd hl0
 have HLC:=Hd L0
 have hp0:(0:Int)<=(p:Int):=by omega
 clear h ht hg hp hm hr hT hh20 hl0 hp65 L0
 go_enter_defers Tryz.func104,Tryz.ntmps104
 go_wp2_with fail
 change Calls Tryz.prog 125 #[.pointer (some ⟨tb,0,none⟩)] (pagesW w tb) _
 generalize pagesW w tb=W0 at *
 refine RT.mono ?_
 rintro e w2 ⟨rfl,hb⟩
 have B2:=Hd (B0.out.below hb.out)
 have L2:=Hd (HLC.out.below hb.out)
 obtain ⟨m0,m1,m2,m3,m4,m5,m6⟩:=L2.out.cells
 obtain ⟨b,hbe⟩:=exE (w.heap.size)
 obtain ⟨c,hce⟩:=exE (w2.heap.size)
 have HBE:=Hd hbe
 have HBC:Hid (b+3<=c):=Hd (by have:=hb.out.size;have:=S0.out;omega)
 have HW4:=Hd (walkW_ok (w:=w) L2.out B2.out hbe hce HBC.out)
 have WK:=Hd (walk_c hh w (walkW w2 b c) G tb rb place n m S p t ⟨#[]⟩ b c 0 (c+4) [] (.slice none 0 0) (-1) false ⟨#[]⟩ HW4.out.1 HW4.out.2.1 (by omega) (by have:=HW4.out.2.2.1;omega) HG.out HT.out (by have:=HH.out;omega) HM.out (by have:=HL0.out;simpa using this) (.inl rfl) (fun e=>by cases e) (fun e _=>kless_empty e.1))
 clear RT hb B0 HLC
 go_wp2_with fail
 subst hce
 try rw [hbe]
 change Calls Tryz.prog 150 _ (walkW w2 b w2.heap.size) _
 refine WK.out.mono ?_
 rintro e w9 ⟨rfl,HE⟩
 have HK:=Hd (pages_rest (w:=w) HW4.out HE.out hbe HBC.out HG.out)
 clear HW4 WK HE m0 m1 m2 m3 m4 m5 m6 L2 B2
 obtain ⟨v9,hc9,hl9,hr9,hk9⟩:=HK.out
 have HR9:=Hd hr9
 have HK9:=Hd hk9
 have SO:=Hd (Sort_c _ _ _ _ hr9 (List.length_pos_of_mem (pgs_mem hh p t)) HL0.out)
 clear hr9 hk9 HK
 go_wp2_with fail
 refine SO.out.mono ?_
 rintro e w10 ⟨rfl,HQ⟩
 obtain ⟨xa,xm,xc,hv9⟩:∃ a m c,v9=.slice a m c:=by
  rcases HR9.out.2 with ⟨rfl,_⟩|⟨g,cap,cur,rfl,_⟩
  ·exact ⟨_,_,_,rfl⟩
  ·exact ⟨_,_,_,rfl⟩
 have HF:=Hd (HK9.out w10 HQ.out)
 obtain ⟨m0,m1,m2,m3,m4,m5,hfl,hfe,hres⟩:=HF.out
 have HRES:=Hd hres
 subst hv9
 clear SO HR9 HK9 HQ HF hres hc9 hl9
 go_wp2_with fail
 refine leaves_cons (f:=124) (args:=#[.pointer (some ⟨b+1+1,0,none⟩)]) (by simp) (by simp [go_sem]) ?_
 refine (guard_idle _ _).mono ?_
 rintro e u' wa ⟨rfl,rfl,rfl⟩
 refine leaves_cons (f:=149) (args:=#[.pointer (some ⟨b+1+1,0,none⟩),.pointer (some ⟨b+1,0,none⟩)]) (by simp [settle]) (by simp [go_sem]) ?_
 refine (pages1_idle _ _ _ _ hfe).mono ?_
 rintro e u' wb ⟨rfl,rfl,rfl⟩
 simp [Leaves,settle,results,Tryz.results104,go_sem,hfe,hfl]
 exact HRES
set_option maxHeartbeats 1000000
def RSt (w1 w:World) (K:Nat->Prop) (rb n m:Nat) (S:RS):Prop :=
 ∃ G,RmS w G rb n m S/\(∀ k,G k->w1.heap.size<=k)/\(∀ k,K k->k<w.heap.size/\¬G k)/\Below w1.heap.size w1 w
def Kept (K:Nat->Prop) (w w':World):Prop:=∀ k,K k->w'.heap[k]?=w.heap[k]?
section
variable {w1 w w':World} {K:Nat->Prop} {rb n m:Nat} {S:RS}
theorem Kept.trans {w2:World} (h:Kept K w w') (g:Kept K w' w2):Kept K w w2:=fun k hk=>(g k hk).trans (h k hk)
theorem Kept.mono {K':Nat->Prop} (h:Kept K w w') (hK:∀ k,K' k->K k):Kept K' w w':=fun k hk=>h k (hK k hk)
theorem Kept.tb {tb place:Nat} (h:Kept K w w') (ht:TB w tb rb place) (hk:K tb):TB w' tb rb place:=(h tb hk).trans ht
theorem RSt.below (h:RSt w1 w K rb n m S) (hb:Below w.heap.size w w'):RSt w1 w' (fun k=>K k\/(w.heap.size<=k/\k<w'.heap.size)) rb n m S/\Kept K w w':=by
 obtain ⟨G,a,b,d,e⟩:=h
 refine ⟨⟨G,a.below hb,b,fun k hk=>?_,e.trans (hb.mono e.size)⟩,fun k hk=>hb.block k (d k hk).1⟩
 rcases hk with hk|hk
 ·exact ⟨Nat.lt_of_lt_of_le (d k hk).1 hb.size,(d k hk).2⟩
 ·exact ⟨hk.2,fun hg=>by have:=a.lt k hg;omega⟩
theorem RSt.mono {K':Nat->Prop} (h:RSt w1 w K rb n m S) (hK:∀ k,K' k->K k):RSt w1 w K' rb n m S:=by
 obtain ⟨G,a,b,d,e⟩:=h
 exact ⟨G,a,b,fun k hk=>d k (hK k hk),e⟩
theorem RSt.more {m':Nat} (h:RSt w1 w K rb n m S) (hm:m<=m'):RSt w1 w K rb n m' S:=by
 obtain ⟨G,a,b,d,e⟩:=h
 exact ⟨G,a.more hm,b,d,e⟩
theorem RSt.bel (h:RSt w1 w K rb n m S):Below w1.heap.size w1 w:=by obtain ⟨G,a,b,d,e⟩:=h;exact e
theorem RSt.of {G:Nat->Prop} {S':RS} {m':Nat} (b:∀ k,G k->w1.heap.size<=k) (d:∀ k,K k->k<w.heap.size/\¬G k) (e:Below w1.heap.size w1 w) (h:StGo w w' G rb n m' S'):RSt w1 w' K rb n m' S'/\Kept K w w':=by
 obtain ⟨G',r,t⟩:=h
 have hs:=e.size
 refine ⟨⟨G',r,fun k hk=>?_,fun k hk=>⟨Nat.lt_of_lt_of_le (d k hk).1 t.upd.size,fun hg=>?_⟩,e.trans (t.upd.below hs fun k hk hg=>by have:=b k hg;omega)⟩,fun k hk=>t.upd.block k (d k hk).1 (d k hk).2⟩
 ·rcases t.sub k hk with h1|h1
  ·exact b k h1
  ·omega
 ·rcases t.sub k hg with h1|h1
  ·exact (d k hk).2 h1
  ·have:=(d k hk).1;omega
theorem RSt.ofK {G:Nat->Prop} {S':RS} {m':Nat} (a:RmS w G rb n m S) (b:∀ k,G k->w1.heap.size<=k) (d:∀ k,K k->k<w.heap.size/\¬G k) (e:Below w1.heap.size w1 w) (h:StK w w' G rb n m' S'):RSt w1 w' (fun k=>K k\/(w.heap.size<=k/\k<w'.heap.size)) rb n m' S'/\Kept K w w':=by
 have hs:=e.size
 refine ⟨⟨G,h.1,b,fun k hk=>?_,e.trans (h.2.below hs fun k hk hg=>by have:=b k hg;omega)⟩,fun k hk=>h.2.block k (d k hk).1 (d k hk).2⟩
 rcases hk with hk|hk
 ·exact ⟨Nat.lt_of_lt_of_le (d k hk).1 h.2.size,(d k hk).2⟩
 ·exact ⟨hk.2,fun hg=>by have:=a.lt k hg;omega⟩
end
theorem nodup_len:∀ (N:Nat) (P:List Nat),P.Nodup->(∀ q∈P,q<N)->P.length<=N
 | 0,P,_,h=>by
   cases P with
   | nil=>simp
   | cons x P=>exact absurd (h x (by simp)) (Nat.not_lt_zero _)
 | N+1,P,hn,h=>by
   by_cases hN:N∈P
   ·have hl:=List.length_erase_of_mem hN
    have hp:=List.length_pos_of_mem hN
    have:=nodup_len N (P.erase N) (hn.erase N) fun q hq=>by
     have h1:=(hn.mem_erase_iff).1 hq
     have:=h q h1.2
     have:=h1.1
     omega
    omega
   ·have:=nodup_len N P hn fun q hq=>by
     have:=h q hq
     have:q≠N:=fun e=>hN (e ▸ hq)
     omega
    omega
theorem TreeSt.few {S:RS} {place n m rb:Nat} {o:Option TT} {w:World} {G:Nat->Prop} (h:TreeSt S place o) (hr:RmS w G rb n m S):(pgsO o).length<=100000:=by
 cases o with
 | none=>simp [pgsO]
 | some T =>
   have h1:=nodup_len (pagesN n) _ h.2.nod fun q hq=>hr.lim q (h.2.on.used q hq)
   have h2:=hr.bounds
   show (pgs T.h T.p T.t).length<=100000
   unfold pagesN at *;omega
section
variable (w1 w:World) (K:Nat->Prop) (tb rb place n m:Nat) (S:RS) (o:Option TT)
theorem put_r (k:Nat) (key val:ByteArray) (h:RSt w1 w K rb n m S) (ht:TB w tb rb place) (hK:K tb) (ho:TreeSt S place o) (hs:Spare S n (k+2)) (hp:place<16) (hm:m<=3900000) (hks:key.size<=96) (hvs:val.size<=56) (hk20:k<=20) (hh:hgtO o<=k) :
 Calls Tryz.prog 71 #[.pointer (some ⟨tb,0,none⟩),.string key,.string val] w fun e w'=>e=.returned (.int .i64 0)/\Hid (∃ S' o',RSt w1 w' K rb n (m+100) S'/\Kept K w w'/\PutGo place n S S' o o' key val):=by
 obtain ⟨G,a,b,d,e⟩:=h
 have fin:∀ w',PutEnd w w' G rb n m place S o key val->∃ S' o',RSt w1 w' K rb n (m+100) S'/\Kept K w w'/\PutGo place n S S' o o' key val:=fun w' ⟨S',o',hs,hg⟩ =>
  ⟨S',o',(RSt.of b d e hs).1,(RSt.of b d e hs).2,hg⟩
 cases o with
 | none =>
   refine (Put_new G tb rb place n m S key val w a ht (d tb hK).2 hp hm hks hvs ho (hs.less (by omega))).mono ?_
   rintro e w' ⟨rfl,hE⟩
   exact ⟨rfl,Hd (fin w' hE.out)⟩
 | some T =>
   have hT:T.h<=k:=hh
   refine (Put_old G tb rb place n m S T key val w a ht (d tb hK).2 hp hm hks hvs ho (by omega) (hs.less (by omega))).mono ?_
   rintro e w' ⟨rfl,hE⟩
   exact ⟨rfl,Hd (fin w' hE.out)⟩
theorem del_r (key:ByteArray) (h:RSt w1 w K rb n m S) (ht:TB w tb rb place) (hK:K tb) (ho:TreeSt S place o) (hp:place<16) (hm:m<=3900000) (hh:hgtO o<=20) :
 Calls Tryz.prog 74 #[.pointer (some ⟨tb,0,none⟩),.string key] w fun e w'=>∃ was:Bool,e=.returned (.tuple #[.bool was,.int .i64 0])/\Hid (∃ S' o',RSt w1 w' K rb n (m+300) S'/\Kept K w w'/\((was=true/\DelGo place n S S' o o' key)\/(was=false/\S'=S/\o'=o/\∀ e∈entsO o,e.1≠key))):=by
 obtain ⟨G,a,b,d,e⟩:=h
 have fin:∀ w' was,DelEnd w w' G rb n m place S o key was->∃ S' o',RSt w1 w' K rb n (m+300) S'/\Kept K w w'/\((was=true/\DelGo place n S S' o o' key)\/(was=false/\S'=S/\o'=o/\∀ e∈entsO o,e.1≠key)):=fun w' was hE=>by
  cases was with
  | true =>
    unfold DelEnd at hE
    rw [if_pos rfl] at hE
    obtain ⟨S',o',hs,hg⟩:=hE
    exact ⟨S',o',(RSt.of b d e hs).1,(RSt.of b d e hs).2,.inl ⟨rfl,hg⟩⟩
  | false =>
    unfold DelEnd at hE
    rw [if_neg (by simp)] at hE
    exact ⟨S,o,(RSt.of b d e hE.1).1,(RSt.of b d e hE.1).2,.inr ⟨rfl,rfl,rfl,hE.2⟩⟩
 cases o with
 | none =>
   refine (Delete_none G tb rb place n m S key w a ht (d tb hK).2 hp hm ho).mono ?_
   rintro e w' ⟨was,rfl,hE⟩
   exact ⟨was,rfl,Hd (fin w' was hE.out)⟩
 | some T =>
   refine (Delete_some G tb rb place n m S T.h T.p T.t key w a ht (d tb hK).2 hp hm ho.1 ho.2 hh).mono ?_
   rintro e w' ⟨was,rfl,hE⟩
   exact ⟨was,rfl,Hd (fin w' was hE.out)⟩
theorem get_r (key:ByteArray) (h:RSt w1 w K rb n m S) (ht:TB w tb rb place) (hK:K tb) (ho:TreeSt S place o) (hp:place<16) (hm:m<=3900000) (hh:hgtO o<=19) :
 Calls Tryz.prog 115 #[.pointer (some ⟨tb,0,none⟩),.string key] w fun e w'=>∃ v ok,e=.returned (.tuple #[.string v,.bool ok,.int .i64 0])/\Got key (entsO o) v ok/\Hid (RSt w1 w' K rb n m S/\Kept K w w'):=by
 obtain ⟨G,a,b,d,e⟩:=h
 cases o with
 | none =>
   refine (Get_none G tb rb place n m S key w a ht (d tb hK).2 hp hm ho).mono ?_
   rintro e' w' ⟨v,ok,rfl,hg,hE⟩
   exact ⟨v,ok,rfl,hg,Hd (RSt.of b d e hE.out)⟩
 | some T =>
   refine (Get_some G tb rb place n m S T.h T.p T.t key w a ht (d tb hK).2 hp hm ho.1 ho.2 hh).mono ?_
   rintro e' w' ⟨v,ok,rfl,hg,hE⟩
   exact ⟨v,ok,rfl,hg,Hd (RSt.of b d e hE.out)⟩
def ReadK (w1 w w':World) (K:Nat->Prop) (rb n m:Nat) (S:RS):Prop:=RSt w1 w' (fun k=>K k\/(w.heap.size<=k/\k<w'.heap.size)) rb n m S/\Kept K w w'
theorem scan_g (frm tt:ByteArray) (limit:Nat) (h:RSt w1 w K rb n m S) (ht:TB w tb rb place) (hK:K tb) (ho:TreeSt S place o) (hp:place<16) (hm:m<=3900000) (hh:hgtO o<=20) (hl0:(entsO o).length<=40000000) (hl1:0<limit) (hl2:limit<=9223372036854775807) :
 Calls Tryz.prog 87 #[.pointer (some ⟨tb,0,none⟩),.string frm,.string tt,.int .i64 (limit:Int)] w fun e w'=>∃ v,e=.returned (.tuple #[v,.int .i64 0])/\Hid (w'.ownsRow (w.heap.size+2) 170 2 v (sRun tt limit (from_ frm (entsO o)) []).1.length (pairC (sRun tt limit (from_ frm (entsO o)) []).1)/\ReadK w1 w w' K rb n m S):=by
 obtain ⟨G,a,b,d,e⟩:=h
 cases o with
 | none =>
   refine (Scan_none G tb rb place n m S w frm tt limit a ht (d tb hK).2 hp hm ho).mono ?_
   rintro e' w' ⟨v,rfl,hE⟩
   exact ⟨v,rfl,Hd ⟨hE.out.1,RSt.ofK a b d e hE.out.2⟩⟩
 | some T =>
   refine (Scan_gen G tb rb place n m S T.h T.p T.t w frm tt limit a ht (d tb hK).2 hp hm ho.1 ho.2 hh hl0 hl1 hl2).mono ?_
   rintro e' w' ⟨v,rfl,hE⟩
   exact ⟨v,rfl,Hd ⟨hE.out.1,RSt.ofK a b d e hE.out.2⟩⟩
theorem pages_r (h:RSt w1 w K rb n m S) (ht:TB w tb rb place) (hK:K tb) (ho:TreeSt S place o) (hp:place<16) (hm:m<=3900000) (hh:hgtO o<=20) :
 Calls Tryz.prog 104 #[.pointer (some ⟨tb,0,none⟩)] w fun e w'=>∃ v,e=.returned (.tuple #[v,.int .i64 0])/\Hid ((∃ Q:List Nat,Q.Perm (pgsO o)/\Q.Pairwise (fun a b=>a<=b)/\w'.ownsRow (w.heap.size+3) 3 1 v (pgsO o).length (Q.map encN))/\ReadK w1 w w' K rb n m S):=by
 obtain ⟨G,a,b,d,e⟩:=h
 have hf:=ho.few a
 cases o with
 | none =>
   refine (Pages_none G tb rb place n m S w a ht (d tb hK).2 hp hm ho).mono ?_
   rintro e' w' ⟨v,rfl,hE⟩
   exact ⟨v,rfl,Hd ⟨hE.out.1,RSt.ofK a b d e hE.out.2⟩⟩
 | some T =>
   refine (Pages_some G tb rb place n m S T.h T.p T.t w a ht (d tb hK).2 hp hm ho.1 ho.2 hh hf).mono ?_
   rintro e' w' ⟨v,rfl,hE⟩
   exact ⟨v,rfl,Hd ⟨hE.out.1,RSt.ofK a b d e hE.out.2⟩⟩
theorem check_r (h:RSt w1 w K rb n m S) (ht:TB w tb rb place) (hK:K tb) (ho:TreeSt S place o) (hp:place<16) (hm:m<=3900000) (hh:hgtO o<=20) :
 Calls Tryz.prog 52 #[.pointer (some ⟨tb,0,none⟩)] w fun e w'=>e=.returned (.tuple #[.int .i64 ((pgsO o).length:Int),.int .i64 0])/\Hid (ReadK w1 w w' K rb n m S):=by
 have hs:=Hd (pages_r w1 w K tb rb place n m S o h ht hK ho hp hm hh)
 clear h
 go_enter Tryz.func52,Tryz.ntmps52
 go_wp2_with fail
 refine hs.out.mono ?_
 rintro e w2 ⟨v,rfl,hr⟩
 obtain ⟨a,k,rfl⟩:∃ a k,v=.slice a (pgsO o).length k:=by
  obtain ⟨⟨Q,-,-,h⟩,-⟩:=hr.out
  exact rowi_lit h
 go_wp2_with fail
 go_ret2
 exact ⟨rfl,hr.out.2⟩
end
section
variable (w1 w:World) (tb rb place n m c:Nat) (o:Option TT)
end
theorem At_c (rb place:Nat) (w:World):Calls Tryz.prog 51 #[.pointer (some ⟨rb,0,none⟩),.int .i64 (place:Int)] w fun e w'=>e=.returned (.pointer (some ⟨w.heap.size,0,none⟩))/\Hid (TB w' w.heap.size rb place/\Below w.heap.size w w'):=by
 go_enter Tryz.func51,Tryz.ntmps51
 go_wp2_with fail
 go_ret
 exact ⟨rfl,heap_alloc_new _ _,(Below.refl w.heap.size w).alloc (Nat.le_refl _) _⟩
theorem pigeon_spare (n:Nat) (c:Nat) (h:c<=pagesN n):Spare ⟨fun _=>0,fun _=>false,fun _=>pad0,[]⟩ n c:=⟨[],fun q hq=>(by cases hq),by simpa using h⟩
theorem NewRoom.of {w1 wa wb wc wd:World} {FL G:Nat->Prop} {lb rb n tx:Nat} (ha:Below w1.heap.size w1 wa) (h1:IsLog wb FL lb n/\(∀ k,FL k->wa.heap.size<=k)/\Below wa.heap.size wa wb) (h2:IsTx wc (fun k=>k=wb.heap.size+1\/k=wb.heap.size) tx lb []/\Below wb.heap.size wb wc)
 (h3:Rm wd G rb n []/\(∀ k,G k->(FL k\/(k=wb.heap.size+1\/k=wb.heap.size))\/wc.heap.size<=k)/\Below wc.heap.size wc wd):NewRoom w1 wd G rb n:=by
 have s1:=ha.size
 have s2:=h1.2.2.size
 have s3:=h2.2.size
 refine ⟨h3.1,fun k hk=>?_,((ha.trans (h1.2.2.mono s1)).trans (h2.2.mono (by omega))).trans (h3.2.2.mono (by omega))⟩
 rcases h3.2.1 k hk with (e|e|e)|e
 ·have:=h1.2.1 k e;omega
 ·omega
 ·omega
 ·omega
theorem chg_new {wa wb wc:World} {FL:Nat->Prop} {lb n tx:Nat} (h1:IsLog wb FL lb n/\(∀ k,FL k->wa.heap.size<=k)/\Below wa.heap.size wa wb) (h2:IsTx wc (fun k=>k=wb.heap.size+1\/k=wb.heap.size) tx lb []/\Below wb.heap.size wb wc):Chg wc FL (fun k=>k=wb.heap.size+1\/k=wb.heap.size) tx lb n [] :=
 ⟨h1.1.below h2.2,h2.1,fun k hk e=>by have:=h1.1.lt k hk;omega⟩
theorem RSt.start {w1 w:World} {G:Nat->Prop} {rb n:Nat} (h:NewRoom w1 w G rb n) (h4:4<=n):RSt w1 w (fun _=>False) rb n 0 ⟨fun _=>0,fun _=>false,fun _=>pad0,[]⟩ :=
 ⟨G,⟨[],Nat.le_refl _,h.1,Rep.start n h4⟩,h.2.1,fun _ hk=>hk.elim,h.2.2⟩
def sgn64 (i:Int):Nat:=(i%18446744073709551616).toNat
theorem sgn64_lt (i:Int):sgn64 i<18446744073709551616:=by unfold sgn64;omega
theorem sgn64_wrap (i:Int):IntKind.u64.wrap i=(sgn64 i:Int):=by
 unfold sgn64
 simp [IntKind.wrap,IntKind.bits,IntKind.signed]
 omega
theorem sgn64_back (i:Int) (h1:-4611686018427387904<=i) (h2:i<=4611686018427387904):IntKind.i64.wrap (sgn64 i:Int)=i:=by
 unfold sgn64
 simp [IntKind.wrap,IntKind.bits,IntKind.signed]
 omega
structure Ck where
 id:ByteArray
 page:Nat
 cnt:Int
 text:ByteArray
def kindsC:ByteArray:=⟨#[104,98,110]⟩
def Ck.flds (c:Ck):List Fld:=[(c.page,⟨#[]⟩),(c.text.size,⟨#[]⟩),(sgn64 c.cnt,⟨#[]⟩)]
def Ck.bytes (c:Ck):List UInt8:=be c.page 4++(be c.text.size 1++be (sgn64 c.cnt) 8)
def Ck.val (c:Ck):ByteArray:=⟨c.bytes.toArray⟩
structure Ck.Ok (c:Ck):Prop where
 id:c.id.size=33
 page:c.page<65536
 t1:1<=c.text.size
 t2:c.text.size<=128
 c1:-1000000000<=c.cnt
 c2:c.cnt<=1000000000
theorem ck_one (n:Nat) (h:n<256):wr1 98 (n,⟨#[]⟩)=some (be n 1):=by
 rw [wr1_num 98 1 n ⟨#[]⟩ (by decide) (by decide)]
 rw [if_neg];rintro (e|e)
 ·exact e rfl
 ·omega
theorem ck_four (n:Nat) (h:n<4294967296):wr1 104 (n,⟨#[]⟩)=some (be n 4):=by
 rw [wr1_num 104 4 n ⟨#[]⟩ (by decide) (by decide)]
 rw [if_neg];rintro (e|e)
 ·exact e rfl
 ·omega
theorem ck_eight (n:Nat) (h:n<18446744073709551616):wr1 110 (n,⟨#[]⟩)=some (be n 8):=by
 rw [wr1_num 110 8 n ⟨#[]⟩ (by decide) (by decide)]
 rw [if_neg];rintro (e|e)
 ·exact e rfl
 ·rw [p256] at e;omega
theorem Ck.write {c:Ck} (h:c.Ok):writeL kindsC.data.toList c.flds=some c.bytes:=by
 have h1:=h.page
 have h2:=h.t2
 rw [writeL_yes (by decide) rfl]
 show wrL [104,98,110] [(c.page,⟨#[]⟩),(c.text.size,⟨#[]⟩),(sgn64 c.cnt,⟨#[]⟩)]=_
 simp only [wrL,ck_four c.page (by omega),ck_one c.text.size (by omega),ck_eight _ (sgn64_lt c.cnt),Option.map_some,List.append_nil,Ck.bytes]
theorem Ck.read {c:Ck} (h:c.Ok):readF kindsC.data.toList c.val=some c.flds:=by
 refine read_write (fun p hp=>?_) (Ck.write h)
 have h1:=h.page
 have h2:=h.t2
 have h3:=sgn64_lt c.cnt
 simp only [Ck.flds,List.mem_cons,List.not_mem_nil,or_false] at hp
 rcases hp with rfl|rfl|rfl <;> simp <;> omega
theorem Ck.val_size (c:Ck):c.val.size<=56:=by
 rw [Lib.size_eq]
 show c.bytes.length<=56
 simp only [Ck.bytes,List.length_append,be_length];omega
def encC (c:Ck):ByteArray × ByteArray:=(c.id,c.val)
structure CRel (E:List (ByteArray × ByteArray)) (C:List Ck):Prop where
 eq:E=C.map encC
 ok:∀ c∈C,c.Ok
def cAt (C:List Ck) (s:ByteArray):Option Ck:=C.find? fun c=>decide (c.id=s)
theorem cAt_some {C:List Ck} {s:ByteArray} {c:Ck} (h:cAt C s=some c):c∈C/\c.id=s:=by
 have:=List.find?_some h
 exact ⟨List.mem_of_find?_eq_some h,by simpa using this⟩
theorem cAt_none {C:List Ck} {s:ByteArray} (h:cAt C s=none):∀ c∈C,c.id≠s:=by
 have:=List.find?_eq_none.1 h
 intro c hc e;exact this c hc (by simp [e])
theorem cAt_no {C:List Ck} {s:ByteArray} (h:∀ c∈C,c.id≠s):cAt C s=none:=by
 unfold cAt
 rw [List.find?_eq_none]
 intro c hc;simp [h c hc]
theorem srt_one {E:List (ByteArray × ByteArray)} (h:Srt E) {k v v':ByteArray} (h1:(k,v)∈E) (h2:(k,v')∈E):v=v':=by
 obtain ⟨A,B,rfl⟩:=List.append_of_mem h1
 obtain ⟨-,s2,s3⟩:=srt_of h
 rcases List.mem_append.1 h2 with h2|h2
 ·exact absurd rfl (kless_ne (s2 (k,v') h2))
 ·rcases List.mem_cons.1 h2 with h2|h2
  ·cases h2;rfl
  ·exact absurd rfl (kless_ne (s3 (k,v') h2))
theorem CRel.got {E:List (ByteArray × ByteArray)} {C:List Ck} {s v:ByteArray} {ok:Bool} (h:CRel E C) (hs:Srt E) (g:Got s E v ok) :
 (∃ c,cAt C s=some c/\c.Ok/\ok=true/\v=c.val)\/(cAt C s=none/\ok=false):=by
 rcases g with ⟨hk,hm⟩|⟨hk,-,hm⟩
 ·left
  have hm2:=hm
  rw [h.eq] at hm2
  obtain ⟨c0,hc0,e0⟩:=List.mem_map.1 hm2
  have e1:c0.id=s:=congrArg Prod.fst e0
  cases hf:cAt C s with
  | none=>exact absurd e1 (cAt_none hf c0 hc0)
  | some c =>
    obtain ⟨h1,h2⟩:=cAt_some hf
    refine ⟨c,rfl,h.ok c h1,hk,?_⟩
    have:(s,c.val)∈E:=by
     rw [h.eq];exact List.mem_map.2 ⟨c,h1,by unfold encC;rw [h2]⟩
    exact srt_one hs hm this
 ·right
  exact ⟨cAt_no fun c hc e=>hm (encC c) (by rw [h.eq];exact List.mem_map.2 ⟨c,hc,rfl⟩) e,hk⟩
def PutC (c:Ck) (C C':List Ck):Prop:=∃ A B,C'=A++c::B/\(C=A++B\/∃ c0,c0.id=c.id/\C=A++c0::B)/\(∀ a∈A,kless a.id c.id=true)/\∀ b∈B,kless c.id b.id=true
theorem CRel.ins {E E':List (ByteArray × ByteArray)} {C:List Ck} {c:Ck} (h:CRel E C) (hc:c.Ok) (hi:Ins c.id c.val E E'):∃ C',CRel E' C'/\PutC c C C':=by
 obtain ⟨A,B,rfl,h',hA,hB⟩:=hi
 obtain ⟨heq,hok⟩:=h
 rcases h' with h'|⟨v,h'⟩
 ·rw [heq] at h'
  obtain ⟨A1,C1,rfl,rfl,rfl⟩:=List.map_eq_append_iff.1 h'
  refine ⟨A1++c::C1,⟨by simp [encC],fun x hx=>?_⟩,A1,C1,rfl,.inl rfl,fun a ha=>hA (encC a) (List.mem_map.2 ⟨a,ha,rfl⟩),fun b hb=>hB (encC b) (List.mem_map.2 ⟨b,hb,rfl⟩)⟩
  simp only [List.mem_append,List.mem_cons] at hx
  rcases hx with hx|rfl|hx
  ·exact hok x (by simp [hx])
  ·exact hc
  ·exact hok x (by simp [hx])
 ·rw [heq] at h'
  obtain ⟨A1,C0,rfl,rfl,h2⟩:=List.map_eq_append_iff.1 h'
  obtain ⟨b0,C1,rfl,h3,rfl⟩:=List.map_eq_cons_iff.1 h2
  refine ⟨A1++c::C1,⟨by simp [encC],fun x hx=>?_⟩,A1,C1,rfl,.inr ⟨b0,congrArg Prod.fst h3,rfl⟩,fun a ha=>hA (encC a) (List.mem_map.2 ⟨a,ha,rfl⟩),fun b hb=>hB (encC b) (List.mem_map.2 ⟨b,hb,rfl⟩)⟩
  simp only [List.mem_append,List.mem_cons] at hx
  rcases hx with hx|rfl|hx
  ·exact hok x (by simp [hx])
  ·exact hc
  ·exact hok x (by simp [hx])
def DelC (s:ByteArray) (C C':List Ck):Prop:=∃ A B c,c.id=s/\C=A++c::B/\C'=A++B
theorem CRel.del {E E':List (ByteArray × ByteArray)} {C:List Ck} {s:ByteArray} (h:CRel E C) (hd:Del s E E'):∃ C',CRel E' C'/\DelC s C C':=by
 obtain ⟨A,B,v,rfl,rfl⟩:=hd
 obtain ⟨heq,hok⟩:=h
 obtain ⟨A1,C0,rfl,rfl,h2⟩:=List.map_eq_append_iff.1 heq.symm
 obtain ⟨b0,C1,rfl,h3,rfl⟩:=List.map_eq_cons_iff.1 h2
 refine ⟨A1++C1,⟨by simp,fun x hx=>hok x ?_⟩,A1,C1,b0,congrArg Prod.fst h3,rfl,rfl⟩
 rcases List.mem_append.1 hx with hx|hx <;> simp [hx]
def CSrt (C:List Ck):Prop:=C.Pairwise fun a b=>kless a.id b.id=true
theorem CRel.srt {E:List (ByteArray × ByteArray)} {C:List Ck} (h:CRel E C) (hs:Srt E):CSrt C:=by
 obtain ⟨rfl,-⟩:=h
 exact List.pairwise_map.1 hs
theorem CSrt.uniq {C:List Ck} (h:CSrt C) {a b:Ck} (ha:a∈C) (hb:b∈C) (e:a.id=b.id):a=b:=by
 obtain ⟨A,B,rfl⟩:=List.append_of_mem ha
 obtain ⟨-,h2,h3⟩:=List.pairwise_append.1 h
 obtain ⟨h4,-⟩:=List.pairwise_cons.1 h2
 rcases List.mem_append.1 hb with hb|hb
 ·exact absurd e.symm (kless_ne (h3 b hb a (by simp)))
 ·rcases List.mem_cons.1 hb with hb|hb
  ·exact hb.symm
  ·exact absurd e (kless_ne (h4 b hb))
theorem cAt_of {C:List Ck} (h:CSrt C) {c:Ck} (hc:c∈C):cAt C c.id=some c:=by
 cases hf:cAt C c.id with
 | none=>exact absurd rfl (cAt_none hf c hc)
 | some d =>
   obtain ⟨h1,h2⟩:=cAt_some hf
   rw [h.uniq h1 hc h2]
structure Lg where
 n:Nat
 up:Bool
 id:ByteArray
def Lg.by (e:Lg):Int:=if e.up then 1 else -1
def sgB (b:Bool):Nat:=if b then 1 else 0
def kindsL:ByteArray:=⟨#[98,114]⟩
def lkey (n:Nat):ByteArray:=⟨(be n 8).toArray⟩
def Lg.flds (e:Lg):List Fld:=[(sgB e.up,⟨#[]⟩),(0,e.id)]
def Lg.bytes (e:Lg):List UInt8:=be (sgB e.up) 1++e.id.data.toList
def Lg.val (e:Lg):ByteArray:=⟨e.bytes.toArray⟩
structure Lg.Ok (e:Lg):Prop where
 n:e.n<1000000000
 id:e.id.size=33
theorem Lg.write (e:Lg):writeL kindsL.data.toList e.flds=some e.bytes:=by
 have h1:sgB e.up<256:=by unfold sgB;split <;> omega
 rw [writeL_yes (by decide) rfl]
 show wrL [98,114] [(sgB e.up,⟨#[]⟩),(0,e.id)]=_
 simp only [wrL,ck_one _ h1,wr1_r 114 0 e.id (by decide) (by decide) rfl,Option.map_some,List.append_nil,Lg.bytes]
theorem Lg.read (e:Lg):readF kindsL.data.toList e.val=some e.flds:=by
 refine read_write (fun p hp=>?_) (Lg.write e)
 have h1:sgB e.up<256:=by unfold sgB;split <;> omega
 simp only [Lg.flds,List.mem_cons,List.not_mem_nil,or_false] at hp
 rcases hp with rfl|rfl <;> simp <;> omega
theorem Lg.val_size {e:Lg} (h:e.Ok):e.val.size<=56:=by
 have:=h.id
 rw [Lib.size_eq] at this
 rw [Lib.size_eq]
 show e.bytes.length<=56
 simp only [Lg.bytes,List.length_append,be_length];omega
theorem lkey_size (n:Nat):(lkey n).size=8:=by
 rw [Lib.size_eq];exact be_length n 8
theorem lkey_less {n m:Nat} (hn:n<1000000000) (hm:m<1000000000):kless (lkey n) (lkey m)=decide (n<m):=by
 unfold kless lkey
 rw [Lib.toList_data,Lib.toList_data]
 exact bytesLess_be 8 n m (by rw [p256];omega) (by rw [p256];omega)
theorem lkey_write (n:Nat) (h:n<1000000000):writeL [110] [(n,⟨#[]⟩)]=some (be n 8):=by
 rw [writeL_yes (by decide) rfl]
 simp only [wrL,ck_eight n (by omega),Option.map_some,List.append_nil]
def encL (e:Lg):ByteArray × ByteArray:=(lkey e.n,e.val)
structure GRel (E:List (ByteArray × ByteArray)) (L:List Lg) (nx:Nat):Prop where
 eq:E=L.map encL
 ok:∀ e∈L,e.Ok/\e.n<nx
theorem GRel.put {E E':List (ByteArray × ByteArray)} {L:List Lg} {nx:Nat} {e:Lg} (h:GRel E L nx) (he:e.n=nx) (hk:e.Ok) (hi:Ins (lkey e.n) e.val E E'):GRel E' (L++[e]) (nx+1):=by
 have hlt:∀ x∈E,kless x.1 (lkey e.n)=true:=fun x hx=>by
  rw [h.eq] at hx
  obtain ⟨y,hy,rfl⟩:=List.mem_map.1 hx
  obtain ⟨h1,h2⟩:=h.ok y hy
  show kless (lkey y.n) (lkey e.n)=true
  rw [lkey_less h1.n hk.n];simp;omega
 obtain ⟨A,B,rfl,h',hA,hB⟩:=hi
 have hB0:B=[]:=by
  cases B with
  | nil=>rfl
  | cons b B =>
    exfalso
    have h1:=hB b (by simp)
    have h2:=hlt b (by rcases h' with rfl|⟨v,rfl⟩ <;> simp)
    rw [kless_asymm h1] at h2;cases h2
 subst hB0
 have hE:E=A:=by
  rcases h' with h'|⟨v,h'⟩
  ·simpa using h'
  ·exfalso
   have:=hlt (lkey e.n,v) (by rw [h'];simp)
   rw [kless_irrefl] at this;cases this
 subst hE
 refine ⟨by rw [List.map_append,<-h.eq];rfl,fun y hy=>?_⟩
 rcases List.mem_append.1 hy with hy|hy
 ·have:=h.ok y hy;exact ⟨this.1,by omega⟩
 ·simp at hy;subst hy;exact ⟨hk,by omega⟩
theorem GRel.del {E E':List (ByteArray × ByteArray)} {L:List Lg} {nx:Nat} {e:Lg} (h:GRel E (e::L) nx) (hs:Srt E) (hd:Del (lkey e.n) E E'):GRel E' L nx:=by
 obtain ⟨A,B,v,hE,rfl⟩:=hd
 have h1:=h.eq
 rw [hE] at h1
 have hA:A=[]:=by
  cases A with
  | nil=>rfl
  | cons a A =>
    exfalso
    rw [List.map_cons,List.cons_append] at h1
    have ha:a=encL e:=(List.cons.inj h1).1
    rw [hE] at hs
    have:=(srt_of hs).2.1 a (by simp)
    rw [ha] at this
    have hn:kless (lkey e.n) (lkey e.n)=true:=this
    rw [kless_irrefl] at hn;cases hn
 subst hA
 rw [List.map_cons,List.nil_append] at h1
 refine ⟨by rw [List.nil_append];exact (List.cons.inj h1).2,fun y hy=>h.ok y (by simp [hy])⟩
def nameB (p:ByteArray) (k:Nat):ByteArray:=p++⟨#[UInt8.ofNat k]⟩
theorem nameB_size (p:ByteArray) (k:Nat):(nameB p k).size=p.size+1:=by
 unfold nameB;rw [ByteArray.size_append];rfl
theorem nameB_data (p:ByteArray) (k:Nat):(nameB p k).data.toList=p.data.toList++[UInt8.ofNat k]:=by
 unfold nameB;simp
theorem wtO_hgt {S:RS} {place k a:Nat} {o:Option TT} (h:TreeSt S place o) (hw:wtO o<=a) (ha:a<2 ^ k):hgtO o<=k:=by
 cases o with
 | none=>exact Nat.zero_le _
 | some T=>exact wt_hgt h.2.pos (Nat.lt_of_le_of_lt hw ha)
theorem TreeSt.used {S:RS} {place:Nat} {o:Option TT} (h:TreeSt S place o):∀ q∈pgsO o,S.used q=true:=by
 cases o with
 | none=>intro q hq;cases hq
 | some T=>exact h.2.on.used
theorem TreeSt.nodC {S:RS} {place:Nat} {o:Option TT} (h:TreeSt S place o):(pgsO o).Nodup:=by
 cases o with
 | none=>exact List.nodup_nil
 | some T=>exact h.2.nod
theorem TreeSt.keep {S S':RS} {place:Nat} {o:Option TT} (h:TreeSt S place o) (hr:S'.root place=S.root place) (hq:∀ q∈pgsO o,S'.used q=S.used q/\S'.cont q=S.cont q):TreeSt S' place o:=by
 cases o with
 | none=>exact hr.trans h
 | some T=>exact ⟨hr.trans h.1,h.2.frame hq⟩
structure TwoM (S:RS) (n c:Nat) (o0 o1:Option TT) (a0 a1:Nat) (X:List (Nat × ByteArray)):Prop where
 t0:TreeSt S 0 o0
 t1:TreeSt S 1 o1
 sp:Spare S n c
 w0:wtO o0<=a0
 w1:wtO o1<=a1
 pg:∀ x∈X,S.used x.1=true/\S.cont x.1=pad (pgB x.2)
 nd:(pgsO o0++(pgsO o1++X.map Prod.fst)).Nodup
 al:∀ q,S.used q=true->q∈pgsO o0++(pgsO o1++X.map Prod.fst)
section
variable {S S':RS} {n c a0 a1:Nat} {o0 o1 o':Option TT} {X:List (Nat × ByteArray)}
theorem TwoM.less {c' b0 b1:Nat} (h:TwoM S n c o0 o1 a0 a1 X) (hc:c'<=c) (h0:a0<=b0) (h1:a1<=b1):TwoM S n c' o0 o1 b0 b1 X :=
 ⟨h.t0,h.t1,h.sp.less hc,Nat.le_trans h.w0 h0,Nat.le_trans h.w1 h1,h.pg,h.nd,h.al⟩
theorem TwoM.hgt0 (h:TwoM S n c o0 o1 a0 a1 X) (ha:a0<524288):hgtO o0<=19:=wtO_hgt h.t0 h.w0 (by omega)
theorem TwoM.hgt1 (h:TwoM S n c o0 o1 a0 a1 X) (ha:a1<524288):hgtO o1<=19:=wtO_hgt h.t1 h.w1 (by omega)
theorem TwoM.srt0 (h:TwoM S n c o0 o1 a0 a1 X):Srt (entsO o0):=srt_o h.t0
theorem TwoM.srt1 (h:TwoM S n c o0 o1 a0 a1 X):Srt (entsO o1):=srt_o h.t1
theorem TwoM.parts (h:TwoM S n c o0 o1 a0 a1 X):(∀ q∈pgsO o1,q ∉ pgsO o0)/\(∀ x∈X,x.1 ∉ pgsO o0)/\(∀ q∈pgsO o0,q ∉ pgsO o1)/\(∀ x∈X,x.1 ∉ pgsO o1):=by
 obtain ⟨h1,h2,h3⟩:=List.nodup_append.1 h.nd
 obtain ⟨h4,h5,h6⟩:=List.nodup_append.1 h2
 exact ⟨fun q hq e=>h3 q e q (by simp [hq]) rfl,fun x hx e=>h3 x.1 e x.1 (by simp only [List.mem_append,List.mem_map];exact .inr ⟨x,hx,rfl⟩) rfl,fun q hq e=>h3 q hq q (by simp [e]) rfl,fun x hx e=>h6 x.1 e x.1 (List.mem_map.2 ⟨x,hx,rfl⟩) rfl⟩
theorem TwoM.go0 {c' b0:Nat} (h:TwoM S n c o0 o1 a0 a1 X) (g:MapGo 0 n S S' o0 o') (hs:Spare S' n c') (hw:wtO o'<=b0):TwoM S' n c' o' o1 b0 a1 X:=by
 obtain ⟨p1,p2,p3,p4⟩:=h.parts
 have k1:∀ q∈pgsO o1,q ∉ pgsO o'/\S'.used q=true/\S'.cont q=S.cont q:=fun q hq=>g.frm.keep q (p1 q hq) (h.t1.used q hq)
 have k2:∀ x∈X,x.1 ∉ pgsO o'/\S'.used x.1=true/\S'.cont x.1=S.cont x.1:=fun x hx=>g.frm.keep x.1 (p2 x hx) (h.pg x hx).1
 obtain ⟨-,n2,-⟩:=List.nodup_append.1 h.nd
 refine ⟨g.st,h.t1.keep (g.frm.root 1 (by decide)) fun q hq=>⟨(k1 q hq).2.1.trans (h.t1.used q hq).symm,(k1 q hq).2.2⟩,hs,hw,h.w1,fun x hx=>⟨(k2 x hx).2.1,(k2 x hx).2.2.trans (h.pg x hx).2⟩,List.nodup_append.2 ⟨(TreeSt.nodC g.st),n2,fun a ha b hb e=>?_⟩,fun q hq=>?_⟩
 ·subst e
  rcases List.mem_append.1 hb with hb|hb
  ·exact (k1 a hb).1 ha
  ·obtain ⟨x,hx,rfl⟩:=List.mem_map.1 hb
   exact (k2 x hx).1 ha
 ·rcases g.frm.back q hq with h1|⟨h1,h2⟩
  ·exact List.mem_append_left _ h1
  ·rcases List.mem_append.1 (h.al q h1) with h3|h3
   ·exact absurd h3 h2
   ·exact List.mem_append_right _ h3
theorem TwoM.go1 {c' b1:Nat} (h:TwoM S n c o0 o1 a0 a1 X) (g:MapGo 1 n S S' o1 o') (hs:Spare S' n c') (hw:wtO o'<=b1):TwoM S' n c' o0 o' a0 b1 X:=by
 obtain ⟨p1,p2,p3,p4⟩:=h.parts
 have k1:∀ q∈pgsO o0,q ∉ pgsO o'/\S'.used q=true/\S'.cont q=S.cont q:=fun q hq=>g.frm.keep q (p3 q hq) (h.t0.used q hq)
 have k2:∀ x∈X,x.1 ∉ pgsO o'/\S'.used x.1=true/\S'.cont x.1=S.cont x.1:=fun x hx=>g.frm.keep x.1 (p4 x hx) (h.pg x hx).1
 obtain ⟨n1,n2,n3⟩:=List.nodup_append.1 h.nd
 obtain ⟨n4,n5,n6⟩:=List.nodup_append.1 n2
 refine ⟨h.t0.keep (g.frm.root 0 (by decide)) fun q hq=>⟨(k1 q hq).2.1.trans (h.t0.used q hq).symm,(k1 q hq).2.2⟩,g.st,hs,h.w0,hw,fun x hx=>⟨(k2 x hx).2.1,(k2 x hx).2.2.trans (h.pg x hx).2⟩,List.nodup_append.2 ⟨n1,List.nodup_append.2 ⟨(TreeSt.nodC g.st),n5,fun a ha b hb e=>?_⟩,fun a ha b hb e=>?_⟩,fun q hq=>?_⟩
 ·subst e
  obtain ⟨x,hx,rfl⟩:=List.mem_map.1 hb
  exact (k2 x hx).1 ha
 ·subst e
  rcases List.mem_append.1 hb with hb|hb
  ·exact (k1 a ha).1 hb
  ·exact n3 a ha a (List.mem_append_right _ hb) rfl
 ·rcases g.frm.back q hq with h1|⟨h1,h2⟩
  ·exact List.mem_append_right _ (List.mem_append_left _ h1)
  ·rcases List.mem_append.1 (h.al q h1) with h3|h3
   ·exact List.mem_append_left _ h3
   ·rcases List.mem_append.1 h3 with h4|h4
    ·exact absurd h4 h2
    ·exact List.mem_append_right _ (List.mem_append_right _ h4)
theorem TwoM.blob {p:Nat} {s:ByteArray} (h:TwoM S n (c+1) o0 o1 a0 a1 X) (hu:S.used p=false):TwoM (blobS S p s) n c o0 o1 a0 a1 ((p,s)::X):=by
 have hp:∀ q,S.used q=true->q≠p:=fun q hq e=>by rw [e,hu] at hq;cases hq
 have ku:∀ q,S.used q=true->(blobS S p s).used q=true/\(blobS S p s).cont q=S.cont q:=fun q hq=>by
  have:=hp q hq
  refine ⟨?_,?_⟩
  ·show flip S.used p q=true
   unfold flip;rw [if_neg this,hq]
  ·show (if q=p then _ else if q=p then _ else S.cont q)=S.cont q
   rw [if_neg this,if_neg this]
 have hpu:(blobS S p s).used p=true:=by
  show flip S.used p p=true
  unfold flip;rw [if_pos rfl,hu];rfl
 have hpc:(blobS S p s).cont p=pad (pgB s):=by
  show (if p=p then _ else _)=_
  rw [if_pos rfl]
 obtain ⟨n1,n2,n3⟩:=List.nodup_append.1 h.nd
 obtain ⟨n4,n5,n6⟩:=List.nodup_append.1 n2
 have hX:∀ q∈X.map Prod.fst,q≠p:=fun q hq=>by
  obtain ⟨x,hx,rfl⟩:=List.mem_map.1 hq
  exact hp _ (h.pg x hx).1
 refine ⟨h.t0.keep rfl fun q hq=>⟨(ku q (h.t0.used q hq)).1.trans (h.t0.used q hq).symm,(ku q (h.t0.used q hq)).2⟩,h.t1.keep rfl fun q hq=>⟨(ku q (h.t1.used q hq)).1.trans (h.t1.used q hq).symm,(ku q (h.t1.used q hq)).2⟩,?_,h.w0,h.w1,fun x hx=>?_,?_,fun q hq=>?_⟩
 ·exact (h.sp.alloc hu)
 ·rcases List.mem_cons.1 hx with rfl|hx
  ·exact ⟨hpu,hpc⟩
  ·have:=ku x.1 (h.pg x hx).1
   exact ⟨this.1,this.2.trans (h.pg x hx).2⟩
 ·rw [List.map_cons]
  refine List.nodup_append.2 ⟨n1,List.nodup_append.2 ⟨n4,List.nodup_cons.2 ⟨fun e=>hX p e rfl,n5⟩,fun a ha b hb e=>?_⟩,fun a ha b hb e=>?_⟩
  ·subst e
   rcases List.mem_cons.1 hb with rfl|hb
   ·exact hp _ (h.t1.used _ ha) rfl
   ·exact n6 a ha a hb rfl
  ·subst e
   rcases List.mem_append.1 hb with hb|hb
   ·exact n3 a ha a (List.mem_append_left _ hb) rfl
   ·rcases List.mem_cons.1 hb with rfl|hb
    ·exact hp _ (h.t0.used _ ha) rfl
    ·exact n3 a ha a (List.mem_append_right _ hb) rfl
 ·by_cases e:q=p
  ·subst e;simp
  ·have hq':S.used q=true:=by
    have h2:flip S.used p q=true:=hq
    unfold flip at h2;rwa [if_neg e] at h2
   have:=h.al q hq'
   simp only [List.mem_append,List.map_cons,List.mem_cons] at this ⊢
   rcases this with h1|h1|h1 <;> simp [h1]
theorem TwoM.root {k v:Nat} (h:TwoM S n c o0 o1 a0 a1 X) (hk:2<=k):TwoM (setRootS S k v) n c o0 o1 a0 a1 X:=by
 have hr:∀ j,j<2->(setRootS S k v).root j=S.root j:=fun j hj=>by
  show upd S.root k v j=S.root j
  unfold upd;rw [if_neg (by omega)]
 exact ⟨h.t0.keep (hr 0 (by decide)) fun q hq=>⟨rfl,rfl⟩,h.t1.keep (hr 1 (by decide)) fun q hq=>⟨rfl,rfl⟩,h.sp,h.w0,h.w1,h.pg,h.nd,h.al⟩
theorem TwoM.perm {Y:List (Nat × ByteArray)} (h:TwoM S n c o0 o1 a0 a1 X) (hp:X.Perm Y):TwoM S n c o0 o1 a0 a1 Y:=by
 have h2:(pgsO o0++(pgsO o1++X.map Prod.fst)).Perm (pgsO o0++(pgsO o1++Y.map Prod.fst)):=List.Perm.append_left _ (List.Perm.append_left _ (hp.map _))
 exact ⟨h.t0,h.t1,h.sp,h.w0,h.w1,fun x hx=>h.pg x (hp.mem_iff.2 hx),h2.nodup_iff.1 h.nd,fun q hq=>h2.mem_iff.1 (h.al q hq)⟩
end
def cpg (C:List Ck):List (Nat × ByteArray):=C.map fun c=>(c.page,c.text)
set_option maxHeartbeats 2000000
theorem RSt.setC {w1 w:World} {K:Nat->Prop} {rb n m:Nat} {S:RS} (h:RSt w1 w K rb n m S) {x:Nat} (hx:K x) (hl:w1.heap.size<=x) (off:Nat) (v:Value):RSt w1 (w.setCell ⟨x,off,none⟩ v) K rb n m S:=by
 obtain ⟨G,⟨puts,a1,a2,a3⟩,b,d,e⟩:=h
 have hu:Upd (fun k=>k=x) w (w.setCell ⟨x,off,none⟩ v):=(Upd.refl (fun k=>k=x) w).setCell (p:=⟨x,off,none⟩) (.inl rfl) v
 refine ⟨G,⟨puts,a1,a2.frame hu fun k hk e=>(d x hx).2 (e ▸ hk),a3⟩,b,fun k hk=>⟨Nat.lt_of_lt_of_le (d k hk).1 hu.size,(d k hk).2⟩,e.setCell hl v⟩
def SBk (w:World) (sb rb ti tl:Nat):Prop:=w.heap[sb]?=some (.cells #[.pointer (some ⟨rb,0,none⟩),.pointer (some ⟨ti,0,none⟩),.pointer (some ⟨tl,0,none⟩)] 112 (0,0))/\TB w ti rb 0/\TB w tl rb 1
def KC (K:Nat->Prop) (sb ti tl:Nat):Nat->Prop:=fun k=>K k\/k=sb\/k=ti\/k=tl
def CSt (w1 w:World) (K:Nat->Prop) (sb rb ti tl n m:Nat) (S:RS):Prop:=RSt w1 w (KC K sb ti tl) rb n m S/\SBk w sb rb ti tl
def CGo (w1 w0 w:World) (K:Nat->Prop) (sb rb ti tl n m:Nat) (S:RS):Prop:=CSt w1 w K sb rb ti tl n m S/\Kept K w0 w
section
variable {w1 w w' w0:World} {K K':Nat->Prop} {sb rb ti tl n m m':Nat} {S S':RS}
theorem KC.sub (hK:∀ k,K' k->K k):∀ k,KC K' sb ti tl k->KC K sb ti tl k:=fun k hk=>hk.imp (hK k) id
theorem SBk.keep (h:SBk w sb rb ti tl) (hk:Kept (KC K sb ti tl) w w'):SBk w' sb rb ti tl :=
 ⟨(hk sb (.inr (.inl rfl))).trans h.1,hk.tb h.2.1 (.inr (.inr (.inl rfl))),hk.tb h.2.2 (.inr (.inr (.inr rfl)))⟩
theorem CSt.of (h:CSt w1 w K sb rb ti tl n m S) (h1:RSt w1 w' (KC K sb ti tl) rb n m' S') (hk:Kept (KC K sb ti tl) w w'):CSt w1 w' K sb rb ti tl n m' S'/\Kept K w w' :=
 ⟨⟨h1,h.2.keep hk⟩,hk.mono fun k hk=>.inl hk⟩
theorem CSt.mono (h:CSt w1 w K sb rb ti tl n m S) (hK:∀ k,K' k->K k):CSt w1 w K' sb rb ti tl n m S:=⟨h.1.mono (KC.sub hK),h.2⟩
theorem CSt.more (h:CSt w1 w K sb rb ti tl n m S) (hm:m<=m'):CSt w1 w K sb rb ti tl n m' S:=⟨h.1.more hm,h.2⟩
theorem CSt.belowK (h:CSt w1 w K sb rb ti tl n m S) (hb:Below w.heap.size w w'):CSt w1 w' (fun k=>K k\/(w.heap.size<=k/\k<w'.heap.size)) sb rb ti tl n m S/\Kept K w w':=by
 obtain ⟨h1,h2⟩:=h.1.below hb
 refine ⟨⟨h1.mono fun k hk=>?_,h.2.keep h2⟩,h2.mono fun k hk=>.inl hk⟩
 rcases hk with (hk|hk)|hk
 ·exact .inl (.inl hk)
 ·exact .inr hk
 ·exact .inl (.inr hk)
theorem CSt.below (h:CSt w1 w K sb rb ti tl n m S) (hb:Below w.heap.size w w'):CSt w1 w' K sb rb ti tl n m S:=(h.belowK hb).1.mono fun k hk=>.inl hk
theorem CSt.keep (h:CSt w1 w K sb rb ti tl n m S) (hb:Below w.heap.size w w'):Kept K w w':=(h.belowK hb).2
theorem CSt.new (h:CSt w1 w K sb rb ti tl n m S) (hb:Below w.heap.size w w') (x:Nat) (h1:w.heap.size<=x) (h2:x<w'.heap.size):CSt w1 w' (fun k=>K k\/k=x) sb rb ti tl n m S :=
 (h.belowK hb).1.mono fun k hk=>hk.imp id fun hk=>by omega
theorem CSt.klt (h:CSt w1 w K sb rb ti tl n m S) {k:Nat} (hk:K k):k<w.heap.size:=by
 obtain ⟨⟨G,h1,h2,h3,h4⟩,-⟩:=h
 exact (h3 k (.inl hk)).1
theorem CSt.bel (h:CSt w1 w K sb rb ti tl n m S):Below w1.heap.size w1 w:=h.1.bel
theorem CSt.set (h:CSt w1 w K sb rb ti tl n m S) {x:Nat} (hx:K x) (hl:w1.heap.size<=x) (hn:x≠sb/\x≠ti/\x≠tl) (off:Nat) (v:Value):CSt w1 (w.setCell ⟨x,off,none⟩ v) K sb rb ti tl n m S:=by
 have e:∀ y,y≠x->(w.setCell ⟨x,off,none⟩ v).heap[y]?=w.heap[y]?:=fun y hy=>heap_set_ne _ hy
 exact ⟨h.1.setC (.inl hx) hl off v,(e sb hn.1.symm).trans h.2.1,(e ti hn.2.1.symm).trans h.2.2.1,(e tl hn.2.2.symm).trans h.2.2.2⟩
theorem CSt.sbk (h:CSt w1 w K sb rb ti tl n m S):sb<w.heap.size/\ti<w.heap.size/\tl<w.heap.size:=⟨lt_of_heap h.2.1,lt_of_heap h.2.2.1,lt_of_heap h.2.2.2⟩
theorem CGo.below (h:CGo w1 w0 w K sb rb ti tl n m S) (hb:Below w.heap.size w w'):CGo w1 w0 w' K sb rb ti tl n m S:=⟨h.1.below hb,h.2.trans (h.1.keep hb)⟩
theorem SBk.cells (h:SBk w sb rb ti tl):w.cell? ⟨sb,0,none⟩=some (.pointer (some ⟨rb,0,none⟩))/\w.cell? ⟨sb,1,none⟩=some (.pointer (some ⟨ti,0,none⟩))/\w.cell? ⟨sb,2,none⟩=some (.pointer (some ⟨tl,0,none⟩)) :=
 ⟨cell_lit h.1 rfl,cell_lit h.1 rfl,cell_lit h.1 rfl⟩
theorem idx_get {o:Option TT} {C:List Ck} (id:ByteArray) (h:Hid (CGo w1 w0 w K sb rb ti tl n m S)) (ho:Hid (TreeSt S 0 o/\CRel (entsO o) C/\hgtO o<=19)) (hm:m<=3900000) :
 Calls Tryz.prog 115 #[.pointer (some ⟨ti,0,none⟩),.string id] w fun e w'=>∃ v ok,e=.returned (.tuple #[.string v,.bool ok,.int .i64 0])/\((∃ c,cAt C id=some c/\c.Ok/\ok=true/\v=c.val)\/(cAt C id=none/\ok=false))/\Hid (CGo w1 w0 w' K sb rb ti tl n m S):=by
 obtain ⟨h1,h2,h3⟩:=ho.out
 refine (get_r w1 w _ ti rb 0 n m S o id h.out.1.1 h.out.1.2.2.1 (.inr (.inr (.inl rfl))) h1 (by decide) hm h3).mono ?_
 rintro e w' ⟨v,ok,rfl,g,hE⟩
 have:=h.out.1.of hE.out.1 hE.out.2
 exact ⟨v,ok,rfl,h2.got (srt_o h1) g,Hd ⟨this.1,h.out.2.trans this.2⟩⟩
theorem read_k (c:Ck) (hc:c.Ok) (h:Hid (CGo w1 w0 w K sb rb ti tl n m S)):Calls Tryz.prog 88 #[.string ⟨#[104,98,110]⟩,.string c.val] w fun e w'=>∃ g k,w.heap.size<=g/\e=.returned (.tuple #[.slice (some ⟨g,0,none⟩) 3 k,.bool true])/\(w'.cell? ⟨g,0,none⟩=some (.int .u64 (c.page:Int))/\w'.cell? ⟨g,2,none⟩=some (.int .u64 (c.text.size:Int))/\w'.cell? ⟨g,4,none⟩=some (.int .u64 (sgn64 c.cnt:Int)))/\Hid (CGo w1 w0 w' K sb rb ti tl n m S):=by
 have RC:=Read_cK kindsC c.val w (by decide) (by have:=Ck.val_size c;omega)
 rw [Ck.read hc] at RC
 refine RC.mono ?_
 intro e w' hp
 obtain ⟨v,rfl,ho,hbl⟩:=hp
 rcases ho.2 with ⟨rfl,h0⟩|⟨g,cap,cur,rfl,hbg,-⟩
 ·exact absurd h0 (by simp [Ck.flds])
 ·refine ⟨g,cap,hbg,rfl,?_,h.out.below hbl⟩
  have c:=fun i (hi:i<6)=>ho.cellAt i (by simpa [Ck.flds] using hi)
  exact ⟨c 0 (by decide),c 2 (by decide),c 4 (by decide)⟩
end
theorem cells3 {W:World} {g:Nat} {a b c:Value} {t:TypeId} {fr:Nat × Nat} (h:W.heap[g]?=some (.cells #[a,b,c] t fr)):W.cell? ⟨g,0,none⟩=some a/\W.cell? ⟨g,1,none⟩=some b/\W.cell? ⟨g,2,none⟩=some c :=
 ⟨cell_lit h rfl,cell_lit h rfl,cell_lit h rfl⟩
theorem set3_cell {W:World} {x g i:Nat} (h:g≠x) (v0 v1 v2:Value):((((W.setCell ⟨x,0,none⟩ v0).setCell ⟨x,1,none⟩ v1).setCell ⟨x,2,none⟩ v2).drew).cell? ⟨g,i,none⟩=W.cell? ⟨g,i,none⟩:=by
 refine World.cell?_of_block ?_
 rw [heap_drew,heap_set_ne _ h,heap_set_ne _ h,heap_set_ne _ h]
theorem CSt.fin {w1 w w0 W:World} {K:Nat->Prop} {sb rb ti tl n m m':Nat} {S S':RS} (h:CSt w1 w K sb rb ti tl n m S) (H:CGo w1 w0 W (fun k=>K k\/k=w.heap.size) sb rb ti tl n m' S') (hb:Below w.heap.size w w0) (v0 v1 v2:Value) :
 CGo w1 w (((W.setCell ⟨w.heap.size,0,none⟩ v0).setCell ⟨w.heap.size,1,none⟩ v1).setCell ⟨w.heap.size,2,none⟩ v2) K sb rb ti tl n m' S':=by
 have hl1:=h.bel.size
 have hsb:=h.sbk
 have hne:w.heap.size≠sb/\w.heap.size≠ti/\w.heap.size≠tl:=by omega
 refine ⟨(((H.1.set (.inr rfl) hl1 hne 0 v0).set (.inr rfl) hl1 hne 1 v1).set (.inr rfl) hl1 hne 2 v2).mono fun k hk=>.inl hk,fun k hk=>?_⟩
 have hl:=h.klt hk
 rw [heap_set_ne _ (by omega),heap_set_ne _ (by omega),heap_set_ne _ (by omega),H.2 k (.inl hk),hb.block k hl]
theorem CGo.drew {w1 w0 W:World} {K:Nat->Prop} {sb rb ti tl n m:Nat} {S:RS} (h:CGo w1 w0 W K sb rb ti tl n m S):CGo w1 w0 W.drew K sb rb ti tl n m S:=h.below (Below.refl _ _).drew
def Ck.v (c:Ck):Value:=.agg #[.int .i64 (c.page:Int),.int .i64 (c.text.size:Int),.int .i64 c.cnt]
def ck0:Value:=.agg #[.int .i64 0,.int .i64 0,.int .i64 0]
section
variable (w1 w:World) (K:Nat->Prop) (sb rb ti tl n m:Nat) (S:RS) (o:Option TT) (C:List Ck) (id:ByteArray)
theorem find_noC (h:CSt w1 w K sb rb ti tl n m S) (ho:Hid (TreeSt S 0 o/\CRel (entsO o) C/\hgtO o<=19)) (hm:m<=3900000) (hi:id.size<=96) (hf:cAt C id=none) :
 Calls Tryz.prog 62 #[.pointer (some ⟨sb,0,none⟩),.string id] w fun e w'=>e=.returned (.tuple #[ck0,.bool false,.int .i64 0])/\Hid (CGo w1 w w' K sb rb ti tl n m S):=by
 obtain ⟨w0,hw0⟩:=exE (w.alloc (.cells #[.int .i64 0,.int .i64 0,.int .i64 0] 124))
 have blk:Hid (w0.heap[w.heap.size]?=some (.cells #[.int .i64 0,.int .i64 0,.int .i64 0] 124 (0,0))):=Hd (by
  subst hw0;exact heap_alloc_new _ _)
 have HB0:Hid (Below w.heap.size w w0):=Hd (by subst hw0;exact (Below.refl w.heap.size w).alloc (Nat.le_refl _) _)
 have G0:Hid (CGo w1 w0 w0 (fun k=>K k\/k=w.heap.size) sb rb ti tl n m S):=Hd ⟨h.new HB0.out _ (Nat.le_refl _) (lt_of_heap blk.out),fun _ _=>rfl⟩
 have GT:=idx_get id G0 ho hm
 obtain ⟨s0,s1,s2⟩:=G0.out.1.2.cells
 have HH:=Hd h
 have HF:=Hd hf
 have hi':¬id.size > 96:=by omega
 clear h hf hm hi ho
 go_enter Tryz.func62,Tryz.ntmps62
 go_wp2_with fail
 refine GT.mono ?_
 rintro e w2 ⟨v,ok,rfl,hv,G2⟩
 obtain rfl:ok=false:=by
  rcases hv with ⟨c,hc,-⟩|⟨-,rfl⟩
  ·rw [HF.out] at hc;cases hc
  ·rfl
 have hb2:w2.heap[w.heap.size]?=some (.cells #[.int .i64 0,.int .i64 0,.int .i64 0] 124 (0,0)):=(G2.out.2 _ (.inr rfl)).trans blk.out
 obtain ⟨c0,c1,c2⟩:=cells3 hb2
 have f0:∀ i,w2.frozen? ⟨w.heap.size,i,none⟩=false:=fun i=>frozen_lit hb2 i
 clear hb2 GT hv
 go_wp2_with fail
 refine bodyPost_ret (v:=.tuple #[ck0,.bool false,.int .i64 0]) (by simp [results,Tryz.results62,go_sem,c0,c1,c2,f0,ck0]) rfl ⟨rfl,Hd (HH.out.fin G2.out HB0.out _ _ _)⟩
theorem find_yesC (h:CSt w1 w K sb rb ti tl n m S) (ho:Hid (TreeSt S 0 o/\CRel (entsO o) C/\hgtO o<=19)) (hm:m<=3900000) (hi:id.size<=96) (c:Ck) (hf:cAt C id=some c) :
 Calls Tryz.prog 62 #[.pointer (some ⟨sb,0,none⟩),.string id] w fun e w'=>e=.returned (.tuple #[c.v,.bool true,.int .i64 0])/\Hid (CGo w1 w w' K sb rb ti tl n m S):=by
 obtain ⟨w0,hw0⟩:=exE (w.alloc (.cells #[.int .i64 0,.int .i64 0,.int .i64 0] 124))
 have blk:Hid (w0.heap[w.heap.size]?=some (.cells #[.int .i64 0,.int .i64 0,.int .i64 0] 124 (0,0))):=Hd (by
  subst hw0;exact heap_alloc_new _ _)
 have HB0:Hid (Below w.heap.size w w0):=Hd (by subst hw0;exact (Below.refl w.heap.size w).alloc (Nat.le_refl _) _)
 have G0:Hid (CGo w1 w0 w0 (fun k=>K k\/k=w.heap.size) sb rb ti tl n m S):=Hd ⟨h.new HB0.out _ (Nat.le_refl _) (lt_of_heap blk.out),fun _ _=>rfl⟩
 have GT:=idx_get id G0 ho hm
 obtain ⟨s0,s1,s2⟩:=G0.out.1.2.cells
 have HH:=Hd h
 have HF:=Hd hf
 have HO:Hid c.Ok:=Hd (ho.out.2.1.ok c (cAt_some hf).1)
 have hi':¬id.size > 96:=by omega
 clear h hf hm hi ho
 go_enter Tryz.func62,Tryz.ntmps62
 go_wp2_with fail
 refine GT.mono ?_
 rintro e w2 ⟨v,ok,rfl,hv,G2⟩
 obtain ⟨rfl,rfl⟩:ok=true/\v=c.val:=by
  rcases hv with ⟨c',hc,-,h1,h2⟩|⟨hc,-⟩
  ·rw [HF.out] at hc;cases hc;exact ⟨h1,h2⟩
  ·rw [HF.out] at hc;cases hc
 have RD:=read_k c HO.out G2
 clear GT hv
 go_wp2_with fail
 refine RD.mono ?_
 rintro e w3 ⟨g,k,hbg,rfl,⟨d0,d1,d2⟩,G3⟩
 have hb3:w3.heap[w.heap.size]?=some (.cells #[.int .i64 0,.int .i64 0,.int .i64 0] 124 (0,0)):=(G3.out.2 _ (.inr rfl)).trans blk.out
 obtain ⟨c0,c1,c2⟩:=cells3 hb3
 have f0:∀ i,w3.frozen? ⟨w.heap.size,i,none⟩=false:=fun i=>frozen_lit hb3 i
 have hgx:g≠w.heap.size:=by
  have:=(G2.out.1.klt (.inr rfl):w.heap.size<w2.heap.size)
  omega
 have KP:=Hd (fun i v0 v1 v2=>set3_cell (W:=w3) (i:=i) hgx v0 v1 v2)
 have DD:Hid (w3.cell? ⟨g,0,none⟩=some (.int .u64 (c.page:Int))/\w3.cell? ⟨g,2,none⟩=some (.int .u64 (c.text.size:Int))/\w3.cell? ⟨g,4,none⟩=some (.int .u64 (sgn64 c.cnt:Int))):=Hd ⟨d0,d1,d2⟩
 clear RD G2 hb3 hbg hgx
 have k0:IntKind.i64.wrap (c.page:Int)=(c.page:Int):=by
  have:=HO.out.page
  simp [IntKind.wrap,IntKind.bits,IntKind.signed];omega
 have k1:IntKind.i64.wrap (c.text.size:Int)=(c.text.size:Int):=by
  have:=HO.out.t2
  simp [IntKind.wrap,IntKind.bits,IntKind.signed];omega
 have k2:IntKind.i64.wrap (sgn64 c.cnt:Int)=c.cnt:=sgn64_back _ (by have:=HO.out.c1;omega) (by have:=HO.out.c2;omega)
 have HV:Hid (.agg #[.int .i64 (c.page:Int),.int .i64 (c.text.size:Int),.int .i64 c.cnt]=c.v):=Hd rfl
 generalize c.page=z0 at *
 generalize c.text.size=z1 at *
 generalize sgn64 c.cnt=z2 at *
 generalize c.cnt=z3 at *
 go_wp2_with fail
 go_region_held3 (fun w'=>w'.cell? ⟨g,0,none⟩=some (.int .u64 (z0:Int))/\w'.cell? ⟨g,2,none⟩=some (.int .u64 (z1:Int))/\w'.cell? ⟨g,4,none⟩=some (.int .u64 (z2:Int))) (first|(go_keep;done)|exact ⟨(KP.out 0 _ _ _).trans DD.out.1,(KP.out 2 _ _ _).trans DD.out.2.1,(KP.out 4 _ _ _).trans DD.out.2.2⟩) (fail)
 all_goals go_wp2_with fail
 all_goals (
  have hE:=Hd (CGo.drew (HH.out.fin G3.out HB0.out (.int .i64 (z0:Int)) (.int .i64 (z1:Int)) (.int .i64 z3)))
  refine bodyPost_ret (v:=.tuple #[.agg #[.int .i64 (z0:Int),.int .i64 (z1:Int),.int .i64 z3],.bool true,.int .i64 0]) (by simp [results,Tryz.results62,go_sem,c0,c1,c2,f0]) rfl ⟨?_,hE⟩
  rw [HV.out])
end
def Chs (w1 w0 w:World) (K:Nat->Prop) (sb rb ti tl n N a:Nat) (C:List Ck) (L:List Lg) (nx:Nat) (X:List (Nat × ByteArray)):Prop :=
 ∃ S o0 o1,CGo w1 w0 w K sb rb ti tl n (300*a) S/\TwoM S n (24*(N-a)) o0 o1 a a X/\CRel (entsO o0) C/\GRel (entsO o1) L nx/\S.root 2=nx/\nx<=a
section
variable {w1 w w' w0 W:World} {K K':Nat->Prop} {sb rb ti tl n N a a' nx:Nat} {C:List Ck} {L:List Lg} {X:List (Nat × ByteArray)}
theorem Chs.below (h:Chs w1 w0 w K sb rb ti tl n N a C L nx X) (hb:Below w.heap.size w w'):Chs w1 w0 w' K sb rb ti tl n N a C L nx X:=by
 obtain ⟨S,o0,o1,h1,h2⟩:=h
 exact ⟨S,o0,o1,h1.below hb,h2⟩
theorem Chs.mono (h:Chs w1 w0 w K sb rb ti tl n N a C L nx X) (hK:∀ k,K' k->K k):Chs w1 w0 w K' sb rb ti tl n N a C L nx X:=by
 obtain ⟨S,o0,o1,h1,h2⟩:=h
 exact ⟨S,o0,o1,⟨h1.1.mono hK,h1.2.mono hK⟩,h2⟩
theorem Chs.bel (h:Chs w1 w0 w K sb rb ti tl n N a C L nx X):Below w1.heap.size w1 w:=by obtain ⟨S,o0,o1,h1,h2⟩:=h;exact h1.1.bel
theorem Chs.klt (h:Chs w1 w0 w K sb rb ti tl n N a C L nx X) {k:Nat} (hk:K k):k<w.heap.size:=by obtain ⟨S,o0,o1,h1,h2⟩:=h;exact h1.1.klt hk
theorem Chs.kept (h:Chs w1 w0 w K sb rb ti tl n N a C L nx X):Kept K w0 w:=by obtain ⟨S,o0,o1,h1,h2⟩:=h;exact h1.2
theorem Chs.sbk (h:Chs w1 w0 w K sb rb ti tl n N a C L nx X):SBk w sb rb ti tl:=by obtain ⟨S,o0,o1,h1,h2⟩:=h;exact h1.1.2
theorem Chs.to (h:Chs w1 w0 w K sb rb ti tl n N a C L nx X) (hk:Kept K W w0):Chs w1 W w K sb rb ti tl n N a C L nx X:=by
 obtain ⟨S,o0,o1,h1,h2⟩:=h
 exact ⟨S,o0,o1,⟨h1.1,hk.trans h1.2⟩,h2⟩
theorem Chs.new (h:Chs w1 w0 w K sb rb ti tl n N a C L nx X) (hb:Below w.heap.size w w') (x:Nat) (h1:w.heap.size<=x) (h2:x<w'.heap.size):Chs w1 w' w' (fun k=>K k\/k=x) sb rb ti tl n N a C L nx X:=by
 obtain ⟨S,o0,o1,h3,h4⟩:=h
 exact ⟨S,o0,o1,⟨h3.1.new hb x h1 h2,fun _ _=>rfl⟩,h4⟩
theorem Chs.keep (h:Chs w1 w0 w K sb rb ti tl n N a C L nx X) (hb:Below w.heap.size w w'):Kept K w w':=by obtain ⟨S,o0,o1,h1,h2⟩:=h;exact h1.1.keep hb
theorem Chs.ok (h:Chs w1 w0 w K sb rb ti tl n N a C L nx X):(∀ c∈C,c.Ok)/\CSrt C/\(∀ e∈L,e.Ok/\e.n<nx)/\nx<=a:=by
 obtain ⟨S,o0,o1,h1,h2,h3,h4,h5,h6⟩:=h
 exact ⟨h3.ok,h3.srt h2.srt0,h4.ok,h6⟩
theorem Chs.end_ (h:Chs w1 w0 w K sb rb ti tl n N a C L nx X) {C':List Ck} {L':List Lg} {nx':Nat} {X':List (Nat × ByteArray)} {w2:World} (g:Chs w1 w2 w' (fun k=>K k\/K' k) sb rb ti tl n N a' C' L' nx' X') (hb:Below w.heap.size w w2):Chs w1 w0 w' K sb rb ti tl n N a' C' L' nx' X':=by
 have:=g.mono (K':=K) fun k hk=>.inl hk
 exact (this.to (h.keep hb)).to h.kept
theorem find_no (id:ByteArray) (h:Hid (Chs w1 w0 w K sb rb ti tl n N a C L nx X)) (hN:a<=N/\N<=1000) (hi:id.size<=96) (hf:cAt C id=none) :
 Calls Tryz.prog 62 #[.pointer (some ⟨sb,0,none⟩),.string id] w fun e w'=>e=.returned (.tuple #[ck0,.bool false,.int .i64 0])/\Hid (Chs w1 w0 w' K sb rb ti tl n N a C L nx X):=by
 obtain ⟨S,o0,o1,h1,h2,h3,h4⟩:=h.out
 refine (find_noC w1 w K sb rb ti tl n (300*a) S o0 C id h1.1 (Hd ⟨h2.t0,h3,h2.hgt0 (by omega)⟩) (by omega) hi hf).mono ?_
 rintro e w' ⟨rfl,hE⟩
 exact ⟨rfl,Hd ⟨S,o0,o1,⟨hE.out.1,h1.2.trans hE.out.2⟩,h2,h3,h4⟩⟩
theorem find_yes (id:ByteArray) (c:Ck) (h:Hid (Chs w1 w0 w K sb rb ti tl n N a C L nx X)) (hN:a<=N/\N<=1000) (hi:id.size<=96) (hf:cAt C id=some c) :
 Calls Tryz.prog 62 #[.pointer (some ⟨sb,0,none⟩),.string id] w fun e w'=>e=.returned (.tuple #[c.v,.bool true,.int .i64 0])/\Hid (Chs w1 w0 w' K sb rb ti tl n N a C L nx X):=by
 obtain ⟨S,o0,o1,h1,h2,h3,h4⟩:=h.out
 refine (find_yesC w1 w K sb rb ti tl n (300*a) S o0 C id h1.1 (Hd ⟨h2.t0,h3,h2.hgt0 (by omega)⟩) (by omega) hi c hf).mono ?_
 rintro e w' ⟨rfl,hE⟩
 exact ⟨rfl,Hd ⟨S,o0,o1,⟨hE.out.1,h1.2.trans hE.out.2⟩,h2,h3,h4⟩⟩
theorem idx_put (c:Ck) (hc:c.Ok) (h:Hid (Chs w1 w0 w K sb rb ti tl n N a C L nx X)) (hN:a<N/\N<=1000) :
 Calls Tryz.prog 71 #[.pointer (some ⟨ti,0,none⟩),.string c.id,.string c.val] w fun e w'=>e=.returned (.int .i64 0)/\Hid (∃ C',Chs w1 w0 w' K sb rb ti tl n N (a+1) C' L nx X/\PutC c C C'):=by
 obtain ⟨S,o0,o1,h1,h2,h3,h4,h5,h6⟩:=h.out
 have hh:=wtO_hgt (k:=10) h2.t0 h2.w0 (by omega)
 refine (put_r w1 w _ ti rb 0 n (300*a) S o0 10 c.id c.val h1.1.1 h1.1.2.2.1 (.inr (.inr (.inl rfl))) h2.t0 (h2.sp.less (by omega)) (by decide) (by omega) (by have:=hc.id;omega) (Ck.val_size c) (by decide) hh).mono ?_
 rintro e w' ⟨rfl,hE⟩
 obtain ⟨S',o',x1,x2,g1,g2,g3,g4,g5,g6,g7,g8⟩:=hE.out
 obtain ⟨C',y1,y2⟩:=h3.ins hc g2
 have hg:=h1.1.of x1 x2
 have hr:S'.root 2=S.root 2:=g1.frm.root 2 (by decide)
 refine ⟨rfl,Hd ⟨C',⟨S',o',o1,⟨hg.1.more (by omega),h1.2.trans hg.2⟩,(h2.go0 (c':=24*(N-(a+1))) (b0:=a+1) g1 (g5 _ (h2.sp.less (by omega))) (by have:=h2.w0;omega)).less (Nat.le_refl _) (Nat.le_refl _) (by omega),y1,h4,hr.trans h5,by omega⟩,y2⟩⟩
theorem log_put (e:Lg) (he:e.Ok) (hn:e.n=nx) (h:Hid (Chs w1 w0 w K sb rb ti tl n N a C L nx X)) (hN:a<N/\N<=1000) :
 Calls Tryz.prog 71 #[.pointer (some ⟨tl,0,none⟩),.string (lkey nx),.string e.val] w fun e' w'=>e'=.returned (.int .i64 0)/\Hid (∃ S o0 o1,CGo w1 w0 w' K sb rb ti tl n (300*a+100) S/\TwoM S n (24*(N-(a+1))+1) o0 o1 (a+1) (a+1) X/\CRel (entsO o0) C/\GRel (entsO o1) (L++[e]) (nx+1)/\S.root 2=nx/\nx<=a):=by
 obtain ⟨S,o0,o1,h1,h2,h3,h4,h5,h6⟩:=h.out
 have hh:=wtO_hgt (k:=10) h2.t1 h2.w1 (by omega)
 refine (put_r w1 w _ tl rb 1 n (300*a) S o1 10 (lkey nx) e.val h1.1.1 h1.1.2.2.2 (.inr (.inr (.inr rfl))) h2.t1 (h2.sp.less (by omega)) (by decide) (by omega) (by have:=lkey_size nx;omega) (Lg.val_size he) (by decide) hh).mono ?_
 rintro e' w' ⟨rfl,hE⟩
 obtain ⟨S',o',x1,x2,g1,g2,g3,g4,g5,g6,g7,g8⟩:=hE.out
 have hg:=h1.1.of x1 x2
 have hr:S'.root 2=S.root 2:=g1.frm.root 2 (by decide)
 refine ⟨rfl,Hd ⟨S',o0,o',⟨hg.1,h1.2.trans hg.2⟩,(h2.go1 (c':=24*(N-(a+1))+1) (b1:=a+1) g1 (g5 _ (h2.sp.less (by omega))) (by have:=h2.w1;omega)).less (Nat.le_refl _) (by omega) (Nat.le_refl _),h3,h4.put hn he (by rw [hn];exact g2),hr.trans h5,h6⟩⟩
theorem log_del (e:Lg) (h:Hid (Chs w1 w0 w K sb rb ti tl n N a C (e::L) nx X)) (hN:a<N/\N<=1000) :
 Calls Tryz.prog 74 #[.pointer (some ⟨tl,0,none⟩),.string (lkey e.n)] w fun e' w'=>e'=.returned (.tuple #[.bool true,.int .i64 0])/\Hid (Chs w1 w0 w' K sb rb ti tl n N (a+1) C L nx X):=by
 obtain ⟨S,o0,o1,h1,h2,h3,h4,h5,h6⟩:=h.out
 have hh:=wtO_hgt (k:=10) h2.t1 h2.w1 (by omega)
 refine (del_r w1 w _ tl rb 1 n (300*a) S o1 (lkey e.n) h1.1.1 h1.1.2.2.2 (.inr (.inr (.inr rfl))) h2.t1 (by decide) (by omega) (by omega)).mono ?_
 rintro e' w' ⟨was,rfl,hE⟩
 obtain ⟨S',o',x1,x2,g1⟩:=hE.out
 rcases g1 with ⟨rfl,g1,g2,g3,g4,g5,g6⟩|⟨rfl,-,-,g3⟩
 ·have hg:=h1.1.of x1 x2
  have hr:S'.root 2=S.root 2:=g1.frm.root 2 (by decide)
  refine ⟨rfl,Hd ⟨S',o0,o',⟨hg.1.more (by omega),h1.2.trans hg.2⟩,(h2.go1 (c':=24*(N-(a+1))) (b1:=a+1) g1 (g4 _ (h2.sp.less (by omega))) (by have:=h2.w1;omega)).less (Nat.le_refl _) (by omega) (Nat.le_refl _),h3,h4.del h2.srt1 g2,hr.trans h5,by omega⟩⟩
 ·exact absurd rfl (g3 (encL e) (by rw [h4.eq];simp))
end
theorem strOneK (x:UInt8):strOfNums [(x.toNat:Int)]=⟨#[x]⟩:=by
 apply ByteArray.ext
 simp [strOfNums]
theorem conv_k (k:Nat) (hk:k<256) (W:World) (g:Nat) (h:W.cell? ⟨g,0,none⟩=some (.int .u8 (k:Int))):(convert 91 9 (.slice (some ⟨g,0,none⟩) 1 1)).run Tryz.prog W=.ok (.string ⟨#[UInt8.ofNat k]⟩) W:=by
 have hx:((UInt8.ofNat k).toNat:Int)=(k:Int):=by
  rw [UInt8.toNat_ofNat'];omega
 have:=run_convert_bytes_arg (P:=Tryz.prog) W 91 5 Tryz.underlying91 Tryz.underlying5 g 0 1 1 [((UInt8.ofNat k).toNat:Int)] rfl (fun i hi=>by
  obtain rfl:i=0:=by omega
  rw [hx]
  exact h) 9 Tryz.underlying9
 rwa [strOneK] at this
theorem name_c (p:ByteArray) (k:Nat) (w:World) (hp:p.size<=100000) (hk:k<256):Calls Tryz.prog 64 #[.string p,.int .i64 (k:Int)] w fun e w'=>e=.returned (.string (nameB p k))/\Hid (Below w.heap.size w w'):=by
 have k0:IntKind.u8.wrap (k:Int)=(k:Int):=by
  simp [IntKind.wrap,IntKind.bits,IntKind.signed];omega
 have HB:Hid (∀ o:Obj,Below w.heap.size w (w.alloc o)):=Hd fun o=>(Below.refl w.heap.size w).alloc (Nat.le_refl _) o
 have cv:=conv_k k hk (w.alloc (.cells #[.int .u8 (k:Int)] 5)) w.heap.size (cell_lit (heap_alloc_new _ _) rfl)
 obtain ⟨x,hx⟩:∃ x:ByteArray,(⟨#[UInt8.ofNat k]⟩:ByteArray)=x:=⟨_,rfl⟩
 have hxs:x.size=1:=by rw [<-hx];rfl
 have h1:(p.size+x.size > 9223372036854775807)=False:=by simp;omega
 have h2:¬(9223372036854775807<p.size+x.size):=by omega
 have HN:Hid (p++x=nameB p k):=Hd (by rw [<-hx];rfl)
 rw [hx] at cv
 clear hp hk hx hxs
 go_enter Tryz.func64,Tryz.ntmps64
 go_wp2_with fail
 go_ret
 rw [HN.out]
 exact ⟨rfl,HB.out _⟩
theorem Mark_k (w1 w w0:World) (K:Nat->Prop) (sb rb ti tl n N a nx:Nat) (C:List Ck) (L:List Lg) (X:List (Nat × ByteArray)) (h:Hid (Chs w1 w0 w K sb rb ti tl n N a C L nx X)) :
 ∃ k:Nat,Calls Tryz.prog 61 #[.pointer (some ⟨sb,0,none⟩)] w fun e w'=>e=.returned (.int .i64 (k:Int))/\w=w':=by
 have MK:∃ k:Nat,Calls Tryz.prog 114 #[.pointer (some ⟨rb,0,none⟩)] w fun e w'=>e=.returned (.int .i64 (k:Int))/\w=w':=by
  obtain ⟨S,o0,o1,h1,-⟩:=h.out
  obtain ⟨G,⟨puts,x1,x2,x3⟩,-⟩:=h1.1.1
  exact ⟨_,RMark_c G rb n puts w x2⟩
 obtain ⟨k,MK⟩:=MK
 obtain ⟨s0,s1,s2⟩:=h.out.sbk.cells
 refine ⟨k,?_⟩
 go_enter Tryz.func61,Tryz.ntmps61
 go_wp2_with fail
 refine MK.mono ?_
 rintro e w2 ⟨rfl,rfl⟩
 go_wp2_with fail
 go_ret
 exact ⟨rfl,rfl⟩
end Go.Proofs.YtdcjhpafipbpkaaGreatDoor
