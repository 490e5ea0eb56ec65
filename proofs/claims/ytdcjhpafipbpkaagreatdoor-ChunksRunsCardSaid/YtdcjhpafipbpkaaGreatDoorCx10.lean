/- Parts of the proof of ChunksRuns,joined: PackLk,PackBk,PackCk,PackWk,PackVk,PackRk,PackQk,PackZk,PackPk,PackP2k,PackP3k,ReadFk,PackFallsk,ManyP,MapE. No condition. -/
import Derived.Test.YtdcjhpafipbpkaaGreatDoorCx9
import Derived.Lib.SlTrimSet
import Derived.Lib.Strings
import Derived.Shelf.Strings.SlTrimAscii
import Derived.Deep.AppendLies
set_option linter.unusedSimpArgs false
set_option linter.unusedVariables false
set_option linter.unusedSectionVars false
namespace Go.Proofs.YtdcjhpafipbpkaaGreatDoor
def kindB (c:UInt8):Bool:=c == 110 || c == 104 || c == 98 || c == 116
def rightL:List UInt8 -> Bool
 | []=>true
 | [c]=>kindB c || c == 114
 | c :: d :: r=>kindB c && rightL (d :: r)
theorem rightL_cons {c:UInt8} {r:List UInt8} (h:r ≠ []):rightL (c :: r)=(kindB c && rightL r):=by
 cases r with
 | nil=>exact absurd rfl h
 | cons d r=>rfl
theorem rightL_snoc (m:List UInt8) (c:UInt8):rightL (m ++ [c])=(m.all kindB && (kindB c || c == 114)):=by
 induction m with
 | nil=>simp [rightL]
 | cons a m ih =>
   rw [List.cons_append,rightL_cons (by simp),ih,List.all_cons,Bool.and_assoc]
theorem dropWhile_nil {α:Type} (p:α -> Bool) (l:List α):l.dropWhile p=[] ↔ ∀ x ∈ l,p x=true:=by
 induction l with
 | nil=>simp
 | cons a l ih =>
   by_cases h:p a=true
   ·simp [h,ih]
   ·simp [h]
theorem trimS_nil (l cs:List UInt8):Lib.trimS l cs=[] ↔ ∀ x ∈ l,cs.contains x=true:=by
 unfold Lib.trimS Lib.trimLeftS Lib.trimRightS
 rw [dropWhile_nil]
 constructor
 ·intro h x hx
  have h1:x ∈ l.reverse:=by simpa using hx
  rw [<- List.takeWhile_append_dropWhile (p:=(cs.contains ·)) (l:=l.reverse)] at h1
  rcases List.mem_append.1 h1 with h2 | h2
  ·have h4:∀ (q:UInt8 -> Bool) (m:List UInt8),∀ y ∈ m.takeWhile q,q y=true:=by
    intro q m
    induction m with
    | nil=>simp
    | cons a m ih =>
      intro y hy
      rw [List.takeWhile_cons] at hy
      split at hy
      ·rcases List.mem_cons.1 hy with rfl | hy
       ·assumption
       ·exact ih y hy
      ·simp at hy
   exact h4 _ _ x h2
  ·exact h x (by simpa using h2)
 ·intro h x hx
  exact h x (by have:=List.dropWhile_sublist (cs.contains ·) (l:=l.reverse); exact List.mem_reverse.1 (this.subset (by simpa using hx)))
theorem contains_kind (x:UInt8):[(110:UInt8),104,98,116].contains x=kindB x:=by
 simp only [List.contains_cons,List.contains_nil,Bool.or_false,kindB,Bool.or_assoc]
theorem right_trim (l:List UInt8):(Lib.trimS (Lib.trimSuffix l [114]) [110,104,98,116]=[]) ↔ rightL l=true:=by
 rw [trimS_nil]
 simp only [contains_kind]
 have hall:∀ m:List UInt8,(∀ x ∈ m,kindB x=true) ↔ m.all kindB=true:=fun m=>by simp [List.all_eq_true]
 rw [hall]
 rcases List.eq_nil_or_concat l with rfl | ⟨m,c,rfl⟩
 ·simp [Lib.trimSuffix,Lib.hasSuffix,rightL]
 ·simp only [List.concat_eq_append]
  rw [rightL_snoc]
  by_cases hc:c=114
  ·subst hc
   have h1:Lib.trimSuffix (m ++ [114]) [114]=m:=by
    simp [Lib.trimSuffix,Lib.hasSuffix,List.isSuffixOf]
   rw [h1]; simp
  ·have h1:Lib.trimSuffix (m ++ [c]) [114]=m ++ [c]:=by
    simp [Lib.trimSuffix,Lib.hasSuffix,List.isSuffixOf,Ne.symm hc]
   rw [h1,List.all_append]
   simp [hc]
theorem right_trim' (l:List UInt8):(Lib.trimS (Lib.trimSuffix l [114]) [110,104,98,116]).isEmpty=rightL l:=by
 rw [Bool.eq_iff_iff,List.isEmpty_iff]; exact right_trim l
open Go.RowKit
theorem ret_bool {a b:Bool} (h:a=b):Ending.returned (.bool a)=.returned (.bool b):=by rw [h]
set_option maxHeartbeats 400000 in
theorem Right_c (s:ByteArray) (w:World) (hs:s.size <= 1000000000) :
 Calls Tryz.prog 120 #[.string s] w fun e w'=>e=.returned (.bool (rightL s.data.toList)) /\ Below w.heap.size w w':=by
 go_enter Tryz.func120,Tryz.ntmps120
 go_wp2_with fail
 refine (Tryz.strings_TrimSuffix s _ w (by omega)).mono ?_
 rintro e w1 ⟨rfl,rfl⟩
 have hts:(ByteArray.mk (Lib.trimSuffix s.data.toList [114]).toArray).size <= s.size:=by
  show (Lib.trimSuffix s.data.toList [114]).toArray.size <= s.size
  unfold Lib.trimSuffix
  rw [List.size_toArray]
  have:s.data.toList.length=s.size:=by simp
  split
  ·have:=List.length_take_le (s.data.toList.length - [(114:UInt8)].length) s.data.toList; omega
  ·omega
 have e1:(ByteArray.mk (Lib.trimSuffix s.data.toList [114]).toArray).data.toList=Lib.trimSuffix s.data.toList [114]:=by simp
 have HE:=Hd e1
 clear e1
 generalize hx:ByteArray.mk (Lib.trimSuffix s.data.toList _).toArray=x
 rw [show (ByteArray.mk (Lib.trimSuffix s.data.toList [114]).toArray)=x from hx] at HE hts
 clear hx
 go_wp2_with fail
 refine (Any.strings_Trim_laid Tryz.lays160 (by kernel_rfl) x ⟨#[110,104,98,116]⟩ _ (by omega) (by decide) (ascii_of_all (by decide))).mono ?_
 rintro e w2 ⟨rfl,hb⟩
 rw [HE.out]
 have Hb:=Hd hb
 clear hb
 go_wp2_with fail
 go_ret
 exact ⟨ret_bool (right_trim' _),Hb.out⟩
theorem bld_new (w:World):Bld w.heap.size w.heap.size [] (w.alloc (.cells #[.pointer none,.slice none 0 0] 156)) :=
 .inl ⟨Nat.le_refl _,_,heap_alloc_new _ _,World.ownsRowF_of (World.ownsRow_nil _ _ _ _),by simp [Value.ownBlock]⟩
theorem extract_take (s:ByteArray) (k:Nat):s.extract 0 k=⟨(s.data.toList.take k).toArray⟩:=by
 apply ByteArray.ext; apply Array.ext'; simp [ByteArray.data_extract]
theorem extract_drop (s:ByteArray) (k:Nat):s.extract k s.size=⟨(s.data.toList.drop k).toArray⟩:=by
 apply ByteArray.ext; apply Array.ext'
 rw [Lib.extract_data,List.take_of_length_le (by simp)]
theorem u8_eq_toNat (c:UInt8) (n:Nat) (hn:n < 256):((c.toNat:Int) == (n:Int))=(c == UInt8.ofNat n):=by
 rw [Bool.eq_iff_iff]; simp only [beq_iff_eq]
 constructor
 ·intro h
  have:c.toNat=n:=by omega
  rw [<- this,UInt8.ofNat_toNat]
 ·intro h; rw [h,UInt8.toNat_ofNat']; omega
abbrev Fld:=Nat × ByteArray
def fcells (l:List Fld):List Value:=l.flatMap fun p=>[.int .u64 p.1,.string p.2]
def FldsAt (w:World) (v:Value) (l:List Fld):Prop :=
 (∃ a cap,v=.slice a l.length cap /\ ∀ k,(h:k < l.length) -> ∃ b off,a=some ⟨b,off,none⟩ /\ w.cell? ⟨b,off + k * 2,none⟩=some (.int .u64 l[k].1) /\ w.cell? ⟨b,off + k * 2 + 1,none⟩=some (.string l[k].2) /\ b < w.heap.size) /\
   ∀ p ∈ l,p.1 < 18446744073709551616
theorem FldsAt.get {w:World} {a:Option Addr} {n cap:Nat} {l:List Fld} (h:FldsAt w (.slice a n cap) l) (k:Nat) (hk:k < l.length) :
 ∃ b off,a=some ⟨b,off,none⟩ /\ w.cell? ⟨b,off + k * 2,none⟩=some (.int .u64 l[k].1) /\ w.cell? ⟨b,off + k * 2 + 1,none⟩=some (.string l[k].2) /\ b < w.heap.size:=by
 obtain ⟨⟨a',c',e,hc⟩,_⟩:=h
 cases e
 exact hc k hk
theorem FldsAt.form {w:World} {v:Value} {l:List Fld} (h:FldsAt w v l):∃ a cap,v=.slice a l.length cap:=by
 obtain ⟨⟨a,c,e,_⟩,_⟩:=h; exact ⟨a,c,e⟩
theorem FldsAt.below {w w':World} {v:Value} {l:List Fld} (h:FldsAt w v l) (hb:Below w.heap.size w w'):FldsAt w' v l:=by
 obtain ⟨⟨a,c,rfl,hc⟩,hn⟩:=h
 refine ⟨⟨a,c,rfl,fun k hk=>?_⟩,hn⟩
 obtain ⟨b,off,e,h1,h2,h3⟩:=hc k hk
 exact ⟨b,off,e,(hb.cell (p:=⟨b,off + k * 2,none⟩) h3).trans h1,(hb.cell (p:=⟨b,off + k * 2 + 1,none⟩) h3).trans h2,Nat.lt_of_lt_of_le h3 hb.size⟩
def wr1 (k:UInt8) (f:Fld):Option (List UInt8) :=
 if kindB k=true /\ k ≠ 116 then (if f.2.size ≠ 0 \/ 256 ^ (widthB k.toNat).toNat <= f.1 then none else some (be f.1 (widthB k.toNat).toNat))
 else if f.1 ≠ 0 then none
 else if k=116 then (if 65535 < f.2.size then none else some (be f.2.size 2 ++ f.2.data.toList))
 else some f.2.data.toList
def wrL:List UInt8 -> List Fld -> Option (List UInt8)
 | k :: ks,f :: fs=>match wr1 k f with
   | none=>none
   | some a=>(wrL ks fs).map (a ++ ·)
 | _,_=>some []
theorem wrL_step {ks:List UInt8} {fs:List Fld} {k:Nat} {acc:List UInt8} (h1:k < ks.length) (h2:k < fs.length) (h:wrL ks fs=(wrL (ks.drop k) (fs.drop k)).map (acc ++ ·)) :
 (wr1 ks[k] fs[k]=none -> wrL ks fs=none) /\ (∀ a,wr1 ks[k] fs[k]=some a -> wrL ks fs=(wrL (ks.drop (k + 1)) (fs.drop (k + 1))).map ((acc ++ a) ++ ·)):=by
 have e:wrL (ks[k] :: ks.drop (k + 1)) (fs[k] :: fs.drop (k + 1))=(match wr1 ks[k] fs[k] with | none=>none | some a=>(wrL (ks.drop (k + 1)) (fs.drop (k + 1))).map (a ++ ·)):=rfl
 rw [List.drop_eq_getElem_cons h1,List.drop_eq_getElem_cons h2,e] at h
 constructor
 ·intro hn; rw [hn] at h; exact h
 ·intro a ha
  rw [ha] at h
  rw [h]
  cases wrL (ks.drop (k + 1)) (fs.drop (k + 1)) <;> simp
theorem Bld.kept {B b:Nat} {l:List UInt8} {w w':World} (h:Bld B b l w) (hk:∀ j,j < w.heap.size -> w'.heap[j]?=w.heap[j]?):Bld B b l w':=by
 have one:∀ p,Lib.BuilderAtF 156 5 B b p (Lib.byteCells l) w -> Lib.BuilderAtF 156 5 B b p (Lib.byteCells l) w':=by
  rintro p ⟨hB,v,hb,⟨h1,h2⟩,hne⟩
  refine ⟨hB,v,(hk b (lt_of_heap hb)).trans hb,⟨h1,?_⟩,hne⟩
  rcases h2 with h2 | ⟨g,cap,cur,fz,rfl,hg,hh,r⟩
  ·exact .inl h2
  ·exact .inr ⟨g,cap,cur,fz,rfl,hg,(hk g (lt_of_heap hh)).trans hh,r⟩
 exact h.elim (fun x=>.inl (one _ x)) (fun x=>.inr (one _ x))
theorem Bld.alloc {B b:Nat} {l:List UInt8} {w:World} (h:Bld B b l w) (o:Obj):Bld B b l (w.alloc o):=h.kept (fun j hj=>heap_alloc_lt o hj)
theorem wstr_c (B b:Nat) (l:List UInt8) (S:ByteArray) (w:World) (h:Bld B b l w) (hB:B <= w.heap.size) (hl:l.length + S.size <= 100000000000) :
 Calls Tryz.prog 82 #[.pointer (some ⟨b,0,none⟩),.string S] w fun e w'=>e=.returned (.tuple #[.int .i64 S.size,.nilIface]) /\ (Bld B b (l ++ S.data.toList) w' /\ Below B w w'):=by
 refine (Tryz.Builder_WriteString_k B b (Lib.byteCells l) S w h (by rw [byteCells_length]; omega) hB).mono ?_
 rintro e w' ⟨rfl,h1,h2,h3⟩
 refine ⟨rfl,?_,h2⟩
 have e:Lib.byteCells l ++ Lib.strCells S=Lib.byteCells (l ++ S.data.toList):=by rw [Lib.strCells_eq]; simp [Lib.byteCells]
 rw [e] at h1
 exact Bld.of h1
theorem kept_lit {e:TypeId} {b k:Nat} {w w':World} (h:Lib.OthersKept e (some b) w w') {i:Nat} {v:Value} {c:Array Value} {ty:TypeId} {fz:Nat × Nat} (ho:w.heap[k]?=some (.cells c ty fz)) (hb:k ≠ b) (hty:ty ≠ e) (hv:c[i]?=some v):w'.cell? ⟨k,i,none⟩=some v :=
 cell_lit (h _ _ ho (by simpa using hb) (by rintro c fz h; cases h; exact hty rfl)) hv
theorem Bld.lt {B b:Nat} {l:List UInt8} {w:World} (h:Bld B b l w):b < w.heap.size :=
 h.elim (fun x=>lt_of_heap x.2.choose_spec.1) (fun x=>lt_of_heap x.2.choose_spec.1)
def WrRel (w:World) (ks:List UInt8) (fs:List Fld) (g:Nat) (s22:Value) (wr:World):Prop :=
 ∃ k acc,g=fs.length - k /\ k <= fs.length /\ s22=.int .i64 k /\ Bld w.heap.size w.heap.size acc wr /\ acc.length <= k * 1000010 /\ Below w.heap.size w wr /\ wrL ks fs=(wrL (ks.drop k) (fs.drop k)).map (acc ++ ·)
def WrOut (l:Option (List UInt8)):Value:=match l with
 | none=>.tuple #[.string ⟨#[]⟩,.bool false]
 | some s=>.tuple #[.string ⟨s.toArray⟩,.bool true]
theorem toList_nil (S:ByteArray):S.toList=[] ↔ S.size=0:=by
 rw [Lib.toList_data,Lib.size_eq]
 exact List.length_eq_zero_iff.symm
theorem wr1_num (c:UInt8) (wd:Nat) (n:Nat) (S:ByteArray) (h:(kindB c && c != 116)=true) (hw:(widthB c.toNat).toNat=wd) :
 wr1 c (n,S)=if S.size ≠ 0 \/ 256 ^ wd <= n then none else some (be n wd):=by
 have h1:kindB c=true /\ c ≠ 116:=by simpa using h
 unfold wr1
 rw [if_pos h1,hw]
theorem width_other (c:UInt8) (h1:c ≠ 110) (h2:c ≠ 104) (h3:c ≠ 98):widthB c.toNat=0:=by
 have f:∀ n:Nat,n < 256 -> c ≠ UInt8.ofNat n -> ¬ ((c.toNat:Int)=n):=by
  intro n hn h e
  exact h (by rw [<- Int.ofNat_inj.1 e,UInt8.ofNat_toNat])
 unfold widthB
 exact (if_neg (f 110 (by decide) h1)).trans ((if_neg (f 104 (by decide) h2)).trans (if_neg (f 98 (by decide) h3)))
theorem kind_other (c:UInt8) (h1:c ≠ 110) (h2:c ≠ 104) (h3:c ≠ 98):(kindB c && c != 116)=false:=by
 unfold kindB
 by_cases h:c=116 <;> simp [h1,h2,h3,h]
theorem wr1_txt (c:UInt8) (n:Nat) (S:ByteArray) (h:(kindB c && c != 116)=false):wr1 c (n,S)=if n ≠ 0 then none else if c=116 then (if 65535 < S.size then none else some (be S.size 2 ++ S.data.toList)) else some S.data.toList:=by
 have h1:¬ (kindB c=true /\ c ≠ 116):=by intro ⟨a,b⟩; simp [a,b] at h
 unfold wr1
 rw [if_neg h1]
theorem wr1_txt_no (c:UInt8) (n:Nat) (S:ByteArray) (h:(kindB c && c != 116)=false) (hn:¬ n=0):wr1 c (n,S)=none:=by
 rw [wr1_txt c n S h,if_pos hn]
theorem wr1_t_no (n:Nat) (S:ByteArray) (hn:n=0) (hz:65535 < S.size):wr1 116 (n,S)=none:=by
 rw [wr1_txt _ n S rfl,if_neg (by simp [hn]),if_pos rfl,if_pos hz]
theorem wr1_t (n:Nat) (S:ByteArray) (hn:n=0) (hz:¬ 65535 < S.size):wr1 116 (n,S)=some (be S.size 2 ++ S.data.toList):=by
 rw [wr1_txt _ n S rfl,if_neg (by simp [hn]),if_pos rfl,if_neg hz]
theorem wr1_r (c:UInt8) (n:Nat) (S:ByteArray) (h:(kindB c && c != 116)=false) (h2:¬ c=116) (hn:n=0):wr1 c (n,S)=some S.data.toList:=by
 rw [wr1_txt _ n S h,if_neg (by simp [hn]),if_neg h2]
theorem wr_no {a b c:Nat} (h:a=0) (h2:c < b):¬ (a ≠ 0 \/ b <= c):=by omega
theorem wrOut_none {l:Option (List UInt8)} (h:l=none):WrOut l=.tuple #[.string ⟨#[]⟩,.bool false]:=by rw [h]; rfl
theorem wr_next {w wr:World} {ks:List UInt8} {fs:List Fld} {k:Nat} {acc':List UInt8} (hlt:k < fs.length) (h1:Bld w.heap.size w.heap.size acc' wr) (h2:acc'.length <= (k + 1) * 1000010) (h3:Below w.heap.size w wr)
 (h4:wrL ks fs=(wrL (ks.drop (k + 1)) (fs.drop (k + 1))).map (acc' ++ ·)):WrRel w ks fs (fs.length - (k + 1)) (.int .i64 (k + 1)) wr :=
 ⟨k + 1,acc',rfl,by omega,by simp,h1,h2,h3,h4⟩
set_option maxRecDepth 100000 in
set_option maxHeartbeats 4000000 in
theorem Write_in (s:ByteArray) (v:Value) (fs:List Fld) (w:World) (hs:s.size <= 1000) (hv:FldsAt w v fs) (hr:rightL s.data.toList=true) (hl:s.size=fs.length) (hz:∀ p ∈ fs,p.2.size <= 1000000) :
 Calls Tryz.prog 70 #[.string s,v] w fun e w'=>e=.returned (WrOut (wrL s.data.toList fs)) /\ Below w.heap.size w w':=by
 have HV:=Hd hv
 obtain ⟨a,cap,rfl⟩:=hv.form
 have rc:=Right_c s w (by omega)
 rw [hr] at rc
 have HZ:=Hd hz
 have HL:=Hd hl
 have q1:((s.size:Int) == (fs.length:Int))=true:=by simp; omega
 have q2:((s.size:Int) != (fs.length:Int))=false:=by simp; omega
 clear hv hr hz hl
 go_enter Tryz.func70,Tryz.ntmps70
 go_wp2_with fail
 refine rc.mono ?_
 rintro e w0 ⟨rfl,hb0⟩
 have HV0:=Hd ((HV.out).below hb0)
 have HB0:=Hd hb0
 clear rc hb0
 have R0:=Hd (show WrRel w0 s.data.toList fs fs.length (.int .i64 0) (w0.alloc (.cells #[.pointer none,.slice none 0 0] 156)) from
  ⟨0,[],by omega,Nat.zero_le _,rfl,bld_new w0,by simp,(Below.refl _ _).alloc (Nat.le_refl _) _,by simp⟩)
 go_wp2_with fail
 go_loopg [22] fs.length (fun g s22 wr=>WrRel w0 s.data.toList fs g s22 wr)
 case atStart=>exact R0.out
 case round =>
  obtain ⟨k,acc,rfl,hk,rfl,hbl,hacc,hb,hw⟩:=hrel
  clear R0
  by_cases hlt:k < fs.length
  ·have hks:k < s.size:=by rw [HL.out]; exact hlt
   have hks':k < s.data.toList.length:=by simpa using hks
   obtain ⟨fb,fo,rfl,c1,c2,hbl2⟩:=(HV0.out).get k hlt
   have c1:=(hb.cell (p:=⟨fb,fo + k * 2,none⟩) hbl2).trans c1
   have c2:=(hb.cell (p:=⟨fb,fo + k * 2 + 1,none⟩) hbl2).trans c2
   have hN:=(HV0.out).2 fs[k] (List.getElem_mem hlt)
   have hS:=(HZ.out) fs[k] (List.getElem_mem hlt)
   have HST:=Hd (wrL_step hks' hlt hw)
   have hge:s.data.toList[k]=s[k]:=by simp; rfl
   rw [hge] at HST
   have HB:=Hd hb
   have HBL:=Hd hbl
   have HC:=Hd (u8_eq_toNat s[k])
   clear hw hb hbl hge
   generalize fs[k]=f at *
   obtain ⟨n,S⟩:=f
   simp only at c1 c2 hN hS
   by_cases k110:s[k]=110
   ·have W:∀ w,Calls Tryz.prog 121 #[.int .u8 110] w (fun e w'=>e=.returned (.int .i64 8) /\ w=w'):=fun w=>width_c 110 w
    rw [k110] at HST
    have HW:=Hd (wr1_num 110 8 n S rfl rfl)
    by_cases hS0:S.toList=[]
    ·have hn:n < 18446744073709551616:=hN
     have HE:=Hd (HST.out.2 (be n 8) (by rw [HW.out,if_neg (wr_no ((toList_nil _).1 hS0) (by simpa using hn))]))
     go_wp2_with (go_at_call 121; refine (W _).mono ?_; rintro e w1 ⟨rfl,rfl⟩)
     refine (number_c w0.heap.size w0.heap.size n 8 acc _ (HBL.out.alloc _) (by have:=HB.out.size; simp; omega) hN (by omega) (by omega)).mono ?_
     rintro e w2 ⟨rfl,g1,g2,g3⟩
     have R1:=Hd (wr_next hlt g1 (by rw [List.length_append,be_length]; omega) (((HB.out).alloc (HB.out).size _).trans g2) HE.out)
     clear g1 g2 g3
     go_wp2_with fail
     go_roundg (fs.length - (k + 1))
     case measure=>omega
     case rel=>exact R1.out
    ·have HE:=Hd (wrOut_none (HST.out.1 (by rw [HW.out,if_pos (Or.inl (fun h=>hS0 ((toList_nil _).2 h)))])))
     go_wp2_with (go_at_call 121; refine (W _).mono ?_; rintro e w1 ⟨rfl,rfl⟩)
     go_ret2
     exact ⟨by rw [HE.out]; rfl,(HB0.out).trans (((HB.out).alloc (HB.out).size _).mono (HB0.out).size)⟩
   ·by_cases k104:s[k]=104
    ·have W:∀ w,Calls Tryz.prog 121 #[.int .u8 104] w (fun e w'=>e=.returned (.int .i64 4) /\ w=w'):=fun w=>width_c 104 w
     rw [k104] at HST
     have HW:=Hd (wr1_num 104 4 n S rfl rfl)
     by_cases hS0:S.toList=[]
     ·by_cases hn:n < 4294967296
      ·have HE:=Hd (HST.out.2 (be n 4) (by rw [HW.out,if_neg (wr_no ((toList_nil _).1 hS0) (by simpa using hn))]))
       go_wp2_with (go_at_call 121; refine (W _).mono ?_; rintro e w1 ⟨rfl,rfl⟩)
       refine (number_c w0.heap.size w0.heap.size n 4 acc _ (HBL.out.alloc _) (by have:=HB.out.size; simp; omega) hN (by omega) (by omega)).mono ?_
       rintro e w2 ⟨rfl,g1,g2,g3⟩
       have R1:=Hd (wr_next hlt g1 (by rw [List.length_append,be_length]; omega) (((HB.out).alloc (HB.out).size _).trans g2) HE.out)
       clear g1 g2 g3
       go_wp2_with fail
       go_roundg (fs.length - (k + 1))
       case measure=>omega
       case rel=>exact R1.out
      ·have HE:=Hd (wrOut_none (HST.out.1 (by rw [HW.out,if_pos (Or.inr (by simpa using hn))])))
       go_wp2_with (go_at_call 121; refine (W _).mono ?_; rintro e w1 ⟨rfl,rfl⟩)
       go_ret2
       exact ⟨by rw [HE.out]; rfl,(HB0.out).trans (((HB.out).alloc (HB.out).size _).mono (HB0.out).size)⟩
     ·have HE:=Hd (wrOut_none (HST.out.1 (by rw [HW.out,if_pos (Or.inl (fun h=>hS0 ((toList_nil _).2 h)))])))
      go_wp2_with (go_at_call 121; refine (W _).mono ?_; rintro e w1 ⟨rfl,rfl⟩)
      go_ret2
      exact ⟨by rw [HE.out]; rfl,(HB0.out).trans (((HB.out).alloc (HB.out).size _).mono (HB0.out).size)⟩
    ·by_cases k98:s[k]=98
     ·have W:∀ w,Calls Tryz.prog 121 #[.int .u8 98] w (fun e w'=>e=.returned (.int .i64 1) /\ w=w'):=fun w=>width_c 98 w
      rw [k98] at HST
      have HW:=Hd (wr1_num 98 1 n S rfl rfl)
      by_cases hS0:S.toList=[]
      ·by_cases hn:n < 256
       ·have HE:=Hd (HST.out.2 (be n 1) (by rw [HW.out,if_neg (wr_no ((toList_nil _).1 hS0) (by simpa using hn))]))
        go_wp2_with (go_at_call 121; refine (W _).mono ?_; rintro e w1 ⟨rfl,rfl⟩)
        refine (number_c w0.heap.size w0.heap.size n 1 acc _ (HBL.out.alloc _) (by have:=HB.out.size; simp; omega) hN (by omega) (by omega)).mono ?_
        rintro e w2 ⟨rfl,g1,g2,g3⟩
        have R1:=Hd (wr_next hlt g1 (by rw [List.length_append,be_length]; omega) (((HB.out).alloc (HB.out).size _).trans g2) HE.out)
        clear g1 g2 g3
        go_wp2_with fail
        go_roundg (fs.length - (k + 1))
        case measure=>omega
        case rel=>exact R1.out
       ·have HE:=Hd (wrOut_none (HST.out.1 (by rw [HW.out,if_pos (Or.inr (by simpa using hn))])))
        go_wp2_with (go_at_call 121; refine (W _).mono ?_; rintro e w1 ⟨rfl,rfl⟩)
        go_ret2
        exact ⟨by rw [HE.out]; rfl,(HB0.out).trans (((HB.out).alloc (HB.out).size _).mono (HB0.out).size)⟩
      ·have HE:=Hd (wrOut_none (HST.out.1 (by rw [HW.out,if_pos (Or.inl (fun h=>hS0 ((toList_nil _).2 h)))])))
       go_wp2_with (go_at_call 121; refine (W _).mono ?_; rintro e w1 ⟨rfl,rfl⟩)
       go_ret2
       exact ⟨by rw [HE.out]; rfl,(HB0.out).trans (((HB.out).alloc (HB.out).size _).mono (HB0.out).size)⟩
     ·by_cases k116:s[k]=116
      ·have W:∀ w,Calls Tryz.prog 121 #[.int .u8 116] w (fun e w'=>e=.returned (.int .i64 0) /\ w=w'):=fun w=>width_c 116 w
       rw [k116] at HST
       by_cases hn:n=0
       ·by_cases hz:65535 < S.size
        ·have HE:=Hd (wrOut_none (HST.out.1 (wr1_t_no n S hn hz)))
         go_wp2_with (go_at_call 121; refine (W _).mono ?_; rintro e w1 ⟨rfl,rfl⟩)
         go_ret2
         exact ⟨by rw [HE.out]; rfl,(HB0.out).trans (((HB.out).alloc (HB.out).size _).mono (HB0.out).size)⟩
        ·have HE:=Hd (HST.out.2 _ (wr1_t n S hn hz))
         go_wp2_with (go_at_call 121; refine (W _).mono ?_; rintro e w1 ⟨rfl,rfl⟩)
         refine (number_c w0.heap.size w0.heap.size S.size 2 acc _ (HBL.out.alloc _) (by have:=HB.out.size; simp; omega) (by omega) (by omega) (by omega)).mono ?_
         rintro e w2 ⟨rfl,g1,g2,g3⟩
         have HB2:=Hd ((((HB.out).alloc (HB.out).size _).trans g2))
         have q3:w2.cell? ⟨wr.heap.size,1,none⟩=some (.string S):=kept_lit g3 (heap_alloc_new _ _) (by have:=(HBL.out).lt; omega) (by decide) rfl
         go_wp2_with fail
         refine (wstr_c _ _ _ S w2 g1 (HB2.out.size) (by rw [List.length_append,be_length]; omega)).mono ?_
         rintro e w3 ⟨rfl,g4,g5⟩
         have R1:=Hd (wr_next hlt (by rw [List.append_assoc] at g4; exact g4) (by simp only [List.length_append,be_length]; have:=Lib.size_eq S; omega) ((HB2.out).trans g5) HE.out)
         clear g1 g2 g3 g4 g5
         go_wp2_with fail
         go_roundg (fs.length - (k + 1))
         case measure=>omega
         case rel=>exact R1.out
       ·have HE:=Hd (wrOut_none (HST.out.1 (wr1_txt_no 116 n S rfl hn)))
        go_wp2_with (go_at_call 121; refine (W _).mono ?_; rintro e w1 ⟨rfl,rfl⟩)
        go_ret2
        exact ⟨by rw [HE.out]; rfl,(HB0.out).trans (((HB.out).alloc (HB.out).size _).mono (HB0.out).size)⟩
      ·have W:∀ w,Calls Tryz.prog 121 #[.int .u8 s[k].toNat] w (fun e w'=>e=.returned (.int .i64 0) /\ w=w'):=fun w=>by
        have:=width_c s[k].toNat w
        rwa [width_other _ k110 k104 k98] at this
       have KO:=Hd (kind_other _ k110 k104 k98)
       have KT:=Hd (HC.out 116 (by decide))
       have KT1:((s[k].toNat:Int) == 116)=false:=KT.out.trans (by simpa using k116)
       have KT2:((s[k].toNat:Int) != 116)=true:=by simp [bne,KT1]
       by_cases hn:n=0
       ·have HE:=Hd (HST.out.2 _ (wr1_r _ n S KO.out k116 hn))
        go_wp2_with (go_at_call 121; refine (W _).mono ?_; rintro e w1 ⟨rfl,rfl⟩)
        refine (wstr_c w0.heap.size w0.heap.size acc S _ (HBL.out.alloc _) (by have:=HB.out.size; simp; omega) (by omega)).mono ?_
        rintro e w2 ⟨rfl,g1,g2⟩
        have R1:=Hd (wr_next hlt g1 (by simp only [List.length_append]; have:=Lib.size_eq S; omega) (((HB.out).alloc (HB.out).size _).trans g2) HE.out)
        clear g1 g2
        go_wp2_with fail
        go_roundg (fs.length - (k + 1))
        case measure=>omega
        case rel=>exact R1.out
       ·have HE:=Hd (wrOut_none (HST.out.1 (wr1_txt_no _ n S KO.out hn)))
        go_wp2_with (go_at_call 121; refine (W _).mono ?_; rintro e w1 ⟨rfl,rfl⟩)
        go_ret2
        exact ⟨by rw [HE.out]; rfl,(HB0.out).trans (((HB.out).alloc (HB.out).size _).mono (HB0.out).size)⟩
  ·obtain rfl:k=fs.length:=by omega
   have HE:=Hd (show WrOut (wrL s.data.toList fs)=.tuple #[.string ⟨acc.toArray⟩,.bool true] by rw [hw,List.drop_length]; cases s.data.toList.drop fs.length <;> simp [wrL,WrOut])
   have HB:=Hd hb
   have hbs:=hb.size
   go_wp2_with fail
   refine (Tryz.Builder_String_any_k w0.heap.size w0.heap.size _ wr hbl hbs).mono ?_
   rintro e w2 ⟨rfl,h4,h5,h6⟩
   have H5:=Hd h5
   clear h4 h5 h6 hbl hb hw
   go_wp2_with fail
   go_ret2
   exact ⟨by rw [HE.out]; rfl,(HB0.out).trans (((HB.out).trans H5.out).mono (HB0.out).size)⟩
def writeL (ks:List UInt8) (fs:List Fld):Option (List UInt8):=if rightL ks=true /\ ks.length=fs.length then wrL ks fs else none
theorem writeL_no {ks:List UInt8} {fs:List Fld} (h:rightL ks=false \/ ks.length ≠ fs.length):writeL ks fs=none:=by
 unfold writeL
 rw [if_neg]
 rintro ⟨a,b⟩
 rcases h with h | h
 ·rw [a] at h; exact absurd h (by decide)
 ·exact h b
theorem writeL_yes {ks:List UInt8} {fs:List Fld} (h:rightL ks=true) (h2:ks.length=fs.length):writeL ks fs=wrL ks fs:=by
 unfold writeL
 rw [if_pos ⟨h,h2⟩]
theorem Write_c (s:ByteArray) (v:Value) (fs:List Fld) (w:World) (hs:s.size <= 1000) (hv:FldsAt w v fs) (hz:∀ p ∈ fs,p.2.size <= 1000000) :
 Calls Tryz.prog 70 #[.string s,v] w fun e w'=>e=.returned (WrOut (writeL s.data.toList fs)) /\ Below w.heap.size w w':=by
 have hlen:s.data.toList.length=s.size:=(Lib.size_eq s).symm
 cases hr:rightL s.data.toList
 ·have HE:=Hd (wrOut_none (writeL_no (fs:=fs) (.inl hr)))
  have rc:=Right_c s w (by omega)
  rw [hr] at rc
  clear hr hv hz
  go_enter Tryz.func70,Tryz.ntmps70
  go_wp2_with fail
  refine rc.mono ?_
  rintro e w0 ⟨rfl,hb0⟩
  have HB0:=Hd hb0
  clear rc hb0
  go_wp2_with fail
  go_ret2
  exact ⟨by rw [HE.out]; rfl,HB0.out⟩
 ·by_cases hl:s.size=fs.length
  ·rw [writeL_yes hr (hlen.trans hl)]
   exact Write_in s v fs w hs hv hr hl hz
  ·have HE:=Hd (wrOut_none (writeL_no (ks:=s.data.toList) (fs:=fs) (.inr (by omega))))
   have rc:=Right_c s w (by omega)
   rw [hr] at rc
   obtain ⟨a,cap,rfl⟩:=hv.form
   have q1:((s.size:Int) == (fs.length:Int))=false:=by simp; omega
   have q2:((s.size:Int) != (fs.length:Int))=true:=by simp; omega
   clear hr hv hz hlen hl
   go_enter Tryz.func70,Tryz.ntmps70
   go_wp2_with fail
   refine rc.mono ?_
   rintro e w0 ⟨rfl,hb0⟩
   have HB0:=Hd hb0
   clear rc hb0
   go_wp2_with fail
   go_ret2
   exact ⟨by rw [HE.out]; rfl,HB0.out⟩
theorem kind_right {l:List UInt8} {k:Nat} (h:k < l.length) (hr:rightL l=true):kindB l[k]=true \/ l[k]=114:=by
 induction l generalizing k with
 | nil=>simp at h
 | cons c r ih =>
   by_cases hn:r=[]
   ·subst hn
    have:k=0:=by simpa using h
    subst this
    simpa [rightL] using hr
   ·rw [rightL_cons hn] at hr
    simp only [Bool.and_eq_true] at hr
    cases k with
    | zero=>exact .inl hr.1
    | succ k=>simpa using ih (k:=k) (by simpa using h) hr.2
theorem infoF:(Tryz.prog.info? 139).map (fun i=>(i.zero,i.size,i.bytes))=some (some (.agg #[.int .u64 0,.string ByteArray.empty]),2,24):=by kernel_rfl
theorem grown_drew {w w':World} {r:Option Nat} (h:w.drew.grownBy w' r):w.grownBy w' r:=⟨h.os,h.tape,h.output,h.size,h.block⟩
theorem ownsRow_heap {w w':World} {base:Nat} {e:TypeId} {size:Nat} {v:Value} {n:Nat} {xs:List Value} (h:w.ownsRow base e size v n xs) (hk:∀ j,j < w.heap.size -> v.ownBlock=some j -> w'.heap[j]?=w.heap[j]?):w'.ownsRow base e size v n xs:=by
 refine ⟨h.1,?_⟩
 rcases h.2 with h2 | ⟨g,cap,cur,rfl,hg,hh,r⟩
 ·exact Or.inl h2
 ·exact Or.inr ⟨g,cap,cur,rfl,hg,(hk g (lt_of_heap hh) rfl).trans hh,r⟩
def rd1 (k:UInt8) (r:ByteArray):Option (Fld × ByteArray) :=
 if k=116 then (if r.size < 2 then none else if (r.extract 2 r.size).size < toldN 0 (r.extract 0 2).data.toList then none else
  some ((0,(r.extract 2 r.size).extract 0 (toldN 0 (r.extract 0 2).data.toList)),(r.extract 2 r.size).extract (toldN 0 (r.extract 0 2).data.toList) (r.extract 2 r.size).size))
 else if kindB k=true then (if r.size < (widthB k.toNat).toNat then none else some ((toldN 0 (r.extract 0 (widthB k.toNat).toNat).data.toList,⟨#[]⟩),r.extract (widthB k.toNat).toNat r.size))
 else some ((0,r),⟨#[]⟩)
def readL:List UInt8 -> ByteArray -> Option (List Fld)
 | [],r=>if r.toList=[] then some [] else none
 | k :: ks,r=>match rd1 k r with
   | none=>none
   | some p=>(readL ks p.2).map (p.1 :: ·)
theorem readL_step {ks:List UInt8} {S r:ByteArray} {k:Nat} {acc:List Fld} (h1:k < ks.length) (h:readL ks S=(readL (ks.drop k) r).map (acc ++ ·)) :
 (rd1 ks[k] r=none -> readL ks S=none) /\ (∀ f r',rd1 ks[k] r=some (f,r') -> readL ks S=(readL (ks.drop (k + 1)) r').map ((acc ++ [f]) ++ ·)):=by
 have e:readL (ks[k] :: ks.drop (k + 1)) r=(match rd1 ks[k] r with | none=>none | some p=>(readL (ks.drop (k + 1)) p.2).map (p.1 :: ·)):=rfl
 rw [List.drop_eq_getElem_cons h1,e] at h
 constructor
 ·intro hn; rw [hn] at h; exact h
 ·intro f r' ha
  rw [ha] at h
  dsimp only at h
  rw [h]
  cases readL (ks.drop (k + 1)) r' <;> simp
def RdPost (w:World) (o:Option (List Fld)) (e:Ending) (w':World):Prop:=match o with
 | none=>e=.returned (.tuple #[.slice none 0 0,.bool false]) /\ Below w.heap.size w w'
 | some fs=>∃ v,e=.returned (.tuple #[v,.bool true]) /\ w'.ownsRow w.heap.size 139 2 v fs.length (fcells fs) /\ Below w.heap.size w w'
theorem rdPost_none {w:World} {o:Option (List Fld)} {e:Ending} {w':World} (h:o=none) (h1:e=.returned (.tuple #[.slice none 0 0,.bool false])) (h2:Below w.heap.size w w'):RdPost w o e w':=by
 subst h; exact ⟨h1,h2⟩
def RdRel (w:World) (ks:List UInt8) (S:ByteArray) (g:Nat) (s1 s6 s16:Value) (wr:World):Prop :=
 ∃ k acc r,g=ks.length - k /\ k <= ks.length /\ s16=.int .i64 k /\ s1=.string r /\ wr.ownsRow w.heap.size 139 2 s6 k (fcells acc) /\ Below w.heap.size w wr /\ r.size <= S.size /\ acc.length=k /\ readL ks S=(readL (ks.drop k) r).map (acc ++ ·)
theorem rd1_num (c:UInt8) (wd:Nat) (r:ByteArray) (h:(kindB c && c != 116)=true) (hw:(widthB c.toNat).toNat=wd) :
 rd1 c r=if r.size < wd then none else some ((toldN 0 (r.extract 0 wd).data.toList,⟨#[]⟩),r.extract wd r.size):=by
 have h1:kindB c=true /\ c ≠ 116:=by simpa using h
 unfold rd1
 rw [if_neg h1.2,if_pos h1.1,hw]
theorem ex_le (r:ByteArray) (a b:Nat) {n:Nat} (h:r.size <= n):(r.extract a b).size <= n:=by
 simp; omega
theorem own_le {w:World} {base base' size n:Nat} {e:TypeId} {v:Value} {xs:List Value} (h:w.ownsRow base e size v n xs) (hb:base' <= base):w.ownsRow base' e size v n xs :=
 ⟨h.1,h.2.imp id (fun ⟨g,cap,cur,a,b,c⟩=>⟨g,cap,cur,a,Nat.le_trans hb b,c⟩)⟩
theorem rdPost_some {w w0 wr:World} {o:Option (List Fld)} {acc:List Fld} {r:ByteArray} {v:Value} {k:Nat} (h:o=(readL [] r).map (acc ++ ·)) (hr:r.toList=[]) (ha:acc.length=k) (ho:wr.ownsRow w0.heap.size 139 2 v k (fcells acc)) (hb:Below w0.heap.size w0 wr) (h0:Below w.heap.size w w0) :
 RdPost w o (.returned (.tuple #[v,.bool true])) wr:=by
 have e:o=some acc:=by rw [h]; simp [readL,hr]
 subst e ha
 exact ⟨v,rfl,own_le ho h0.size,h0.trans (hb.mono h0.size)⟩
theorem rd1_t_no (r:ByteArray) (h:r.size < 2):rd1 116 r=none:=by
 unfold rd1
 rw [if_pos rfl,if_pos h]
theorem rd1_t (r:ByteArray) (h:¬ r.size < 2):rd1 116 r=if (r.extract 2 r.size).size < toldN 0 (r.extract 0 2).data.toList then none else
 some ((0,(r.extract 2 r.size).extract 0 (toldN 0 (r.extract 0 2).data.toList)),(r.extract 2 r.size).extract (toldN 0 (r.extract 0 2).data.toList) (r.extract 2 r.size).size):=by
 unfold rd1
 rw [if_pos rfl,if_neg h]
theorem toldN_two (l:List UInt8) (h:l.length <= 2):toldN 0 l < 65536:=by
 match l,h with
 | [],_=>decide
 | [a],_=>have:=a.toNat_lt; simp [toldN]; omega
 | [a,b],_=>have:=a.toNat_lt; have:=b.toNat_lt; simp [toldN]; omega
theorem rd_alloc {w0 wr:World} {v:Value} {k:Nat} {xs:List Value} (o:Obj) (ho:wr.ownsRow w0.heap.size 139 2 v k xs) (hb:Below w0.heap.size w0 wr) :
 (wr.alloc o).ownsRow w0.heap.size 139 2 v k xs /\ Below w0.heap.size w0 (wr.alloc o):=⟨ho.alloc _,hb.alloc hb.size _⟩
theorem rd_below {w0 wr w2:World} {v:Value} {k:Nat} {xs:List Value} (ho:wr.ownsRow w0.heap.size 139 2 v k xs) (hb:Below w0.heap.size w0 wr) (g:Below wr.heap.size wr w2) :
 w2.ownsRow w0.heap.size 139 2 v k xs /\ Below w0.heap.size w0 w2:=⟨ownsRow_heap ho (fun j hj _=>g.block j hj),hb.trans (g.mono hb.size)⟩
theorem rd_set {w0 w2:World} {v:Value} {k p:Nat} {xs:List Value} {a:Value} {i:Nat} (ho:w2.ownsRow w0.heap.size 139 2 v k xs) (hb:Below w0.heap.size w0 w2) (hp:w0.heap.size <= p) (hn:v.ownBlock ≠ some p) :
 (w2.setCell ⟨p,i,none⟩ a).ownsRow w0.heap.size 139 2 v k xs /\ Below w0.heap.size w0 (w2.setCell ⟨p,i,none⟩ a) :=
 ⟨ownsRow_setCell_other ho hn _,hb.setCell hp _⟩
theorem rd_next {w0 W w4:World} {ks:List UInt8} {S r':ByteArray} {v v':Value} {k n:Nat} {T:ByteArray} {acc:List Fld} {o:Obj} (hlt:k < ks.length) (ho:W.ownsRow w0.heap.size 139 2 v k (fcells acc)) (hb:Below w0.heap.size w0 W) (hg:(W.alloc o).drew.grownBy w4 v.ownBlock)
 (h4:w4.ownsRow w0.heap.size 139 2 v' (k + 1) (fcells acc ++ [.int .u64 n,.string T])) (hr:r'.size <= S.size) (ha:acc.length=k)
 (hw:readL ks S=(readL (ks.drop (k + 1)) r').map ((acc ++ [(n,T)]) ++ ·)):RdRel w0 ks S (ks.length - (k + 1)) (.string r') v' (.int .i64 (k + 1)) w4:=by
 refine ⟨k + 1,acc ++ [(n,T)],r',rfl,by omega,by simp,rfl,?_,?_,hr,by simp [ha],hw⟩
 ·have e:fcells (acc ++ [(n,T)])=fcells acc ++ [.int .u64 n,.string T]:=by simp [fcells]
  rw [e]; exact h4
 ·exact hb.grown ((World.grownBy_alloc W _ _).trans (grown_drew hg)) hb.size (fun j hj=>(ho.lt j hj).1)
set_option maxRecDepth 100000 in
set_option maxHeartbeats 4000000 in
theorem Read_in (s S:ByteArray) (w:World) (hs:s.size <= 1000) (hr:rightL s.data.toList=true) (hS:S.size <= 1000000) :
 Calls Tryz.prog 88 #[.string s,.string S] w (RdPost w (readL s.data.toList S)):=by
 have rc:=Right_c s w (by omega)
 rw [hr] at rc
 have HR:=Hd hr
 obtain ⟨j0,hj,hz0,hz1,hz2⟩:=info_parts infoF
 clear hr
 go_enter Tryz.func88,Tryz.ntmps88
 go_wp2_with fail
 refine rc.mono ?_
 rintro e w0 ⟨rfl,hb0⟩
 have HB0:=Hd hb0
 clear rc hb0
 have R0:=Hd (show RdRel w0 s.data.toList S s.size (.string S) (.slice none 0 0) (.int .i64 0) w0 from
  ⟨0,[],S,(Lib.size_eq s),Nat.zero_le _,rfl,rfl,World.ownsRow_nil _ _ _ _,Below.refl _ _,Nat.le_refl _,rfl,by simp⟩)
 go_wp2_with fail
 go_loopg [1,6,16] s.size (fun g s1 s6 s16 wr=>RdRel w0 s.data.toList S g s1 s6 s16 wr)
 case atStart=>exact R0.out
 case round =>
  obtain ⟨k,acc,r,rfl,hk,rfl,rfl,ho,hb,hrs,hacc,hw⟩:=hrel
  clear R0
  have hsl:s.data.toList.length=s.size:=(Lib.size_eq s).symm
  by_cases hks:k < s.size
  ·have hks':k < s.data.toList.length:=by omega
   have HST:=Hd (readL_step hks' hw)
   have hge:s.data.toList[k]=s[k]:=by simp; rfl
   rw [hge] at HST
   have HB:=Hd hb
   have HO:=Hd ho
   clear hw hb hge ho
   by_cases k110:s[k]=110
   ·have W:∀ w,Calls Tryz.prog 121 #[.int .u8 110] w (fun e w'=>e=.returned (.int .i64 8) /\ w=w'):=fun w=>width_c 110 w
    rw [k110] at HST
    have HW:=Hd (rd1_num 110 8 r rfl rfl)
    by_cases hn:r.size < 8
    ·have HE:=Hd (HST.out.1 (by rw [HW.out,if_pos hn]))
     go_wp2_with (first | (go_at_call 121; refine (W _).mono ?_; rintro e w1 ⟨rfl,rfl⟩))
     go_ret2
     exact rdPost_none HE.out rfl ((HB0.out).trans ((HB.out).mono (HB0.out).size))
    ·have HE:=Hd (HST.out.2 _ _ (by rw [HW.out,if_neg hn]))
     have hn':(8:Int) <= (r.size:Int):=by omega
     obtain ⟨N,hN⟩:∃ N,N=toldN 0 (r.extract 0 8).data.toList:=⟨_,rfl⟩
     rw [<- hN] at HE
     have TC:∀ w,Calls Tryz.prog 143 #[.string (r.extract 0 8)] w fun e w'=>e=.returned (.int .u64 N) /\ Below w.heap.size w w':=fun w=>by rw [hN]; exact told_c _ w (by simp; omega)
     clear hN
     go_wp2_with (first | (go_at_call 121; refine (W _).mono ?_; rintro e w1 ⟨rfl,rfl⟩))
     refine (TC _).mono ?_
     rintro e w2 ⟨rfl,g2⟩
     have h2:w2.heap[wr.heap.size]?=some (.cells #[.int .u64 0,.string (r.extract 0 8)] 139 (0,0)):=(g2.block _ (by simp)).trans (heap_alloc_new _ _)
     have q1:=cell_lit (i:=0) h2 rfl
     have q2:=cell_lit (i:=1) h2 rfl
     have q3:=frozen_lit h2 0
     have q4:=frozen_lit h2 1
     have hne:u6.ownBlock ≠ some wr.heap.size:=fun e=>absurd ((HO.out).lt _ e).2 (Nat.lt_irrefl _)
     have X1:=rd_alloc (.cells #[.int .u64 0,.string (r.extract 0 8)] 139) HO.out HB.out
     have X2:=rd_below X1.1 X1.2 g2
     have X3:=rd_set (i:=0) (a:=.int .u64 N) X2.1 X2.2 (HB.out).size hne
     have X4:=rd_set (i:=1) (a:=.string ⟨#[]⟩) X3.1 X3.2 (HB.out).size hne
     have h3:((w2.setCell ⟨wr.heap.size,0,none⟩ (.int .u64 N)).setCell ⟨wr.heap.size,1,none⟩ (.string ⟨#[]⟩)).heap[wr.heap.size]?=some (.cells #[.int .u64 N,.string ⟨#[]⟩] 139 (0,0)):=heap_set_lit (heap_set_lit h2 _) _
     have X5:=Hd X4
     have H3:=Hd h3
     clear X1 X2 X3 X4 h3 g2 h2 hne
     go_wp2_with fail
     generalize ((w2.setCell ⟨wr.heap.size,0,none⟩ (.int .u64 N)).setCell ⟨wr.heap.size,1,none⟩ (.string ⟨#[]⟩))=V at *
     have q5:=cell_lit (i:=0) H3.out rfl
     have q6:=cell_lit (i:=1) H3.out rfl
     clear q1 q2 q3 q4
     go_region_law (
      refine step_append_lies _ (by rfl) _ _ _ (by rfl) w0.heap.size 139 j0 _ 2 24 Tryz.underlying171 hj hz0 hz1 hz2 rfl (by omega) u6 _ _ (by rfl) (((X5.out).1.alloc _).drew)
       ⟨V.heap.size,0,none⟩ 1 1 [.int .u64 N,.string ⟨#[]⟩] (by rfl) (by rfl) (World.news_of_block (cs:=#[.int .u64 N,.string ⟨#[]⟩]) (t:=139) (fr:=(0,0)) (heap_alloc_new V _)) (one2 _ _ rfl rfl)
       (by decide) (by unfold maxLen; omega) (by omega) (by have:=(X5.out).2.size; simp; omega) (V.heap.size + 1) (World.size_alloc _ _) ?_; intro gg cap w4 hown4 hgrow hat hlt
      have R1:=Hd (rd_next (r':=r.extract 8 r.size) hks' (X5.out).1 (X5.out).2 hgrow hown4 (by simp; omega) hacc HE.out)
      clear hown4 hgrow hat hlt)
     go_wp2_with fail
     go_roundg (s.data.toList.length - (k + 1))
     case measure=>omega
     case rel=>exact R1.out
   ·by_cases k104:s[k]=104
    ·have W:∀ w,Calls Tryz.prog 121 #[.int .u8 104] w (fun e w'=>e=.returned (.int .i64 4) /\ w=w'):=fun w=>width_c 104 w
     rw [k104] at HST
     have HW:=Hd (rd1_num 104 4 r rfl rfl)
     by_cases hn:r.size < 4
     ·have HE:=Hd (HST.out.1 (by rw [HW.out,if_pos hn]))
      go_wp2_with (first | (go_at_call 121; refine (W _).mono ?_; rintro e w1 ⟨rfl,rfl⟩))
      go_ret2
      exact rdPost_none HE.out rfl ((HB0.out).trans ((HB.out).mono (HB0.out).size))
     ·have HE:=Hd (HST.out.2 _ _ (by rw [HW.out,if_neg hn]))
      have hn':(4:Int) <= (r.size:Int):=by omega
      obtain ⟨N,hN⟩:∃ N,N=toldN 0 (r.extract 0 4).data.toList:=⟨_,rfl⟩
      rw [<- hN] at HE
      have TC:∀ w,Calls Tryz.prog 143 #[.string (r.extract 0 4)] w fun e w'=>e=.returned (.int .u64 N) /\ Below w.heap.size w w':=fun w=>by rw [hN]; exact told_c _ w (by simp; omega)
      clear hN
      go_wp2_with (first | (go_at_call 121; refine (W _).mono ?_; rintro e w1 ⟨rfl,rfl⟩))
      refine (TC _).mono ?_
      rintro e w2 ⟨rfl,g2⟩
      have h2:w2.heap[wr.heap.size]?=some (.cells #[.int .u64 0,.string (r.extract 0 4)] 139 (0,0)):=(g2.block _ (by simp)).trans (heap_alloc_new _ _)
      have q1:=cell_lit (i:=0) h2 rfl
      have q2:=cell_lit (i:=1) h2 rfl
      have q3:=frozen_lit h2 0
      have q4:=frozen_lit h2 1
      have hne:u6.ownBlock ≠ some wr.heap.size:=fun e=>absurd ((HO.out).lt _ e).2 (Nat.lt_irrefl _)
      have X1:=rd_alloc (.cells #[.int .u64 0,.string (r.extract 0 4)] 139) HO.out HB.out
      have X2:=rd_below X1.1 X1.2 g2
      have X3:=rd_set (i:=0) (a:=.int .u64 N) X2.1 X2.2 (HB.out).size hne
      have X4:=rd_set (i:=1) (a:=.string ⟨#[]⟩) X3.1 X3.2 (HB.out).size hne
      have h3:((w2.setCell ⟨wr.heap.size,0,none⟩ (.int .u64 N)).setCell ⟨wr.heap.size,1,none⟩ (.string ⟨#[]⟩)).heap[wr.heap.size]?=some (.cells #[.int .u64 N,.string ⟨#[]⟩] 139 (0,0)):=heap_set_lit (heap_set_lit h2 _) _
      have X5:=Hd X4
      have H3:=Hd h3
      clear X1 X2 X3 X4 h3 g2 h2 hne
      go_wp2_with fail
      generalize ((w2.setCell ⟨wr.heap.size,0,none⟩ (.int .u64 N)).setCell ⟨wr.heap.size,1,none⟩ (.string ⟨#[]⟩))=V at *
      have q5:=cell_lit (i:=0) H3.out rfl
      have q6:=cell_lit (i:=1) H3.out rfl
      clear q1 q2 q3 q4
      go_region_law (
       refine step_append_lies _ (by rfl) _ _ _ (by rfl) w0.heap.size 139 j0 _ 2 24 Tryz.underlying171 hj hz0 hz1 hz2 rfl (by omega) u6 _ _ (by rfl) (((X5.out).1.alloc _).drew)
        ⟨V.heap.size,0,none⟩ 1 1 [.int .u64 N,.string ⟨#[]⟩] (by rfl) (by rfl) (World.news_of_block (cs:=#[.int .u64 N,.string ⟨#[]⟩]) (t:=139) (fr:=(0,0)) (heap_alloc_new V _)) (one2 _ _ rfl rfl)
        (by decide) (by unfold maxLen; omega) (by omega) (by have:=(X5.out).2.size; simp; omega) (V.heap.size + 1) (World.size_alloc _ _) ?_; intro gg cap w4 hown4 hgrow hat hlt
       have R1:=Hd (rd_next (r':=r.extract 4 r.size) hks' (X5.out).1 (X5.out).2 hgrow hown4 (by simp; omega) hacc HE.out)
       clear hown4 hgrow hat hlt)
      go_wp2_with fail
      go_roundg (s.data.toList.length - (k + 1))
      case measure=>omega
      case rel=>exact R1.out
    ·by_cases k98:s[k]=98
     ·have W:∀ w,Calls Tryz.prog 121 #[.int .u8 98] w (fun e w'=>e=.returned (.int .i64 1) /\ w=w'):=fun w=>width_c 98 w
      rw [k98] at HST
      have HW:=Hd (rd1_num 98 1 r rfl rfl)
      by_cases hn:r.size < 1
      ·have HE:=Hd (HST.out.1 (by rw [HW.out,if_pos hn]))
       go_wp2_with (first | (go_at_call 121; refine (W _).mono ?_; rintro e w1 ⟨rfl,rfl⟩))
       go_ret2
       exact rdPost_none HE.out rfl ((HB0.out).trans ((HB.out).mono (HB0.out).size))
      ·have HE:=Hd (HST.out.2 _ _ (by rw [HW.out,if_neg hn]))
       have hn':(1:Int) <= (r.size:Int):=by omega
       obtain ⟨N,hN⟩:∃ N,N=toldN 0 (r.extract 0 1).data.toList:=⟨_,rfl⟩
       rw [<- hN] at HE
       have TC:∀ w,Calls Tryz.prog 143 #[.string (r.extract 0 1)] w fun e w'=>e=.returned (.int .u64 N) /\ Below w.heap.size w w':=fun w=>by rw [hN]; exact told_c _ w (by simp; omega)
       clear hN
       go_wp2_with (first | (go_at_call 121; refine (W _).mono ?_; rintro e w1 ⟨rfl,rfl⟩))
       refine (TC _).mono ?_
       rintro e w2 ⟨rfl,g2⟩
       have h2:w2.heap[wr.heap.size]?=some (.cells #[.int .u64 0,.string (r.extract 0 1)] 139 (0,0)):=(g2.block _ (by simp)).trans (heap_alloc_new _ _)
       have q1:=cell_lit (i:=0) h2 rfl
       have q2:=cell_lit (i:=1) h2 rfl
       have q3:=frozen_lit h2 0
       have q4:=frozen_lit h2 1
       have hne:u6.ownBlock ≠ some wr.heap.size:=fun e=>absurd ((HO.out).lt _ e).2 (Nat.lt_irrefl _)
       have X1:=rd_alloc (.cells #[.int .u64 0,.string (r.extract 0 1)] 139) HO.out HB.out
       have X2:=rd_below X1.1 X1.2 g2
       have X3:=rd_set (i:=0) (a:=.int .u64 N) X2.1 X2.2 (HB.out).size hne
       have X4:=rd_set (i:=1) (a:=.string ⟨#[]⟩) X3.1 X3.2 (HB.out).size hne
       have h3:((w2.setCell ⟨wr.heap.size,0,none⟩ (.int .u64 N)).setCell ⟨wr.heap.size,1,none⟩ (.string ⟨#[]⟩)).heap[wr.heap.size]?=some (.cells #[.int .u64 N,.string ⟨#[]⟩] 139 (0,0)):=heap_set_lit (heap_set_lit h2 _) _
       have X5:=Hd X4
       have H3:=Hd h3
       clear X1 X2 X3 X4 h3 g2 h2 hne
       go_wp2_with fail
       generalize ((w2.setCell ⟨wr.heap.size,0,none⟩ (.int .u64 N)).setCell ⟨wr.heap.size,1,none⟩ (.string ⟨#[]⟩))=V at *
       have q5:=cell_lit (i:=0) H3.out rfl
       have q6:=cell_lit (i:=1) H3.out rfl
       clear q1 q2 q3 q4
       go_region_law (
        refine step_append_lies _ (by rfl) _ _ _ (by rfl) w0.heap.size 139 j0 _ 2 24 Tryz.underlying171 hj hz0 hz1 hz2 rfl (by omega) u6 _ _ (by rfl) (((X5.out).1.alloc _).drew)
         ⟨V.heap.size,0,none⟩ 1 1 [.int .u64 N,.string ⟨#[]⟩] (by rfl) (by rfl) (World.news_of_block (cs:=#[.int .u64 N,.string ⟨#[]⟩]) (t:=139) (fr:=(0,0)) (heap_alloc_new V _)) (one2 _ _ rfl rfl)
         (by decide) (by unfold maxLen; omega) (by omega) (by have:=(X5.out).2.size; simp; omega) (V.heap.size + 1) (World.size_alloc _ _) ?_; intro gg cap w4 hown4 hgrow hat hlt
        have R1:=Hd (rd_next (r':=r.extract 1 r.size) hks' (X5.out).1 (X5.out).2 hgrow hown4 (by simp; omega) hacc HE.out)
        clear hown4 hgrow hat hlt)
       go_wp2_with fail
       go_roundg (s.data.toList.length - (k + 1))
       case measure=>omega
       case rel=>exact R1.out
     ·by_cases k116:s[k]=116
      ·have W:∀ w,Calls Tryz.prog 121 #[.int .u8 116] w (fun e w'=>e=.returned (.int .i64 0) /\ w=w'):=fun w=>width_c 116 w
       rw [k116] at HST
       by_cases h2:r.size < 2
       ·have HE:=Hd (HST.out.1 (rd1_t_no r h2))
        go_wp2_with (first | (go_at_call 121; refine (W _).mono ?_; rintro e w1 ⟨rfl,rfl⟩))
        go_ret2
        exact rdPost_none HE.out rfl ((HB0.out).trans ((HB.out).mono (HB0.out).size))
       ·have hn':(2:Int) <= (r.size:Int):=by omega
        have HT:=Hd (rd1_t r h2)
        obtain ⟨N,hN⟩:∃ N,N=toldN 0 (r.extract 0 2).data.toList:=⟨_,rfl⟩
        have hNb:N < 65536:=by rw [hN]; exact toldN_two _ (by rw [<- Lib.size_eq]; simp; omega)
        have TC:∀ w,Calls Tryz.prog 143 #[.string (r.extract 0 2)] w fun e w'=>e=.returned (.int .u64 N) /\ Below w.heap.size w w':=fun w=>by rw [hN]; exact told_c _ w (by simp; omega)
        have hwr:IntKind.i64.wrap (N:Int)=N:=by simp [IntKind.wrap,IntKind.bits,IntKind.signed]; omega
        obtain ⟨r2,hr2⟩:∃ r2,r2=r.extract 2 r.size:=⟨_,rfl⟩
        have hr2s:r2.size=r.size - 2:=by rw [hr2]; simp
        rw [<- hN,<- hr2] at HT
        clear hN
        go_wp2_with (first | (go_at_call 121; refine (W _).mono ?_; rintro e w1 ⟨rfl,rfl⟩))
        go_region_held3 (fun _=>True) (trivial) ((go_at_call 143; refine (TC _).mono ?_; rintro e w2 ⟨rfl,g2⟩))
        have X1:=rd_below (HO.out).drew (HB.out).drew g2
        rw [<- hr2]
        clear hr2
        by_cases hn:r.size - 2 < N
        ·have HE:=Hd (HST.out.1 (by rw [HT.out,if_pos (by omega)]))
         have X5:=Hd X1
         clear X1 g2
         go_wp2_with fail
         go_ret2
         exact rdPost_none HE.out rfl ((HB0.out).trans ((X5.out.2).mono (HB0.out).size))
        ·have HE:=Hd (HST.out.2 _ _ (by rw [HT.out,if_neg (by omega)]))
         have X5:=Hd (rd_alloc (.cells #[.int .u64 0,.string (r2.extract 0 N)] 139) X1.1 X1.2)
         rw [hr2s] at HE
         have hn3:N <= r.size - 2:=by omega
         have H3:=Hd (heap_alloc_new w2 (.cells #[.int .u64 0,.string (r2.extract 0 N)] 139))
         clear X1 g2
         go_wp2_with fail
         generalize (w2.alloc (.cells #[.int .u64 0,.string (r2.extract 0 N)] 139))=V at *
         have q5:=cell_lit (i:=0) H3.out rfl
         have q6:=cell_lit (i:=1) H3.out rfl
         go_region_law (
          refine step_append_lies _ (by rfl) _ _ _ (by rfl) w0.heap.size 139 j0 _ 2 24 Tryz.underlying171 hj hz0 hz1 hz2 rfl (by omega) u6 _ _ (by rfl) (((X5.out).1.alloc _).drew)
           ⟨V.heap.size,0,none⟩ 1 1 [.int .u64 0,.string (r2.extract 0 N)] (by rfl) (by rfl) (World.news_of_block (cs:=#[.int .u64 0,.string (r2.extract 0 N)]) (t:=139) (fr:=(0,0)) (heap_alloc_new V _)) (one2 _ _ rfl rfl)
           (by decide) (by unfold maxLen; omega) (by omega) (by have:=(X5.out).2.size; simp; omega) (V.heap.size + 1) (World.size_alloc _ _) ?_; intro gg cap w4 hown4 hgrow hat hlt
          have R1:=Hd (rd_next (r':=r2.extract N (r.size - 2)) hks' (X5.out).1 (X5.out).2 hgrow hown4 (ex_le _ _ _ (by omega)) hacc HE.out)
          clear hown4 hgrow hat hlt)
         go_wp2_with fail
         go_roundg (s.data.toList.length - (k + 1))
         case measure=>omega
         case rel=>exact R1.out
      ·have k114:s[k]=114:=by
        have:=kind_right hks' HR.out
        have hge:s.data.toList[k]=s[k]:=by simp; rfl
        rw [hge] at this
        exact this.resolve_left (by simp [kindB,k110,k104,k98,k116])
       have W:∀ w,Calls Tryz.prog 121 #[.int .u8 114] w (fun e w'=>e=.returned (.int .i64 0) /\ w=w'):=fun w=>width_c 114 w
       rw [k114] at HST
       clear k110 k104 k98 k116
       have HE:=Hd (HST.out.2 _ _ (show rd1 114 r=some ((0,r),⟨#[]⟩) from rfl))
       have X5:=Hd (rd_alloc (.cells #[.int .u64 0,.string r] 139) HO.out HB.out)
       have H3:=Hd (heap_alloc_new wr (.cells #[.int .u64 0,.string r] 139))
       go_wp2_with (first | (go_at_call 121; refine (W _).mono ?_; rintro e w1 ⟨rfl,rfl⟩))
       generalize (wr.alloc (.cells #[.int .u64 0,.string r] 139))=V at *
       have q5:=cell_lit (i:=0) H3.out rfl
       have q6:=cell_lit (i:=1) H3.out rfl
       go_region_law (
        refine step_append_lies _ (by rfl) _ _ _ (by rfl) w0.heap.size 139 j0 _ 2 24 Tryz.underlying171 hj hz0 hz1 hz2 rfl (by omega) u6 _ _ (by rfl) (((X5.out).1.alloc _).drew)
         ⟨V.heap.size,0,none⟩ 1 1 [.int .u64 0,.string r] (by rfl) (by rfl) (World.news_of_block (cs:=#[.int .u64 0,.string r]) (t:=139) (fr:=(0,0)) (heap_alloc_new V _)) (one2 _ _ rfl rfl)
         (by decide) (by unfold maxLen; omega) (by omega) (by have:=(X5.out).2.size; simp; omega) (V.heap.size + 1) (World.size_alloc _ _) ?_; intro gg cap w4 hown4 hgrow hat hlt
        have R1:=Hd (rd_next (r':=⟨#[]⟩) hks' (X5.out).1 (X5.out).2 hgrow hown4 (Nat.zero_le _) hacc HE.out)
        clear hown4 hgrow hat hlt)
       go_wp2_with fail
       go_roundg (s.data.toList.length - (k + 1))
       case measure=>omega
       case rel=>exact R1.out
  ·obtain rfl:k=s.size:=by omega
   have HB:=Hd hb
   have HO:=Hd ho
   have hdr:s.data.toList.drop s.size=[]:=by rw [List.drop_eq_nil_iff]; omega
   rw [hdr] at hw
   by_cases hrn:r.toList=[]
   ·have HP:=Hd (show RdPost w (readL s.data.toList S) (.returned (.tuple #[u6,.bool true])) wr from rdPost_some hw hrn hacc ho hb HB0.out)
    clear ho hb hw
    go_wp2_with fail
    go_ret2
    exact HP.out
   ·have HE:=Hd (show readL s.data.toList S=none by rw [hw]; simp [readL,hrn])
    have q1:(r.toList == [])=false:=by simpa using hrn
    have q2:(r.toList != [])=true:=by simpa using hrn
    have q3:¬ r.size=0:=fun h=>hrn ((toList_nil r).2 h)
    clear ho hb hw
    go_wp2_with fail
    go_ret2
    exact rdPost_none HE.out rfl ((HB0.out).trans ((HB.out).mono (HB0.out).size))
def readF (ks:List UInt8) (S:ByteArray):Option (List Fld):=if rightL ks=true then readL ks S else none
theorem Read_cK (s S:ByteArray) (w:World) (hs:s.size <= 1000) (hS:S.size <= 1000000) :
 Calls Tryz.prog 88 #[.string s,.string S] w (RdPost w (readF s.data.toList S)):=by
 cases hr:rightL s.data.toList
 ·have HE:=Hd (show readF s.data.toList S=none by unfold readF; rw [hr]; rfl)
  have rc:=Right_c s w (by omega)
  rw [hr] at rc
  clear hr
  go_enter Tryz.func88,Tryz.ntmps88
  go_wp2_with fail
  refine rc.mono ?_
  rintro e w0 ⟨rfl,hb0⟩
  have HB0:=Hd hb0
  clear rc hb0
  go_wp2_with fail
  go_ret2
  exact rdPost_none HE.out rfl HB0.out
 ·rw [show readF s.data.toList S=readL s.data.toList S by unfold readF; rw [if_pos hr]]
  exact Read_in s S w hs hr hS
theorem be_snoc (n w:Nat):be n (w + 1)=be (n / 256) w ++ [UInt8.ofNat (n % 256)]:=by
 induction w with
 | zero=>simp [be]
 | succ w ih =>
   have e1:be n (w + 1 + 1)=UInt8.ofNat (n / 256 ^ (w + 1) % 256) :: be n (w + 1):=rfl
   have e2:be (n / 256) (w + 1)=UInt8.ofNat (n / 256 / 256 ^ w % 256) :: be (n / 256) w:=rfl
   rw [e1,ih,e2,Nat.div_div_eq_div_mul,Nat.pow_succ,Nat.mul_comm 256]
   rfl
theorem told_of_be:∀ (w n:Nat),w <= 8 -> n < 256 ^ w -> toldN 0 (be n w)=n:=by
 intro w
 induction w with
 | zero=>intro n _ h; simp at h; subst h; rfl
 | succ w ih =>
   intro n hw h
   have hp:256 ^ (w + 1) <= 256 ^ 8:=Nat.pow_le_pow_right (by decide) hw
   have h8:(256:Nat) ^ 8=18446744073709551616:=by decide
   rw [be_snoc,toldN_append,ih (n / 256) (by omega) (by rw [Nat.pow_succ] at h; omega)]
   show (n / 256) * 256 % 18446744073709551616 + (UInt8.ofNat (n % 256)).toNat=n
   rw [UInt8.toNat_ofNat',Nat.mod_eq_of_lt (by omega),Nat.mod_eq_of_lt (by omega)]
   omega
theorem cat_take (a r:List UInt8):(⟨(a ++ r).toArray⟩:ByteArray).extract 0 a.length=⟨a.toArray⟩:=by
 rw [extract_take]; simp
theorem cat_drop (a r:List UInt8):(⟨(a ++ r).toArray⟩:ByteArray).extract a.length (⟨(a ++ r).toArray⟩:ByteArray).size=⟨r.toArray⟩:=by
 rw [extract_drop]; simp
theorem size_mk (a:List UInt8):(⟨a.toArray⟩:ByteArray).size=a.length:=by rw [Lib.size_eq]
theorem empty_of_size {S:ByteArray} (h:S.size=0):S=⟨#[]⟩:=by
 apply ByteArray.ext
 exact Array.eq_empty_of_size_eq_zero h
theorem mk_data (S:ByteArray):(⟨S.data.toList.toArray⟩:ByteArray)=S:=by apply ByteArray.ext; simp
theorem rd_wr1 {k:UInt8} {f:Fld} {a:List UInt8} (h:wr1 k f=some a) (hn:f.1 < 18446744073709551616) (r:List UInt8) (hr:kindB k=true \/ r=[]):rd1 k ⟨(a ++ r).toArray⟩=some (f,⟨r.toArray⟩):=by
 obtain ⟨n,S⟩:=f
 by_cases h116:k=116
 ·subst h116
  by_cases hz:n=0
  ·by_cases hs:65535 < S.size
   ·rw [wr1_t_no n S hz hs] at h; cases h
   ·rw [wr1_t n S hz hs] at h
    simp only [Option.some.injEq] at h
    subst h hz
    rw [List.append_assoc]
    generalize hq:S.data.toList ++ r=q
    have e1:=cat_take (be S.size 2) q
    have e2:=cat_drop (be S.size 2) q
    rw [be_length] at e1 e2
    have hsz:(⟨(be S.size 2 ++ q).toArray⟩:ByteArray).size=2 + q.length:=by rw [size_mk]; simp [be_length]
    rw [rd1_t _ (by omega),e1,e2]
    have e3:toldN 0 (⟨(be S.size 2).toArray⟩:ByteArray).data.toList=S.size:=told_of_be 2 S.size (by decide) (Nat.lt_of_le_of_lt (Nat.le_of_not_lt hs) (by decide))
    rw [e3]
    subst hq
    have e4:=cat_take S.data.toList r
    have e5:=cat_drop S.data.toList r
    rw [<- Lib.size_eq] at e4 e5
    rw [e4,e5,if_neg (by rw [size_mk,List.length_append,<- Lib.size_eq]; omega),mk_data]
  ·rw [wr1_txt_no 116 n S rfl hz] at h; cases h
 ·by_cases hk:kindB k=true
  ·have hk':(kindB k && k != 116)=true:=by simp [hk,h116]
   rw [wr1_num k _ n S hk' rfl] at h
   rw [rd1_num k _ _ hk' rfl]
   have hw8:(widthB k.toNat).toNat <= 8:=by unfold widthB; split <;> (try split) <;> (try split) <;> decide
   generalize (widthB k.toNat).toNat=wd at *
   by_cases hc:S.size ≠ 0 \/ 256 ^ wd <= n
   ·rw [if_pos hc] at h; cases h
   ·rw [if_neg hc] at h
    simp only [Option.some.injEq] at h
    subst h
    have e1:=cat_take (be n wd) r
    have e2:=cat_drop (be n wd) r
    rw [be_length] at e1 e2
    rw [e1,e2,if_neg (by rw [size_mk,List.length_append,be_length]; omega)]
    have e3:toldN 0 (⟨(be n wd).toArray⟩:ByteArray).data.toList=n:=told_of_be wd n hw8 (by omega)
    rw [e3,empty_of_size (S:=S) (by omega)]
  ·have e:rd1 k ⟨(a ++ r).toArray⟩=some ((0,⟨(a ++ r).toArray⟩),⟨#[]⟩):=by unfold rd1; rw [if_neg h116,if_neg hk]
   obtain rfl:r=[]:=hr.resolve_left hk
   by_cases hz:n=0
   ·rw [wr1_r k n S (by simp [hk]) h116 hz] at h
    simp only [Option.some.injEq] at h
    subst h hz
    rw [e,List.append_nil,mk_data]
   ·rw [wr1_txt_no k n S (by simp [hk]) hz] at h; cases h
theorem rd_wr:∀ (ks:List UInt8) (fs:List Fld) (a:List UInt8),rightL ks=true -> ks.length=fs.length -> (∀ p ∈ fs,p.1 < 18446744073709551616) -> wrL ks fs=some a -> readL ks ⟨a.toArray⟩=some fs:=by
 intro ks
 induction ks with
 | nil =>
   intro fs a _ hl _ h
   obtain rfl:=List.eq_nil_of_length_eq_zero hl.symm
   simp only [wrL,Option.some.injEq] at h
   subst h
   show (if (⟨#[]⟩:ByteArray).toList=[] then some [] else none)=_
   rw [if_pos (by rw [Lib.toList_data])]
 | cons k ks ih =>
   intro fs a hr hl hn h
   cases fs with
   | nil=>simp at hl
   | cons f fs =>
     have e:wrL (k :: ks) (f :: fs)=(match wr1 k f with | none=>none | some a=>(wrL ks fs).map (a ++ ·)):=rfl
     rw [e] at h
     cases h1:wr1 k f with
     | none=>rw [h1] at h; cases h
     | some b =>
       rw [h1] at h
       dsimp only at h
       cases h2:wrL ks fs with
       | none=>rw [h2] at h; cases h
       | some c =>
         rw [h2] at h
         simp only [Option.map_some,Option.some.injEq] at h
         subst h
         have hc:kindB k=true \/ c=[]:=by
          cases ks with
          | nil=>right; cases fs with
            | nil=>simp only [wrL,Option.some.injEq] at h2; exact h2.symm
            | cons _ _=>simp at hl
          | cons d r=>left; rw [rightL_cons (by simp)] at hr; simp only [Bool.and_eq_true] at hr; exact hr.1
         have hr':rightL ks=true:=by
          cases ks with
          | nil=>rfl
          | cons d r=>rw [rightL_cons (by simp)] at hr; simp only [Bool.and_eq_true] at hr; exact hr.2
         have e2:readL (k :: ks) ⟨(b ++ c).toArray⟩=(match rd1 k ⟨(b ++ c).toArray⟩ with | none=>none | some p=>(readL ks p.2).map (p.1 :: ·)):=rfl
         rw [e2,rd_wr1 h1 (hn f (List.mem_cons_self ..)) c hc]
         dsimp only
         rw [ih fs c hr' (by simpa using hl) (fun p hp=>hn p (List.mem_cons_of_mem _ hp)) h2]
         rfl
theorem read_write {ks:List UInt8} {fs:List Fld} {a:List UInt8} (hn:∀ p ∈ fs,p.1 < 18446744073709551616) (h:writeL ks fs=some a):readF ks ⟨a.toArray⟩=some fs:=by
 by_cases hr:rightL ks=true /\ ks.length=fs.length
 ·rw [writeL_yes hr.1 hr.2] at h
  unfold readF
  rw [if_pos hr.1]
  exact rd_wr ks fs a hr.1 hr.2 hn h
 ·unfold writeL at h
  rw [if_neg hr] at h; cases h
theorem be_mod (n k:Nat):∀ w,w <= k -> be (n % 256 ^ k) w=be n w:=by
 intro w
 induction w with
 | zero=>intro _; rfl
 | succ w ih =>
   intro hw
   show UInt8.ofNat ((n % 256 ^ k) / 256 ^ w % 256) :: be (n % 256 ^ k) w=UInt8.ofNat (n / 256 ^ w % 256) :: be n w
   rw [ih (by omega)]
   have e:(256:Nat) ^ k=256 ^ w * 256 ^ (k - w):=by rw [<- Nat.pow_add]; congr 1; omega
   have d:(256:Nat) ∣ 256 ^ (k - w):=⟨256 ^ (k - w - 1),by rw [<- Nat.pow_succ']; congr 1; omega⟩
   rw [e,Nat.mod_mul_right_div_self,Nat.mod_mod_of_dvd _ d]
theorem less_byte {a b:Nat} (ha:a < 256) (hb:b < 256):(decide (UInt8.ofNat a < UInt8.ofNat b))=decide (a < b) /\ (UInt8.ofNat a == UInt8.ofNat b)=decide (a=b):=by
 have e1:(UInt8.ofNat a).toNat=a:=by rw [UInt8.toNat_ofNat']; omega
 have e2:(UInt8.ofNat b).toNat=b:=by rw [UInt8.toNat_ofNat']; omega
 constructor
 ·rw [decide_eq_decide,UInt8.lt_iff_toNat_lt,e1,e2]
 ·rw [Bool.eq_iff_iff]
  simp only [beq_iff_eq,decide_eq_true_eq]
  constructor
  ·intro h; rw [<- e1,h,e2]
  ·intro h; rw [h]
theorem bytesLess_be:∀ w n m,n < 256 ^ w -> m < 256 ^ w -> Op.bytesLess (be n w) (be m w)=decide (n < m):=by
 intro w
 induction w with
 | zero=>intro n m hn hm; simp at hn hm; subst hn hm; rfl
 | succ w ih =>
   intro n m hn hm
   have hp:0 < 256 ^ w:=Nat.pow_pos (by decide)
   rw [Nat.pow_succ] at hn hm
   have hn':n / 256 ^ w < 256:=Nat.div_lt_of_lt_mul hn
   have hm':m / 256 ^ w < 256:=Nat.div_lt_of_lt_mul hm
   show (decide (UInt8.ofNat (n / 256 ^ w % 256) < UInt8.ofNat (m / 256 ^ w % 256)) || (UInt8.ofNat (n / 256 ^ w % 256) == UInt8.ofNat (m / 256 ^ w % 256) && Op.bytesLess (be n w) (be m w)))=_
   rw [Nat.mod_eq_of_lt hn',Nat.mod_eq_of_lt hm',(less_byte hn' hm').1,(less_byte hn' hm').2]
   have i:=ih (n % 256 ^ w) (m % 256 ^ w) (Nat.mod_lt _ hp) (Nat.mod_lt _ hp)
   rw [be_mod _ _ _ (Nat.le_refl _),be_mod _ _ _ (Nat.le_refl _)] at i
   rw [i]
   have dn:=Nat.div_add_mod n (256 ^ w)
   have dm:=Nat.div_add_mod m (256 ^ w)
   have mn:=Nat.mod_lt n hp
   have mm:=Nat.mod_lt m hp
   generalize 256 ^ w=p at *
   generalize n / p=x at *
   generalize m / p=y at *
   generalize n % p=u at *
   generalize m % p=v at *
   rcases Nat.lt_trichotomy x y with h | h | h
   ·have:p * (x + 1) <= p * y:=Nat.mul_le_mul_left p h
    rw [Nat.mul_add] at this
    simp [h]; omega
   ·subst h
    simp; omega
   ·have:p * (y + 1) <= p * x:=Nat.mul_le_mul_left p h
    rw [Nat.mul_add] at this
    have h1:¬ x < y:=by omega
    have h2:¬ x=y:=by omega
    simp [h1,h2]; omega
theorem p256:(256:Nat) ^ 8=18446744073709551616:=by decide
set_option maxRecDepth 100000
set_option maxHeartbeats 1000000
theorem srt_o {S:RS} {place:Nat} {o:Option TT} (h:TreeSt S place o):Srt (entsO o):=by
 cases o with
 | none=>exact List.Pairwise.nil
 | some T=>exact h.2.wf.srt
set_option maxHeartbeats 20000000
theorem infoP:(Tryz.prog.info? 170).map (fun i=>(i.zero,i.size,i.bytes))=some (some (.agg #[.string ⟨#[]⟩,.string ⟨#[]⟩]),2,32):=by kernel_rfl
def ScanEnd (base:Nat) (W w':World) (lb:Nat) (v:Value) (frm tt:ByteArray) (limit:Nat) (E L:List (ByteArray × ByteArray)) (ok:Bool):Prop:=∃ L',sRun tt limit (from_ frm E) L=(L',ok) /\ AccGo base W w' lb v L'
theorem leaf_cells {W:World} {F:Nat -> Prop} {q:Nat} {l:List (ByteArray × ByteArray)} (h:RdIn W q (.leaf l) F) (hp:0 < l.length) :
 ∃ g1 o1 c1 g2 o2 c2,W.cell? ⟨q,1,none⟩=some (.slice (some ⟨g1,o1,none⟩) l.length c1) /\ W.cell? ⟨q,2,none⟩=some (.slice (some ⟨g2,o2,none⟩) l.length c2) /\ (F q /\ F g1 /\ F g2) /\ ∀ i (hi:i < l.length),W.cell? ⟨g1,o1 + i,none⟩=some (.string l[i].1) /\ W.cell? ⟨g2,o2 + i,none⟩=some (.string l[i].2):=by
 obtain ⟨vk,vv,vi,a,b⟩:=h
 obtain ⟨g1,o1,c1,e1,h1,k1⟩:=a.ks.lit (by simpa [Nd.keys] using hp)
 obtain ⟨g2,o2,c2,e2,h2,k2⟩:=a.vs.lit (by simpa [Nd.vals] using hp)
 subst e1 e2
 refine ⟨g1,o1,c1,g2,o2,c2,?_,?_,⟨(b q (.inl rfl)).2,(b g1 (.inr (.inl rfl))).2,(b g2 (.inr (.inr (.inl rfl)))).2⟩,fun i hi=>⟨?_,?_⟩⟩
 ·have:=cell_lit (i:=1) a.blk rfl
  simpa [Nd.keys] using this
 ·have:=cell_lit (i:=2) a.blk rfl
  simpa [Nd.vals] using this
 ·have:=k1 i (by simpa [Nd.keys] using hi)
  rw [this]; simp [Nd.keys]
 ·have:=k2 i (by simpa [Nd.vals] using hi)
  rw [this]; simp [Nd.vals]
theorem scan_leaf (w0 W:World) (G:Nat -> Prop) (tb rb place n m:Nat) (S:RS) (p:Nat) (t:PT 0) (frm tt:ByteArray) (limit lb deep base:Nat) (L:List (ByteArray × ByteArray)) (v:Value) (hB:TBase w0 W G G tb rb place n m S) (hA:Acc base W lb L v) (hl:w0.heap.size <= lb) (hb:w0.heap.size <= base) (hbW:base <= W.heap.size) (hG:∀ k,G k -> k < w0.heap.size) (hT:Tr S 0 p t) (hd:deep <= 20) (hm:m <= 3900000) (hcap:L.length + (ents 0 t).length <= 40000000) (hlim:limit <= 9223372036854775807) (htt:tt.size=0) :
 Calls Tryz.prog 142 #[.pointer (some ⟨tb,0,none⟩),.int .i64 (p:Int),.string frm,.string tt,.int .i64 (limit:Int),.pointer (some ⟨lb,0,none⟩),.int .i64 (deep:Int)] W fun e w'=>∃ ok,e=.returned (.bool ok) /\ Hid (ScanEnd base W w' lb v frm tt limit (ents 0 t) L ok):=by
 have hnot:∀ (x:Bool) (w:World),(Op.unary .not (.bool x)).run Tryz.prog w=.ok (.bool (!x)) w:=fun _ _=>rfl
 have RD:=Hd (tail_read hB (by omega) hT.on hT.fit hT.ok)
 have hd1:¬ (20:Int) < (deep:Int):=by omega
 obtain ⟨A,B,rfl,hA1,hB1,-⟩:=lb_split t frm hT.wf.srt
 have HF:Hid (from_ frm (ents 0 (A ++ B))=B):=Hd (by
  show from_ frm (A ++ B)=B
  rw [from_app,from_none hA1,from_all hB1,List.nil_append])
 have hpos:0 < (A ++ B).length:=by have:=hT.pos; rw [nd_len0] at this; exact this
 have hl6:(Nd.leaf (A ++ B)).len <= 1000000:=Nat.le_of_lt (Nat.lt_trans hT.ok.few (by decide))
 have hlab:(A ++ B).length <= 65536:=by have:=hT.ok.few; rw [nd_len0] at this; exact Nat.le_of_lt this
 have HTH:∃ there:Bool,there=true ↔ ∃ B',B.map Prod.fst=frm :: B':=by
  by_cases h:∃ B',B.map Prod.fst=frm :: B'
  ·exact ⟨true,⟨fun _=>h,fun _=>rfl⟩⟩
  ·exact ⟨false,⟨(fun e=>by cases e),fun e=>absurd e h⟩⟩
 obtain ⟨there,hth⟩:=HTH
 have FD:Hid (∀ W' q,RdN w0 W' G q (nd 0 (A ++ B)) -> Calls Tryz.prog 165 #[.pointer (some ⟨q,0,none⟩),.string frm] W' fun e w'=>e=.returned (.tuple #[.int .i64 (A.length:Nat),.bool there]) /\ ∃ q,w'=W'.drewN q):=Hd fun W' q hr=>by
  obtain ⟨vk,vv,vi,hv⟩:=hr.view
  have:=find_c there q (.leaf (A ++ B)) vk vv vi (A.map Prod.fst) (B.map Prod.fst) frm W' hv (by simp [Nd.keys]) hT.pos hl6 (fun a ha=>by obtain ⟨e,he,rfl⟩:=List.mem_map.1 ha; exact hA1 e he) (fun b hb=>by obtain ⟨e,he,rfl⟩:=List.mem_map.1 hb; exact hB1 e he) hth
  rw [List.length_map] at this; exact this
 have HB:=Hd hB
 have HAcc:=Hd hA
 have HG:=Hd hG
 have HLB:Hid (lb < W.heap.size):=Hd (lt_of_heap hA.blk)
 have HCAP:=Hd hcap
 have HBW:=Hd hbW
 have HBB:=Hd hb
 clear hB hA hG hT hA1 hB1 hm hcap hth hl6 hd hbW hb
 go_enter Tryz.func142,Tryz.ntmps142
 go_wp2_with fail
 refine RD.out.mono ?_
 rintro e w3 ⟨q,rfl,HO⟩
 have N3:Hid (RdN w0 w3 G q (nd 0 (A ++ B))):=Hd (HO.out.rdN HB.out.up.size HB.out.room.lt)
 have HFN:Hid (∀ k,w3.heap.size <= k -> W.heap.size <= k):=Hd fun k hk=>Nat.le_trans HO.out.below.size hk
 have FD3:=Hd (FD.out w3 q N3.out)
 obtain ⟨vk,vv,vi,hv⟩:=N3.out.view
 have c0:w3.cell? ⟨q,0,none⟩=some (.bool true):=cell_lit hv.blk rfl
 have HO2:=HO
 clear RD FD hv
 go_wp2_with fail
 refine FD3.out.mono ?_
 rintro e w4 ⟨rfl,qn,rfl⟩
 have HO4:Hid (∃ F,IsNd (w3.drewN qn) F q (nd 0 (A ++ B)) /\ ∀ k,F k -> W.heap.size <= k):=Hd (by
  obtain ⟨F,a,b,c⟩:=HO2.out
  exact ⟨F,a.below (drewN_below w3 qn) (Nat.le_refl _),b⟩)
 have A4:=Hd ((HAcc.out.below HO2.out.below).below (drewN_below w3 qn))
 have BL4:Hid (Below W.heap.size W (w3.drewN qn)):=Hd (HO2.out.below.trans (Below.drewN (Below.refl _ _) qn))
 generalize w3.drewN qn=w4 at *
 clear FD3 N3 HO HO2 c0
 go_wp2_with fail
 go_loopg [18] B.length (fun gg s18 wr=>∃ (j:Nat),gg=B.length - j /\ j <= B.length /\ s18=.int .i64 ((A.length + j:Nat):Int) /\ Hid (∃ Lj vj,sRun tt limit (B.take j) L=(Lj,true) /\ Lj.length <= L.length + j /\ Acc base wr lb Lj vj /\ (∀ k,vj.ownBlock=some k -> v.ownBlock=some k \/ w4.heap.size <= k) /\ Upd (fun k=>k=lb \/ v.ownBlock=some k) w4 wr))
 case atStart=>exact ⟨0,rfl,Nat.zero_le _,rfl,Hd ⟨L,v,by simp [sRun],Nat.le_refl _,A4.out,fun k e=>.inl e,Upd.refl _ _⟩⟩
 case round =>
  obtain ⟨j,hgk,hj,rfl,HI⟩:=hrel
  obtain ⟨Lj,vj,hs,hll,ha,hn,hu⟩:=HI.out
  obtain ⟨F5,f1,f2⟩:=HO4.out
  have N5:RdIn wr q (.leaf (A ++ B)) F5:=(f1.upd hu fun k hk e=>by
   have:=f2 k hk
   rcases e with e | e
   ·have:=HLB.out; omega
   ·have:=(HAcc.out.row.lt k e).2; omega).rdIn
  have HF5:Hid (∀ k,F5 k -> W.heap.size <= k /\ k < w4.heap.size):=Hd fun k hk=>⟨f2 k hk,f1.lt k hk⟩
  obtain ⟨g1,o1,c1,g2,o2,c2,k1,k2,hFF,kc⟩:=leaf_cells N5 hpos
  have HFF:=Hd hFF
  clear hFF f1 f2
  obtain ⟨la,lc,hvj⟩:∃ a c,vj=.slice a Lj.length c:=by
   rcases ha.row.2 with ⟨rfl,h0⟩ | ⟨g,cap,cur,rfl,-⟩
   ·exact ⟨none,0,by rw [h0]⟩
   ·exact ⟨_,_,rfl⟩
  subst hvj
  have m0:wr.cell? ⟨lb,0,none⟩=some (.slice la Lj.length lc):=cell_lit ha.blk rfl
  have m1:wr.frozen? ⟨lb,0,none⟩=false:=frozen_lit ha.blk 0
  have hlbl:=lt_of_heap ha.blk
  by_cases hjl:j < B.length
  ·obtain ⟨kx,ky⟩:=kc (A.length + j) (by simp; omega)
   rw [List.getElem_append_right (by omega)] at kx ky
   simp only [Nat.add_sub_cancel_left] at kx ky
   have hlt:((A.length + j:Nat):Int) < (((A ++ B).length:Nat):Int):=by simp; omega
   have hixb:A.length + j <= 65536:=by simp at hlab; omega
   obtain ⟨LN,hLN⟩:=exE (Lj.length)
   obtain ⟨e,he⟩:=exE (B[j])
   have HE:Hid (B[j]?=some e):=Hd (by rw [List.getElem?_eq_getElem hjl,he])
   rw [he] at kx ky
   rw [hLN] at m0
   have HLN:=Hd hLN
   have HJ:=Hd hj
   have HJL:=Hd hjl
   have HS:=Hd hs
   have HLL:=Hd hll
   have HA2:=Hd ha
   have HN2:=Hd hn
   have HU2:=Hd hu
   have QC:Hid (∀ W5,Upd (fun k=>k=lb \/ (Value.slice la Lj.length lc).ownBlock=some k) wr W5 -> W5.cell? ⟨q,1,none⟩=some (.slice (some ⟨g1,o1,none⟩) (A ++ B).length c1) /\ W5.cell? ⟨q,2,none⟩=some (.slice (some ⟨g2,o2,none⟩) (A ++ B).length c2) /\ W5.cell? ⟨g1,o1 + (A.length + j),none⟩=some (.string e.1) /\ W5.cell? ⟨g2,o2 + (A.length + j),none⟩=some (.string e.2)):=Hd fun W5 hU5=>by
    have nn:∀ k,F5 k -> k < wr.heap.size -> W5.heap[k]?=wr.heap[k]?:=fun k hk hlt=>hU5.block k hlt fun e=>by
     obtain ⟨h1,h2⟩:=HF5.out k hk
     rcases e with e | e
     ·have:=HLB.out; omega
     ·rcases hn k e with e | e
      ·have:=(HAcc.out.row.lt k e).2; omega
      ·omega
    exact ⟨(World.cell?_of_block (nn q HFF.out.1 (World.block_lt_of_cell? _ _ k1))).trans k1,(World.cell?_of_block (nn q HFF.out.1 (World.block_lt_of_cell? _ _ k2))).trans k2,(World.cell?_of_block (nn g1 HFF.out.2.1 (World.block_lt_of_cell? _ _ kx))).trans kx,(World.cell?_of_block (nn g2 HFF.out.2.2 (World.block_lt_of_cell? _ _ ky))).trans ky⟩
   have HGK:=Hd hgk
   clear kc
   obtain ⟨ix,hix⟩:=exE (A.length + j)
   have HIX:=Hd hix
   rw [hix] at kx ky hlt hixb QC ⊢
   clear hix
   generalize (A ++ B).length=NN at *
   clear hj hjl hs hll ha hn hu N5 hgk he hLN HI hlab hpos
   have hb':B=B.take j ++ e :: B.drop (j + 1):=by
    have h1:=HE.out
    obtain ⟨h2,h3⟩:=List.getElem?_eq_some_iff.1 h1
    rw [<- h3]; exact (List.take_append_drop j B).symm.trans (by rw [List.drop_eq_getElem_cons h2])
   have HSTOP:Hid (LN=limit \/ (tt.size ≠ 0 /\ kless e.1 tt=false) -> ScanEnd base W wr lb v frm tt limit (ents 0 (A ++ B)) L false):=Hd fun hst=>by
    refine ⟨Lj,?_,(AccGo.below_left BL4.out ⟨⟨_,HA2.out,HN2.out⟩,HU2.out⟩)⟩
    rw [HF.out,hb',sRun_true HS.out,sRun_cons,if_pos (by rw [HLN.out]; exact hst)]
   have HGO:Hid (¬ (LN=limit \/ (tt.size ≠ 0 /\ kless e.1 tt=false)) -> sRun tt limit (B.take (j + 1)) L=(Lj ++ [e],true)):=Hd fun hst=>by
    have h1:=HE.out
    obtain ⟨h2,h3⟩:=List.getElem?_eq_some_iff.1 h1
    rw [List.take_succ_eq_append_getElem h2,h3,sRun_true HS.out,sRun_cons,if_neg (by rw [HLN.out]; exact hst)]; rfl
   have hfew:LN + 1 <= 40000000:=by
    have h1:=HLL.out
    have h2:=HCAP.out
    have h3:(ents 0 (A ++ B)).length=(A ++ B).length:=rfl
    have h4:=HJL.out
    rw [HLN.out] at h1
    rw [h3,List.length_append] at h2; omega
   clear hb'
   have htl:tt.toList=[] ↔ tt.size=0:=by rw [Lib.toList_data,Lib.size_eq]; exact List.length_eq_zero_iff.symm
   by_cases hst:LN=limit \/ (tt.size ≠ 0 /\ kless e.1 tt=false)
   ·have HE2:=Hd (HSTOP.out hst)
    have hc1:LN=limit:=by rcases hst with h | ⟨h,-⟩; exact h; exact absurd htt h
    have q1:((LN:Int) == (limit:Int))=true:=by simp; omega
    have q0:=htl.2 htt
    clear HSTOP HGO hfew htl
    go_wp2_with fail
    all_goals (go_ret; exact ⟨false,rfl,HE2⟩)
   ·have HR:=Hd (HGO.out hst)
    have q1:((LN:Int) == (limit:Int))=false:=by simp; exact fun h=>hst (.inl (by omega))
    have q0:=htl.2 htt
    obtain ⟨jP,hjP,hP0,hP1,hP2⟩:=info_parts infoP
    have hdr:=(Below.refl wr.heap.size wr).drew
    have AD:=Hd (HA2.out.below hdr)
    have UD:=Hd (HU2.out.trans' (hdr.upd' (Nat.le_refl _)) fun _ _ e=>False.elim e)
    have HBS:Hid (base <= wr.drew.heap.size):=Hd (by
     have h1:=HU2.out.size; have h2:=BL4.out.size; have h3:=HBW.out
     show base <= wr.heap.size; omega)
    have d0:wr.drew.cell? ⟨lb,0,none⟩=some (.slice la Lj.length lc):=by rw [<- HLN.out] at m0; exact m0
    have dl:lb < wr.drew.heap.size:=hlbl
    have HN5':Hid (wr.drew.heap.size=wr.heap.size):=Hd rfl
    have HFEW:Hid (Lj.length + 1 <= maxLen /\ (Lj.length + 1) * 32 <= 140737488355328 /\ Lj.length + 1 <= 40000000):=Hd (by have:=HLN.out; unfold maxLen; omega)
    clear HSTOP HGO htl hst hfew htt
    rw [<- HLN.out] at m0 q1
    have w1:IntKind.i64.wrap ((ix:Int) + 1)=(ix:Int) + 1:=wrap_small (by omega) (by omega)
    go_wp2_with fail
    all_goals (
     have AW:=Hd (HA2.out.below (((Below.refl wr.heap.size wr).alloc (Nat.le_refl _) (.cells #[.string e.1,.string e.2] 170)).drew))
     have hbW:Below wr.heap.size wr ((wr.alloc (.cells #[.string e.1,.string e.2] 170)).drew):=((Below.refl wr.heap.size wr).alloc (Nat.le_refl _) _).drew
     go_region_law ((first
      | (refine step_append_y (by rfl) _ _ _ (by rfl) base 170 jP _ 2 32 Tryz.underlying166 hjP hP0 hP1 hP2 rfl (by decide) _ _ _ (by rfl) AW.out.row _ 1 _ (by rfl) (show Yields ((wr.alloc (.cells #[.string e.1,.string e.2] 170)).drew) (.slice (some ⟨wr.heap.size,0,none⟩) 1 1) 1 [.string e.1,.string e.2] from yields_boxL wr #[.string e.1,.string e.2] 170 1 1) rfl (one2 _ _ rfl rfl) HFEW.out.1 HFEW.out.2.1 (by have:=HBS.out; show base <= (wr.alloc _).heap.size; rw [World.size_alloc]; have:=HN5'.out; omega) ?_
         intro v5 W5 ho5 hg5 ha5
         have PU:=Hd (acc_push (e:=e) HA2.out (((Below.refl wr.heap.size wr).alloc (Nat.le_refl _) (.cells #[.string e.1,.string e.2] 170)).drew) ho5 hg5 ha5 HFEW.out.2.2)
         obtain ⟨xa,xm,xc,rfl⟩:∃ a b c,v5=.slice a b c:=by
          rcases ho5.2 with ⟨rfl,_⟩ | ⟨g,cap,cur,rfl,_⟩
          ·exact ⟨_,_,_,rfl⟩
          ·exact ⟨_,_,_,rfl⟩
         have p0:=PU.out.1.1
         have p1:=PU.out.1.2
         clear ho5 hg5 ha5)))
     all_goals (
      go_wp2_with fail
      go_roundg (B.length - (j + 1))))
    all_goals (first
     | (case measure=>have:=HGK.out; have:=HJL.out; omega)
     | (case rel =>
         refine ⟨j + 1,rfl,HJL.out,by have:=HIX.out; congr 1; omega,Hd ⟨Lj ++ [e],_,HR.out,by have:=HLL.out; simp; omega,PU.out.2.1,fun k hk=>?_,HU2.out.trans' PU.out.2.2.2 fun k hk e=>?_⟩⟩
         ·rcases PU.out.2.2.1 k hk with e | e
          ·exact HN2.out k e
          ·have:=HU2.out.size; have:=HN5'.out; exact .inr (by omega)
         ·rcases e with e | e
          ·exact .inl e
          ·exact .inr ((HN2.out k e).resolve_right (by omega))))
  ·obtain rfl:j=B.length:=by omega
   rw [List.take_length] at hs
   have HE2:Hid (ScanEnd base W wr lb v frm tt limit (ents 0 (A ++ B)) L true):=Hd ⟨Lj,by rw [HF.out]; exact hs,AccGo.below_left BL4.out ⟨⟨_,ha,hn⟩,hu⟩⟩
   have hlt:¬ ((A.length + B.length:Nat):Int) < (((A ++ B).length:Nat):Int):=by simp
   clear kc
   generalize (A ++ B).length=NN at *
   clear HI ha hn hu N5 hgk
   clear hs hll
   go_wp2_with fail
   go_ret
   first | exact ⟨true,rfl,HE2⟩ | exact .inr ⟨rfl,HE2⟩
end Go.Proofs.YtdcjhpafipbpkaaGreatDoor
