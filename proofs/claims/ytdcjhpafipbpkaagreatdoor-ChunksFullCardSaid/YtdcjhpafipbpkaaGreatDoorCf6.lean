/- Parts of the proof of ChunksFull,joined: PackBk,PackCk,PackWk,PackVk,PackRk,PackQk,PackZk,PackPk,PackP2k,PackP3k,ReadFk,PackFallsk,ChkP,ChkC,ChkD,ChkE,ChkF,ChkG,ChkH,FulA,FulB,ChkI,ChkJ,ChkK,ChkL,ChkM,ChkN,ChkO,ChkQ,ChkR,ChkS,ChrM. No condition. -/
import Derived.Test.YtdcjhpafipbpkaaGreatDoorCf5
import Derived.Shelf.Strings.SlTrimAscii
import Derived.Deep.AppendLies
set_option maxRecDepth 100000
set_option maxHeartbeats 2000000
set_option linter.unusedSimpArgs false
set_option linter.unusedVariables false
set_option linter.unusedSectionVars false
namespace Go.Proofs.YtdcjhpafipbpkaaGreatDoor
open Go.RowKit
theorem zfs {a b:Bool} (h:a=b):Ending.returned (.bool a)=.returned (.bool b):=by rw [h]
set_option maxHeartbeats 400000 in
theorem zfM (s:ByteArray) (w:World) (hs:s.size<=1000000000) :
 Calls Tryz.prog 120 #[.string s] w λ e w'=>e=.returned (.bool (zbs s.data.toList))/\Below w.heap.size w w':=by
 go_enter Tryz.func120,Tryz.ntmps120
 go_wp2_with fail
 refine (Tryz.strings_TrimSuffix s _ w (by omega)).mono ?_
 rintro e w1 ⟨rfl,rfl⟩
 have hts:(ByteArray.mk (Lib.trimSuffix s.data.toList [114]).toArray).size<=s.size:=by
  show (Lib.trimSuffix s.data.toList [114]).toArray.size<=s.size
  unfold Lib.trimSuffix
  rw [List.size_toArray]
  have:s.data.toList.length=s.size:=by simp
  split
  ·have:=List.length_take_le (s.data.toList.length-[(114:UInt8)].length) s.data.toList;omega
  ·omega
 have e1:(ByteArray.mk (Lib.trimSuffix s.data.toList [114]).toArray).data.toList=Lib.trimSuffix s.data.toList [114]:=by simp
 have HE:=Hd e1
 clear e1
 generalize hx:ByteArray.mk (Lib.trimSuffix s.data.toList _).toArray=x
 rw [show (ByteArray.mk (Lib.trimSuffix s.data.toList [114]).toArray)=x from hx] at HE hts
 clear hx
 go_wp2_with fail
 refine (Any.strings_Trim_laid Tryz.lays160 (by kernel_rfl) x ⟨#[110,104,98,116]⟩ _ (by omega) (by decide) (ascii_of_all (by decide))).mono ?_
 rintro e w2 ⟨rfl,hb⟩
 rw [HE.out]
 have Hb:=Hd hb
 clear hb
 go_wp2_with fail
 go_ret
 exact ⟨zfs (ziQ _),Hb.out⟩
theorem zqm (w:World):Bld w.heap.size w.heap.size [] (w.alloc (.cells #[.pointer none,.slice none 0 0] 156)) :=
 .inl ⟨zNr _,_,heap_alloc_new _ _,World.ownsRowF_of (World.ownsRow_nil _ _ _ _),by simp [Value.ownBlock]⟩
theorem zhS (s:ByteArray) (k:Nat):s.extract 0 k=⟨(s.data.toList.take k).toArray⟩:=by
 apply ByteArray.ext;apply Array.ext';simp [ByteArray.data_extract]
theorem zhT (s:ByteArray) (k:Nat):s.extract k s.size=⟨(s.data.toList.drop k).toArray⟩:=by
 apply ByteArray.ext;apply Array.ext'
 rw [Lib.extract_data,List.take_of_length_le (by simp)]
theorem ziR (c:UInt8) (n:Nat) (hn:n<256):((c.toNat:Int) == (n:Int))=(c == UInt8.ofNat n):=by
 rw [Bool.eq_iff_iff];simp only [beq_iff_eq]
 constructor
 ·intro h
  have:c.toNat=n:=by omega
  rw [<-this,UInt8.ofNat_toNat]
 ·intro h;rw [h,UInt8.toNat_ofNat'];omega
abbrev Fld:=Nat × ByteArray
def zfb (l:List Fld):List Value:=l.flatMap λ p=>[.int .u64 p.1,.string p.2]
def zcj (w:World) (v:Value) (l:List Fld):Prop :=
 (∃ a cap,v=.slice a l.length cap/\∀ k,(h:k<l.length)->∃ b off,a=some ⟨b,off,none⟩/\w.cell? ⟨b,off+k*2,none⟩=some (.int .u64 l[k].1)/\w.cell? ⟨b,off+k*2+1,none⟩=some (.string l[k].2)/\b<w.heap.size) /\
   ∀ p∈l,p.1<18446744073709551616
theorem zcj.get {w:World} {a:Option Addr} {n cap:Nat} {l:List Fld} (h:zcj w (.slice a n cap) l) (k:Nat) (hk:k<l.length) :
 ∃ b off,a=some ⟨b,off,none⟩/\w.cell? ⟨b,off+k*2,none⟩=some (.int .u64 l[k].1)/\w.cell? ⟨b,off+k*2+1,none⟩=some (.string l[k].2)/\b<w.heap.size:=by
 obtain ⟨⟨a',c',e,hc⟩,_⟩:=h
 cases e
 exact hc k hk
theorem zcj.form {w:World} {v:Value} {l:List Fld} (h:zcj w v l):∃ a cap,v=.slice a l.length cap:=by
 obtain ⟨⟨a,c,e,_⟩,_⟩:=h;exact ⟨a,c,e⟩
theorem zcj.below {w w':World} {v:Value} {l:List Fld} (h:zcj w v l) (hb:Below w.heap.size w w'):zcj w' v l:=by
 obtain ⟨⟨a,c,rfl,hc⟩,hn⟩:=h
 refine ⟨⟨a,c,rfl,λ k hk=>?_⟩,hn⟩
 obtain ⟨b,off,e,h1,h2,h3⟩:=hc k hk
 exact ⟨b,off,e,(hb.cell (p:=⟨b,off+k*2,none⟩) h3).trans h1,(hb.cell (p:=⟨b,off+k*2+1,none⟩) h3).trans h2,Nat.lt_of_lt_of_le h3 hb.size⟩
def wr1 (k:UInt8) (f:Fld):Option (List UInt8) :=
 if zbT k=true/\k≠116 then (if f.2.size≠0\/256 ^ (zcb k.toNat).toNat<=f.1 then none else some (be f.1 (zcb k.toNat).toNat))
 else if f.1≠0 then none
 else if k=116 then (if 65535<f.2.size then none else some (be f.2.size 2++f.2.data.toList))
 else some f.2.data.toList
def wrL:List UInt8->List Fld->Option (List UInt8)
 | k::ks,f::fs=>match wr1 k f with
   | none=>none
   | some a=>(wrL ks fs).map (a++·)
 | _,_=>some []
theorem zoh {ks:List UInt8} {fs:List Fld} {k:Nat} {acc:List UInt8} (h1:k<ks.length) (h2:k<fs.length) (h:wrL ks fs=(wrL (ks.drop k) (fs.drop k)).map (acc++·)) :
 (wr1 ks[k] fs[k]=none->wrL ks fs=none)/\(∀ a,wr1 ks[k] fs[k]=some a->wrL ks fs=(wrL (ks.drop (k+1)) (fs.drop (k+1))).map ((acc++a)++·)):=by
 have e:wrL (ks[k]::ks.drop (k+1)) (fs[k]::fs.drop (k+1))=(match wr1 ks[k] fs[k] with|none=>none|some a=>(wrL (ks.drop (k+1)) (fs.drop (k+1))).map (a++·)):=rfl
 rw [List.drop_eq_getElem_cons h1,List.drop_eq_getElem_cons h2,e] at h
 constructor
 ·intro hn;rw [hn] at h;exact h
 ·intro a ha
  rw [ha] at h
  rw [h]
  cases wrL (ks.drop (k+1)) (fs.drop (k+1)) <;> simp
theorem Bld.kept {B b:Nat} {l:List UInt8} {w w':World} (h:Bld B b l w) (hk:∀ j,j<w.heap.size->w'.heap[j]?=w.heap[j]?):Bld B b l w':=by
 have one:∀ p,Lib.BuilderAtF 156 5 B b p (Lib.byteCells l) w->Lib.BuilderAtF 156 5 B b p (Lib.byteCells l) w':=by
  rintro p ⟨hB,v,hb,⟨h1,h2⟩,hne⟩
  refine ⟨hB,v,(hk b (zab hb)).trans hb,⟨h1,?_⟩,hne⟩
  rcases h2 with h2|⟨g,cap,cur,fz,rfl,hg,hh,r⟩
  ·exact .inl h2
  ·exact .inr ⟨g,cap,cur,fz,rfl,hg,(hk g (zab hh)).trans hh,r⟩
 exact h.elim (λ x=>.inl (one _ x)) (λ x=>.inr (one _ x))
theorem Bld.alloc {B b:Nat} {l:List UInt8} {w:World} (h:Bld B b l w) (o:Obj):Bld B b l (w.alloc o):=h.kept (λ j hj=>zao o hj)
theorem zpd (B b:Nat) (l:List UInt8) (S:ByteArray) (w:World) (h:Bld B b l w) (hB:B<=w.heap.size) (hl:l.length+S.size<=100000000000) :
 Calls Tryz.prog 82 #[.pointer (some ⟨b,0,none⟩),.string S] w λ e w'=>e=.returned (.tuple #[.int .i64 S.size,.nilIface])/\(Bld B b (l++S.data.toList) w'/\Below B w w'):=by
 refine (Tryz.Builder_WriteString_k B b (Lib.byteCells l) S w h (by rw [zb0];omega) hB).mono ?_
 rintro e w' ⟨rfl,h1,h2,h3⟩
 refine ⟨rfl,?_,h2⟩
 have e:Lib.byteCells l++Lib.strCells S=Lib.byteCells (l++S.data.toList):=by rw [Lib.strCells_eq];simp [Lib.byteCells]
 rw [e] at h1
 exact Bld.of h1
theorem zoi {e:TypeId} {b k:Nat} {w w':World} (h:Lib.OthersKept e (some b) w w') {i:Nat} {v:Value} {c:Array Value} {ty:TypeId} {fz:Nat × Nat} (ho:w.heap[k]?=some (.cells c ty fz)) (hb:k≠b) (hty:ty≠e) (hv:c[i]?=some v):w'.cell? ⟨k,i,none⟩=some v :=
 zaa (h _ _ ho (by simpa using hb) (by rintro c fz h;cases h;exact hty rfl)) hv
theorem Bld.lt {B b:Nat} {l:List UInt8} {w:World} (h:Bld B b l w):b<w.heap.size :=
 h.elim (λ x=>zab x.2.choose_spec.1) (λ x=>zab x.2.choose_spec.1)
def zqn (w:World) (ks:List UInt8) (fs:List Fld) (g:Nat) (s22:Value) (wr:World):Prop :=
 ∃ k acc,g=fs.length-k/\k<=fs.length/\s22=.int .i64 k/\Bld w.heap.size w.heap.size acc wr/\acc.length<=k*1000010/\Below w.heap.size w wr/\wrL ks fs=(wrL (ks.drop k) (fs.drop k)).map (acc++·)
def zmq (l:Option (List UInt8)):Value:=match l with
 | none=>.tuple #[.string ⟨#[]⟩,.bool false]
 | some s=>.tuple #[.string ⟨s.toArray⟩,.bool true]
theorem zbU (S:ByteArray):S.toList=[] ↔ S.size=0:=by
 rw [Lib.toList_data,Lib.size_eq]
 exact List.length_eq_zero_iff.symm
theorem zd0 (c:UInt8) (wd:Nat) (n:Nat) (S:ByteArray) (h:(zbT c && c != 116)=true) (hw:(zcb c.toNat).toNat=wd) :
 wr1 c (n,S)=if S.size≠0\/256 ^ wd<=n then none else some (be n wd):=by
 have h1:zbT c=true/\c≠116:=by simpa using h
 unfold wr1
 rw [if_pos h1,hw]
theorem ziS (c:UInt8) (h1:c≠110) (h2:c≠104) (h3:c≠98):zcb c.toNat=0:=by
 have f:∀ n:Nat,n<256->c≠UInt8.ofNat n->¬((c.toNat:Int)=n):=by
  intro n hn h e
  exact h (by rw [<-Int.ofNat_inj.1 e,UInt8.ofNat_toNat])
 unfold zcb
 exact (if_neg (f 110 (by decide) h1)).trans ((if_neg (f 104 (by decide) h2)).trans (if_neg (f 98 (by decide) h3)))
theorem zkQ (c:UInt8) (h1:c≠110) (h2:c≠104) (h3:c≠98):(zbT c && c != 116)=false:=by
 unfold zbT
 by_cases h:c=116 <;> simp [h1,h2,h3,h]
theorem zgX (c:UInt8) (n:Nat) (S:ByteArray) (h:(zbT c && c != 116)=false):wr1 c (n,S)=if n≠0 then none else if c=116 then (if 65535<S.size then none else some (be S.size 2++S.data.toList)) else some S.data.toList:=by
 have h1:¬(zbT c=true/\c≠116):=by intro ⟨a,b⟩;simp [a,b] at h
 unfold wr1
 rw [if_neg h1]
theorem zdz (c:UInt8) (n:Nat) (S:ByteArray) (h:(zbT c && c != 116)=false) (hn:¬n=0):wr1 c (n,S)=none:=by
 rw [zgX c n S h,if_pos hn]
theorem zjQ (n:Nat) (S:ByteArray) (hn:n=0) (hz:65535<S.size):wr1 116 (n,S)=none:=by
 rw [zgX _ n S rfl,if_neg (by simp [hn]),if_pos rfl,if_pos hz]
theorem zr5 (n:Nat) (S:ByteArray) (hn:n=0) (hz:¬65535<S.size):wr1 116 (n,S)=some (be S.size 2++S.data.toList):=by
 rw [zgX _ n S rfl,if_neg (by simp [hn]),if_pos rfl,if_neg hz]
theorem zqo (c:UInt8) (n:Nat) (S:ByteArray) (h:(zbT c && c != 116)=false) (h2:¬c=116) (hn:n=0):wr1 c (n,S)=some S.data.toList:=by
 rw [zgX _ n S h,if_neg (by simp [hn]),if_neg h2]
theorem zqp {a b c:Nat} (h:a=0) (h2:c<b):¬(a≠0\/b<=c):=by omega
theorem zbd {l:Option (List UInt8)} (h:l=none):zmq l=.tuple #[.string ⟨#[]⟩,.bool false]:=by rw [h];rfl
theorem zfN {w wr:World} {ks:List UInt8} {fs:List Fld} {k:Nat} {acc':List UInt8} (hlt:k<fs.length) (h1:Bld w.heap.size w.heap.size acc' wr) (h2:acc'.length<=(k+1)*1000010) (h3:Below w.heap.size w wr)
 (h4:wrL ks fs=(wrL (ks.drop (k+1)) (fs.drop (k+1))).map (acc'++·)):zqn w ks fs (fs.length-(k+1)) (.int .i64 (k+1)) wr :=
 ⟨k+1,acc',rfl,by omega,by simp,h1,h2,h3,h4⟩
set_option maxRecDepth 100000 in
set_option maxHeartbeats 4000000 in
theorem zoj (s:ByteArray) (v:Value) (fs:List Fld) (w:World) (hs:s.size<=1000) (hv:zcj w v fs) (hr:zbs s.data.toList=true) (hl:s.size=fs.length) (hz:∀ p∈fs,p.2.size<=1000000) :
 Calls Tryz.prog 70 #[.string s,v] w λ e w'=>e=.returned (zmq (wrL s.data.toList fs))/\Below w.heap.size w w':=by
 have HV:=Hd hv
 obtain ⟨a,cap,rfl⟩:=hv.form
 have rc:=zfM s w (by omega)
 rw [hr] at rc
 have HZ:=Hd hz
 have HL:=Hd hl
 have q1:((s.size:Int) == (fs.length:Int))=true:=by simp;omega
 have q2:((s.size:Int) != (fs.length:Int))=false:=by simp;omega
 clear hv hr hz hl
 go_enter Tryz.func70,Tryz.ntmps70
 go_wp2_with fail
 refine rc.mono ?_
 rintro e w0 ⟨rfl,hb0⟩
 have HV0:=Hd ((HV.out).below hb0)
 have HB0:=Hd hb0
 clear rc hb0
 have R0:=Hd (show zqn w0 s.data.toList fs fs.length (.int .i64 0) (w0.alloc (.cells #[.pointer none,.slice none 0 0] 156)) from
  ⟨0,[],by omega,zNz _,rfl,zqm w0,by simp,(zBr _ _).alloc (zNr _) _,by simp⟩)
 go_wp2_with fail
 go_loopg [22] fs.length (λ g s22 wr=>zqn w0 s.data.toList fs g s22 wr)
 case atStart=>exact R0.out
 case round =>
  obtain ⟨k,acc,rfl,hk,rfl,hbl,hacc,hb,hw⟩:=hrel
  clear R0
  by_cases hlt:k<fs.length
  ·have hks:k<s.size:=by rw [HL.out];exact hlt
   have hks':k<s.data.toList.length:=by simpa using hks
   obtain ⟨fb,fo,rfl,c1,c2,hbl2⟩:=(HV0.out).get k hlt
   have c1:=(hb.cell (p:=⟨fb,fo+k*2,none⟩) hbl2).trans c1
   have c2:=(hb.cell (p:=⟨fb,fo+k*2+1,none⟩) hbl2).trans c2
   have hN:=(HV0.out).2 fs[k] (List.getElem_mem hlt)
   have hS:=(HZ.out) fs[k] (List.getElem_mem hlt)
   have HST:=Hd (zoh hks' hlt hw)
   have hge:s.data.toList[k]=s[k]:=by simp;rfl
   rw [hge] at HST
   have HB:=Hd hb
   have HBL:=Hd hbl
   have HC:=Hd (ziR s[k])
   clear hw hb hbl hge
   generalize fs[k]=f at *
   obtain ⟨n,S⟩:=f
   simp only at c1 c2 hN hS
   by_cases k110:s[k]=110
   ·have W:∀ w,Calls Tryz.prog 121 #[.int .u8 110] w (λ e w'=>e=.returned (.int .i64 8)/\w=w'):=λ w=>zcu 110 w
    rw [k110] at HST
    have HW:=Hd (zd0 110 8 n S rfl rfl)
    by_cases hS0:S.toList=[]
    ·have hn:n<18446744073709551616:=hN
     have HE:=Hd (HST.out.2 (be n 8) (by rw [HW.out,if_neg (zqp ((zbU _).1 hS0) (by simpa using hn))]))
     go_wp2_with (go_at_call 121;refine (W _).mono ?_;rintro e w1 ⟨rfl,rfl⟩)
     refine (zfm w0.heap.size w0.heap.size n 8 acc _ (HBL.out.alloc _) (by have:=HB.out.size;simp;omega) hN (by omega) (by omega)).mono ?_
     rintro e w2 ⟨rfl,g1,g2,g3⟩
     have R1:=Hd (zfN hlt g1 (by rw [zLa,zaV];omega) (((HB.out).alloc (HB.out).size _).trans g2) HE.out)
     clear g1 g2 g3
     go_wp2_with fail
     go_roundg (fs.length-(k+1))
     case measure=>omega
     case rel=>exact R1.out
    ·have HE:=Hd (zbd (HST.out.1 (by rw [HW.out,if_pos (Or.inl (λ h=>hS0 ((zbU _).2 h)))])))
     go_wp2_with (go_at_call 121;refine (W _).mono ?_;rintro e w1 ⟨rfl,rfl⟩)
     go_ret2
     exact ⟨by rw [HE.out];rfl,(HB0.out).trans (((HB.out).alloc (HB.out).size _).mono (HB0.out).size)⟩
   ·by_cases k104:s[k]=104
    ·have W:∀ w,Calls Tryz.prog 121 #[.int .u8 104] w (λ e w'=>e=.returned (.int .i64 4)/\w=w'):=λ w=>zcu 104 w
     rw [k104] at HST
     have HW:=Hd (zd0 104 4 n S rfl rfl)
     by_cases hS0:S.toList=[]
     ·by_cases hn:n<4294967296
      ·have HE:=Hd (HST.out.2 (be n 4) (by rw [HW.out,if_neg (zqp ((zbU _).1 hS0) (by simpa using hn))]))
       go_wp2_with (go_at_call 121;refine (W _).mono ?_;rintro e w1 ⟨rfl,rfl⟩)
       refine (zfm w0.heap.size w0.heap.size n 4 acc _ (HBL.out.alloc _) (by have:=HB.out.size;simp;omega) hN (by omega) (by omega)).mono ?_
       rintro e w2 ⟨rfl,g1,g2,g3⟩
       have R1:=Hd (zfN hlt g1 (by rw [zLa,zaV];omega) (((HB.out).alloc (HB.out).size _).trans g2) HE.out)
       clear g1 g2 g3
       go_wp2_with fail
       go_roundg (fs.length-(k+1))
       case measure=>omega
       case rel=>exact R1.out
      ·have HE:=Hd (zbd (HST.out.1 (by rw [HW.out,if_pos (Or.inr (by simpa using hn))])))
       go_wp2_with (go_at_call 121;refine (W _).mono ?_;rintro e w1 ⟨rfl,rfl⟩)
       go_ret2
       exact ⟨by rw [HE.out];rfl,(HB0.out).trans (((HB.out).alloc (HB.out).size _).mono (HB0.out).size)⟩
     ·have HE:=Hd (zbd (HST.out.1 (by rw [HW.out,if_pos (Or.inl (λ h=>hS0 ((zbU _).2 h)))])))
      go_wp2_with (go_at_call 121;refine (W _).mono ?_;rintro e w1 ⟨rfl,rfl⟩)
      go_ret2
      exact ⟨by rw [HE.out];rfl,(HB0.out).trans (((HB.out).alloc (HB.out).size _).mono (HB0.out).size)⟩
    ·by_cases k98:s[k]=98
     ·have W:∀ w,Calls Tryz.prog 121 #[.int .u8 98] w (λ e w'=>e=.returned (.int .i64 1)/\w=w'):=λ w=>zcu 98 w
      rw [k98] at HST
      have HW:=Hd (zd0 98 1 n S rfl rfl)
      by_cases hS0:S.toList=[]
      ·by_cases hn:n<256
       ·have HE:=Hd (HST.out.2 (be n 1) (by rw [HW.out,if_neg (zqp ((zbU _).1 hS0) (by simpa using hn))]))
        go_wp2_with (go_at_call 121;refine (W _).mono ?_;rintro e w1 ⟨rfl,rfl⟩)
        refine (zfm w0.heap.size w0.heap.size n 1 acc _ (HBL.out.alloc _) (by have:=HB.out.size;simp;omega) hN (by omega) (by omega)).mono ?_
        rintro e w2 ⟨rfl,g1,g2,g3⟩
        have R1:=Hd (zfN hlt g1 (by rw [zLa,zaV];omega) (((HB.out).alloc (HB.out).size _).trans g2) HE.out)
        clear g1 g2 g3
        go_wp2_with fail
        go_roundg (fs.length-(k+1))
        case measure=>omega
        case rel=>exact R1.out
       ·have HE:=Hd (zbd (HST.out.1 (by rw [HW.out,if_pos (Or.inr (by simpa using hn))])))
        go_wp2_with (go_at_call 121;refine (W _).mono ?_;rintro e w1 ⟨rfl,rfl⟩)
        go_ret2
        exact ⟨by rw [HE.out];rfl,(HB0.out).trans (((HB.out).alloc (HB.out).size _).mono (HB0.out).size)⟩
      ·have HE:=Hd (zbd (HST.out.1 (by rw [HW.out,if_pos (Or.inl (λ h=>hS0 ((zbU _).2 h)))])))
       go_wp2_with (go_at_call 121;refine (W _).mono ?_;rintro e w1 ⟨rfl,rfl⟩)
       go_ret2
       exact ⟨by rw [HE.out];rfl,(HB0.out).trans (((HB.out).alloc (HB.out).size _).mono (HB0.out).size)⟩
     ·by_cases k116:s[k]=116
      ·have W:∀ w,Calls Tryz.prog 121 #[.int .u8 116] w (λ e w'=>e=.returned (.int .i64 0)/\w=w'):=λ w=>zcu 116 w
       rw [k116] at HST
       by_cases hn:n=0
       ·by_cases hz:65535<S.size
        ·have HE:=Hd (zbd (HST.out.1 (zjQ n S hn hz)))
         go_wp2_with (go_at_call 121;refine (W _).mono ?_;rintro e w1 ⟨rfl,rfl⟩)
         go_ret2
         exact ⟨by rw [HE.out];rfl,(HB0.out).trans (((HB.out).alloc (HB.out).size _).mono (HB0.out).size)⟩
        ·have HE:=Hd (HST.out.2 _ (zr5 n S hn hz))
         go_wp2_with (go_at_call 121;refine (W _).mono ?_;rintro e w1 ⟨rfl,rfl⟩)
         refine (zfm w0.heap.size w0.heap.size S.size 2 acc _ (HBL.out.alloc _) (by have:=HB.out.size;simp;omega) (by omega) (by omega) (by omega)).mono ?_
         rintro e w2 ⟨rfl,g1,g2,g3⟩
         have HB2:=Hd ((((HB.out).alloc (HB.out).size _).trans g2))
         have q3:w2.cell? ⟨wr.heap.size,1,none⟩=some (.string S):=zoi g3 (heap_alloc_new _ _) (by have:=(HBL.out).lt;omega) (by decide) rfl
         go_wp2_with fail
         refine (zpd _ _ _ S w2 g1 (HB2.out.size) (by rw [zLa,zaV];omega)).mono ?_
         rintro e w3 ⟨rfl,g4,g5⟩
         have R1:=Hd (zfN hlt (by rw [List.append_assoc] at g4;exact g4) (by simp only [zLa,zaV];have:=Lib.size_eq S;omega) ((HB2.out).trans g5) HE.out)
         clear g1 g2 g3 g4 g5
         go_wp2_with fail
         go_roundg (fs.length-(k+1))
         case measure=>omega
         case rel=>exact R1.out
       ·have HE:=Hd (zbd (HST.out.1 (zdz 116 n S rfl hn)))
        go_wp2_with (go_at_call 121;refine (W _).mono ?_;rintro e w1 ⟨rfl,rfl⟩)
        go_ret2
        exact ⟨by rw [HE.out];rfl,(HB0.out).trans (((HB.out).alloc (HB.out).size _).mono (HB0.out).size)⟩
      ·have W:∀ w,Calls Tryz.prog 121 #[.int .u8 s[k].toNat] w (λ e w'=>e=.returned (.int .i64 0)/\w=w'):=λ w=>by
        have:=zcu s[k].toNat w
        rwa [ziS _ k110 k104 k98] at this
       have KO:=Hd (zkQ _ k110 k104 k98)
       have KT:=Hd (HC.out 116 (by decide))
       have KT1:((s[k].toNat:Int) == 116)=false:=KT.out.trans (by simpa using k116)
       have KT2:((s[k].toNat:Int) != 116)=true:=by simp [bne,KT1]
       by_cases hn:n=0
       ·have HE:=Hd (HST.out.2 _ (zqo _ n S KO.out k116 hn))
        go_wp2_with (go_at_call 121;refine (W _).mono ?_;rintro e w1 ⟨rfl,rfl⟩)
        refine (zpd w0.heap.size w0.heap.size acc S _ (HBL.out.alloc _) (by have:=HB.out.size;simp;omega) (by omega)).mono ?_
        rintro e w2 ⟨rfl,g1,g2⟩
        have R1:=Hd (zfN hlt g1 (by simp only [zLa];have:=Lib.size_eq S;omega) (((HB.out).alloc (HB.out).size _).trans g2) HE.out)
        clear g1 g2
        go_wp2_with fail
        go_roundg (fs.length-(k+1))
        case measure=>omega
        case rel=>exact R1.out
       ·have HE:=Hd (zbd (HST.out.1 (zdz _ n S KO.out hn)))
        go_wp2_with (go_at_call 121;refine (W _).mono ?_;rintro e w1 ⟨rfl,rfl⟩)
        go_ret2
        exact ⟨by rw [HE.out];rfl,(HB0.out).trans (((HB.out).alloc (HB.out).size _).mono (HB0.out).size)⟩
  ·obtain rfl:k=fs.length:=by omega
   have HE:=Hd (show zmq (wrL s.data.toList fs)=.tuple #[.string ⟨acc.toArray⟩,.bool true] by rw [hw,List.drop_length];cases s.data.toList.drop fs.length <;> simp [wrL,zmq])
   have HB:=Hd hb
   have hbs:=hb.size
   go_wp2_with fail
   refine (Tryz.Builder_String_any_k w0.heap.size w0.heap.size _ wr hbl hbs).mono ?_
   rintro e w2 ⟨rfl,h4,h5,h6⟩
   have H5:=Hd h5
   clear h4 h5 h6 hbl hb hw
   go_wp2_with fail
   go_ret2
   exact ⟨by rw [HE.out];rfl,(HB0.out).trans (((HB.out).trans H5.out).mono (HB0.out).size)⟩
def zdP (ks:List UInt8) (fs:List Fld):Option (List UInt8):=if zbs ks=true/\ks.length=fs.length then wrL ks fs else none
theorem zhU {ks:List UInt8} {fs:List Fld} (h:zbs ks=false\/ks.length≠fs.length):zdP ks fs=none:=by
 unfold zdP
 rw [if_neg]
 rintro ⟨a,b⟩
 rcases h with h|h
 ·rw [a] at h;exact absurd h (by decide)
 ·exact h b
theorem zcF {ks:List UInt8} {fs:List Fld} (h:zbs ks=true) (h2:ks.length=fs.length):zdP ks fs=wrL ks fs:=by
 unfold zdP
 rw [if_pos ⟨h,h2⟩]
theorem ziT (s:ByteArray) (v:Value) (fs:List Fld) (w:World) (hs:s.size<=1000) (hv:zcj w v fs) (hz:∀ p∈fs,p.2.size<=1000000) :
 Calls Tryz.prog 70 #[.string s,v] w λ e w'=>e=.returned (zmq (zdP s.data.toList fs))/\Below w.heap.size w w':=by
 have hlen:s.data.toList.length=s.size:=(Lib.size_eq s).symm
 cases hr:zbs s.data.toList
 ·have HE:=Hd (zbd (zhU (fs:=fs) (.inl hr)))
  have rc:=zfM s w (by omega)
  rw [hr] at rc
  clear hr hv hz
  go_enter Tryz.func70,Tryz.ntmps70
  go_wp2_with fail
  refine rc.mono ?_
  rintro e w0 ⟨rfl,hb0⟩
  have HB0:=Hd hb0
  clear rc hb0
  go_wp2_with fail
  go_ret2
  exact ⟨by rw [HE.out];rfl,HB0.out⟩
 ·by_cases hl:s.size=fs.length
  ·rw [zcF hr (hlen.trans hl)]
   exact zoj s v fs w hs hv hr hl hz
  ·have HE:=Hd (zbd (zhU (ks:=s.data.toList) (fs:=fs) (.inr (by omega))))
   have rc:=zfM s w (by omega)
   rw [hr] at rc
   obtain ⟨a,cap,rfl⟩:=hv.form
   have q1:((s.size:Int) == (fs.length:Int))=false:=by simp;omega
   have q2:((s.size:Int) != (fs.length:Int))=true:=by simp;omega
   clear hr hv hz hlen hl
   go_enter Tryz.func70,Tryz.ntmps70
   go_wp2_with fail
   refine rc.mono ?_
   rintro e w0 ⟨rfl,hb0⟩
   have HB0:=Hd hb0
   clear rc hb0
   go_wp2_with fail
   go_ret2
   exact ⟨by rw [HE.out];rfl,HB0.out⟩
theorem zkR {l:List UInt8} {k:Nat} (h:k<l.length) (hr:zbs l=true):zbT l[k]=true\/l[k]=114:=by
 induction l generalizing k with
 | nil=>simp at h
 | cons c r ih =>
   by_cases hn:r=[]
   ·subst hn
    have:k=0:=by simpa using h
    subst this
    simpa [zbs] using hr
   ·rw [zcT hn] at hr
    simp only [Bool.and_eq_true] at hr
    cases k with
    | zero=>exact .inl hr.1
    | succ k=>simpa using ih (k:=k) (by simpa using h) hr.2
theorem zsI:(Tryz.prog.info? 139).map (λ i=>(i.zero,i.size,i.bytes))=some (some (.agg #[.int .u64 0,.string ByteArray.empty]),2,24):=by kernel_rfl
theorem zkS {w w':World} {r:Option Nat} (h:w.drew.grownBy w' r):w.grownBy w' r:=⟨h.os,h.tape,h.output,h.size,h.block⟩
theorem zhV {w w':World} {base:Nat} {e:TypeId} {size:Nat} {v:Value} {n:Nat} {xs:List Value} (h:w.ownsRow base e size v n xs) (hk:∀ j,j<w.heap.size->v.ownBlock=some j->w'.heap[j]?=w.heap[j]?):w'.ownsRow base e size v n xs:=by
 refine ⟨h.1,?_⟩
 rcases h.2 with h2|⟨g,cap,cur,rfl,hg,hh,r⟩
 ·exact Or.inl h2
 ·exact Or.inr ⟨g,cap,cur,rfl,hg,(hk g (zab hh) rfl).trans hh,r⟩
def rd1 (k:UInt8) (r:ByteArray):Option (Fld × ByteArray) :=
 if k=116 then (if r.size<2 then none else if (r.extract 2 r.size).size<zbD 0 (r.extract 0 2).data.toList then none else
  some ((0,(r.extract 2 r.size).extract 0 (zbD 0 (r.extract 0 2).data.toList)),(r.extract 2 r.size).extract (zbD 0 (r.extract 0 2).data.toList) (r.extract 2 r.size).size))
 else if zbT k=true then (if r.size<(zcb k.toNat).toNat then none else some ((zbD 0 (r.extract 0 (zcb k.toNat).toNat).data.toList,⟨#[]⟩),r.extract (zcb k.toNat).toNat r.size))
 else some ((0,r),⟨#[]⟩)
def zb5:List UInt8->ByteArray->Option (List Fld)
 | [],r=>if r.toList=[] then some [] else none
 | k::ks,r=>match rd1 k r with
   | none=>none
   | some p=>(zb5 ks p.2).map (p.1::·)
theorem zkT {ks:List UInt8} {S r:ByteArray} {k:Nat} {acc:List Fld} (h1:k<ks.length) (h:zb5 ks S=(zb5 (ks.drop k) r).map (acc++·)) :
 (rd1 ks[k] r=none->zb5 ks S=none)/\(∀ f r',rd1 ks[k] r=some (f,r')->zb5 ks S=(zb5 (ks.drop (k+1)) r').map ((acc++[f])++·)):=by
 have e:zb5 (ks[k]::ks.drop (k+1)) r=(match rd1 ks[k] r with|none=>none|some p=>(zb5 (ks.drop (k+1)) p.2).map (p.1::·)):=rfl
 rw [List.drop_eq_getElem_cons h1,e] at h
 constructor
 ·intro hn;rw [hn] at h;exact h
 ·intro f r' ha
  rw [ha] at h
  dsimp only at h
  rw [h]
  cases zb5 (ks.drop (k+1)) r' <;> simp
def zhW (w:World) (o:Option (List Fld)) (e:Ending) (w':World):Prop:=match o with
 | none=>e=.returned (.tuple #[.slice none 0 0,.bool false])/\Below w.heap.size w w'
 | some fs=>∃ v,e=.returned (.tuple #[v,.bool true])/\w'.ownsRow w.heap.size 139 2 v fs.length (zfb fs)/\Below w.heap.size w w'
theorem zbA {w:World} {o:Option (List Fld)} {e:Ending} {w':World} (h:o=none) (h1:e=.returned (.tuple #[.slice none 0 0,.bool false])) (h2:Below w.heap.size w w'):zhW w o e w':=by
 subst h;exact ⟨h1,h2⟩
def zqq (w:World) (ks:List UInt8) (S:ByteArray) (g:Nat) (s1 s6 s16:Value) (wr:World):Prop :=
 ∃ k acc r,g=ks.length-k/\k<=ks.length/\s16=.int .i64 k/\s1=.string r/\wr.ownsRow w.heap.size 139 2 s6 k (zfb acc)/\Below w.heap.size w wr/\r.size<=S.size/\acc.length=k/\zb5 ks S=(zb5 (ks.drop k) r).map (acc++·)
theorem zgY (c:UInt8) (wd:Nat) (r:ByteArray) (h:(zbT c && c != 116)=true) (hw:(zcb c.toNat).toNat=wd) :
 rd1 c r=if r.size<wd then none else some ((zbD 0 (r.extract 0 wd).data.toList,⟨#[]⟩),r.extract wd r.size):=by
 have h1:zbT c=true/\c≠116:=by simpa using h
 unfold rd1
 rw [if_neg h1.2,if_pos h1.1,hw]
theorem zsJ (r:ByteArray) (a b:Nat) {n:Nat} (h:r.size<=n):(r.extract a b).size<=n:=by
 simp;omega
theorem zjR {w:World} {base base' size n:Nat} {e:TypeId} {v:Value} {xs:List Value} (h:w.ownsRow base e size v n xs) (hb:base'<=base):w.ownsRow base' e size v n xs :=
 ⟨h.1,h.2.imp id (λ ⟨g,cap,cur,a,b,c⟩=>⟨g,cap,cur,a,Nat.le_trans hb b,c⟩)⟩
theorem ziU {w w0 wr:World} {o:Option (List Fld)} {acc:List Fld} {r:ByteArray} {v:Value} {k:Nat} (h:o=(zb5 [] r).map (acc++·)) (hr:r.toList=[]) (ha:acc.length=k) (ho:wr.ownsRow w0.heap.size 139 2 v k (zfb acc)) (hb:Below w0.heap.size w0 wr) (h0:Below w.heap.size w w0) :
 zhW w o (.returned (.tuple #[v,.bool true])) wr:=by
 have e:o=some acc:=by rw [h];simp [zb5,hr]
 subst e ha
 exact ⟨v,rfl,zjR ho h0.size,h0.trans (hb.mono h0.size)⟩
theorem zok (r:ByteArray) (h:r.size<2):rd1 116 r=none:=by
 unfold rd1
 rw [if_pos rfl,if_pos h]
theorem zr6 (r:ByteArray) (h:¬r.size<2):rd1 116 r=if (r.extract 2 r.size).size<zbD 0 (r.extract 0 2).data.toList then none else
 some ((0,(r.extract 2 r.size).extract 0 (zbD 0 (r.extract 0 2).data.toList)),(r.extract 2 r.size).extract (zbD 0 (r.extract 0 2).data.toList) (r.extract 2 r.size).size):=by
 unfold rd1
 rw [if_pos rfl,if_neg h]
theorem zmr (l:List UInt8) (h:l.length<=2):zbD 0 l<65536:=by
 match l,h with
 | [],_=>decide
 | [a],_=>have:=a.toNat_lt;simp [zbD];omega
 | [a,b],_=>have:=a.toNat_lt;have:=b.toNat_lt;simp [zbD];omega
theorem zeu {w0 wr:World} {v:Value} {k:Nat} {xs:List Value} (o:Obj) (ho:wr.ownsRow w0.heap.size 139 2 v k xs) (hb:Below w0.heap.size w0 wr) :
 (wr.alloc o).ownsRow w0.heap.size 139 2 v k xs/\Below w0.heap.size w0 (wr.alloc o):=⟨ho.alloc _,hb.alloc hb.size _⟩
theorem zft {w0 wr w2:World} {v:Value} {k:Nat} {xs:List Value} (ho:wr.ownsRow w0.heap.size 139 2 v k xs) (hb:Below w0.heap.size w0 wr) (g:Below wr.heap.size wr w2) :
 w2.ownsRow w0.heap.size 139 2 v k xs/\Below w0.heap.size w0 w2:=⟨zhV ho (λ j hj _=>g.block j hj),hb.trans (g.mono hb.size)⟩
theorem zgm {w0 w2:World} {v:Value} {k p:Nat} {xs:List Value} {a:Value} {i:Nat} (ho:w2.ownsRow w0.heap.size 139 2 v k xs) (hb:Below w0.heap.size w0 w2) (hp:w0.heap.size<=p) (hn:v.ownBlock≠some p) :
 (w2.setCell ⟨p,i,none⟩ a).ownsRow w0.heap.size 139 2 v k xs/\Below w0.heap.size w0 (w2.setCell ⟨p,i,none⟩ a) :=
 ⟨ownsRow_setCell_other ho hn _,hb.setCell hp _⟩
theorem zfO {w0 W w4:World} {ks:List UInt8} {S r':ByteArray} {v v':Value} {k n:Nat} {T:ByteArray} {acc:List Fld} {o:Obj} (hlt:k<ks.length) (ho:W.ownsRow w0.heap.size 139 2 v k (zfb acc)) (hb:Below w0.heap.size w0 W) (hg:(W.alloc o).drew.grownBy w4 v.ownBlock)
 (h4:w4.ownsRow w0.heap.size 139 2 v' (k+1) (zfb acc++[.int .u64 n,.string T])) (hr:r'.size<=S.size) (ha:acc.length=k)
 (hw:zb5 ks S=(zb5 (ks.drop (k+1)) r').map ((acc++[(n,T)])++·)):zqq w0 ks S (ks.length-(k+1)) (.string r') v' (.int .i64 (k+1)) w4:=by
 refine ⟨k+1,acc++[(n,T)],r',rfl,by omega,by simp,rfl,?_,?_,hr,by simp [ha],hw⟩
 ·have e:zfb (acc++[(n,T)])=zfb acc++[.int .u64 n,.string T]:=by simp [zfb]
  rw [e];exact h4
 ·exact hb.grown ((World.grownBy_alloc W _ _).trans (zkS hg)) hb.size (λ j hj=>(ho.lt j hj).1)
set_option maxRecDepth 100000 in
set_option maxHeartbeats 4000000 in
theorem zqr (s S:ByteArray) (w:World) (hs:s.size<=1000) (hr:zbs s.data.toList=true) (hS:S.size<=1000000) :
 Calls Tryz.prog 88 #[.string s,.string S] w (zhW w (zb5 s.data.toList S)):=by
 have rc:=zfM s w (by omega)
 rw [hr] at rc
 have HR:=Hd hr
 obtain ⟨j0,hj,hz0,hz1,hz2⟩:=info_parts zsI
 clear hr
 go_enter Tryz.func88,Tryz.ntmps88
 go_wp2_with fail
 refine rc.mono ?_
 rintro e w0 ⟨rfl,hb0⟩
 have HB0:=Hd hb0
 clear rc hb0
 have R0:=Hd (show zqq w0 s.data.toList S s.size (.string S) (.slice none 0 0) (.int .i64 0) w0 from
  ⟨0,[],S,(Lib.size_eq s),zNz _,rfl,rfl,World.ownsRow_nil _ _ _ _,zBr _ _,zNr _,rfl,by simp⟩)
 go_wp2_with fail
 go_loopg [1,6,16] s.size (λ g s1 s6 s16 wr=>zqq w0 s.data.toList S g s1 s6 s16 wr)
 case atStart=>exact R0.out
 case round =>
  obtain ⟨k,acc,r,rfl,hk,rfl,rfl,ho,hb,hrs,hacc,hw⟩:=hrel
  clear R0
  have hsl:s.data.toList.length=s.size:=(Lib.size_eq s).symm
  by_cases hks:k<s.size
  ·have hks':k<s.data.toList.length:=by omega
   have HST:=Hd (zkT hks' hw)
   have hge:s.data.toList[k]=s[k]:=by simp;rfl
   rw [hge] at HST
   have HB:=Hd hb
   have HO:=Hd ho
   clear hw hb hge ho
   by_cases k110:s[k]=110
   ·have W:∀ w,Calls Tryz.prog 121 #[.int .u8 110] w (λ e w'=>e=.returned (.int .i64 8)/\w=w'):=λ w=>zcu 110 w
    rw [k110] at HST
    have HW:=Hd (zgY 110 8 r rfl rfl)
    by_cases hn:r.size<8
    ·have HE:=Hd (HST.out.1 (by rw [HW.out,if_pos hn]))
     go_wp2_with (first|(go_at_call 121;refine (W _).mono ?_;rintro e w1 ⟨rfl,rfl⟩))
     go_ret2
     exact zbA HE.out rfl ((HB0.out).trans ((HB.out).mono (HB0.out).size))
    ·have HE:=Hd (HST.out.2 _ _ (by rw [HW.out,if_neg hn]))
     have hn':(8:Int)<=(r.size:Int):=by omega
     obtain ⟨N,hN⟩:∃ N,N=zbD 0 (r.extract 0 8).data.toList:=⟨_,rfl⟩
     rw [<-hN] at HE
     have TC:∀ w,Calls Tryz.prog 143 #[.string (r.extract 0 8)] w λ e w'=>e=.returned (.int .u64 N)/\Below w.heap.size w w':=λ w=>by rw [hN];exact zjr _ w (by simp;omega)
     clear hN
     go_wp2_with (first|(go_at_call 121;refine (W _).mono ?_;rintro e w1 ⟨rfl,rfl⟩))
     refine (TC _).mono ?_
     rintro e w2 ⟨rfl,g2⟩
     have h2:w2.heap[wr.heap.size]?=some (.cells #[.int .u64 0,.string (r.extract 0 8)] 139 (0,0)):=(g2.block _ (by simp)).trans (heap_alloc_new _ _)
     have q1:=zaa (i:=0) h2 rfl
     have q2:=zaa (i:=1) h2 rfl
     have q3:=zad h2 0
     have q4:=zad h2 1
     have hne:u6.ownBlock≠some wr.heap.size:=λ e=>absurd ((HO.out).lt _ e).2 (Nat.lt_irrefl _)
     have X1:=zeu (.cells #[.int .u64 0,.string (r.extract 0 8)] 139) HO.out HB.out
     have X2:=zft X1.1 X1.2 g2
     have X3:=zgm (i:=0) (a:=.int .u64 N) X2.1 X2.2 (HB.out).size hne
     have X4:=zgm (i:=1) (a:=.string ⟨#[]⟩) X3.1 X3.2 (HB.out).size hne
     have h3:((w2.setCell ⟨wr.heap.size,0,none⟩ (.int .u64 N)).setCell ⟨wr.heap.size,1,none⟩ (.string ⟨#[]⟩)).heap[wr.heap.size]?=some (.cells #[.int .u64 N,.string ⟨#[]⟩] 139 (0,0)):=zac (zac h2 _) _
     have X5:=Hd X4
     have H3:=Hd h3
     clear X1 X2 X3 X4 h3 g2 h2 hne
     go_wp2_with fail
     generalize ((w2.setCell ⟨wr.heap.size,0,none⟩ (.int .u64 N)).setCell ⟨wr.heap.size,1,none⟩ (.string ⟨#[]⟩))=V at *
     have q5:=zaa (i:=0) H3.out rfl
     have q6:=zaa (i:=1) H3.out rfl
     clear q1 q2 q3 q4
     go_region_law (
      refine step_append_lies _ (by rfl) _ _ _ (by rfl) w0.heap.size 139 j0 _ 2 24 Tryz.underlying171 hj hz0 hz1 hz2 rfl (by omega) u6 _ _ (by rfl) (((X5.out).1.alloc _).drew)
       ⟨V.heap.size,0,none⟩ 1 1 [.int .u64 N,.string ⟨#[]⟩] (by rfl) (by rfl) (World.news_of_block (cs:=#[.int .u64 N,.string ⟨#[]⟩]) (t:=139) (fr:=(0,0)) (heap_alloc_new V _)) (znn _ _ rfl rfl)
       (by decide) (by unfold maxLen;omega) (by omega) (by have:=(X5.out).2.size;simp;omega) (V.heap.size+1) (World.size_alloc _ _) ?_;intro gg cap w4 hown4 hgrow hat hlt
      have R1:=Hd (zfO (r':=r.extract 8 r.size) hks' (X5.out).1 (X5.out).2 hgrow hown4 (by simp;omega) hacc HE.out)
      clear hown4 hgrow hat hlt)
     go_wp2_with fail
     go_roundg (s.data.toList.length-(k+1))
     case measure=>omega
     case rel=>exact R1.out
   ·by_cases k104:s[k]=104
    ·have W:∀ w,Calls Tryz.prog 121 #[.int .u8 104] w (λ e w'=>e=.returned (.int .i64 4)/\w=w'):=λ w=>zcu 104 w
     rw [k104] at HST
     have HW:=Hd (zgY 104 4 r rfl rfl)
     by_cases hn:r.size<4
     ·have HE:=Hd (HST.out.1 (by rw [HW.out,if_pos hn]))
      go_wp2_with (first|(go_at_call 121;refine (W _).mono ?_;rintro e w1 ⟨rfl,rfl⟩))
      go_ret2
      exact zbA HE.out rfl ((HB0.out).trans ((HB.out).mono (HB0.out).size))
     ·have HE:=Hd (HST.out.2 _ _ (by rw [HW.out,if_neg hn]))
      have hn':(4:Int)<=(r.size:Int):=by omega
      obtain ⟨N,hN⟩:∃ N,N=zbD 0 (r.extract 0 4).data.toList:=⟨_,rfl⟩
      rw [<-hN] at HE
      have TC:∀ w,Calls Tryz.prog 143 #[.string (r.extract 0 4)] w λ e w'=>e=.returned (.int .u64 N)/\Below w.heap.size w w':=λ w=>by rw [hN];exact zjr _ w (by simp;omega)
      clear hN
      go_wp2_with (first|(go_at_call 121;refine (W _).mono ?_;rintro e w1 ⟨rfl,rfl⟩))
      refine (TC _).mono ?_
      rintro e w2 ⟨rfl,g2⟩
      have h2:w2.heap[wr.heap.size]?=some (.cells #[.int .u64 0,.string (r.extract 0 4)] 139 (0,0)):=(g2.block _ (by simp)).trans (heap_alloc_new _ _)
      have q1:=zaa (i:=0) h2 rfl
      have q2:=zaa (i:=1) h2 rfl
      have q3:=zad h2 0
      have q4:=zad h2 1
      have hne:u6.ownBlock≠some wr.heap.size:=λ e=>absurd ((HO.out).lt _ e).2 (Nat.lt_irrefl _)
      have X1:=zeu (.cells #[.int .u64 0,.string (r.extract 0 4)] 139) HO.out HB.out
      have X2:=zft X1.1 X1.2 g2
      have X3:=zgm (i:=0) (a:=.int .u64 N) X2.1 X2.2 (HB.out).size hne
      have X4:=zgm (i:=1) (a:=.string ⟨#[]⟩) X3.1 X3.2 (HB.out).size hne
      have h3:((w2.setCell ⟨wr.heap.size,0,none⟩ (.int .u64 N)).setCell ⟨wr.heap.size,1,none⟩ (.string ⟨#[]⟩)).heap[wr.heap.size]?=some (.cells #[.int .u64 N,.string ⟨#[]⟩] 139 (0,0)):=zac (zac h2 _) _
      have X5:=Hd X4
      have H3:=Hd h3
      clear X1 X2 X3 X4 h3 g2 h2 hne
      go_wp2_with fail
      generalize ((w2.setCell ⟨wr.heap.size,0,none⟩ (.int .u64 N)).setCell ⟨wr.heap.size,1,none⟩ (.string ⟨#[]⟩))=V at *
      have q5:=zaa (i:=0) H3.out rfl
      have q6:=zaa (i:=1) H3.out rfl
      clear q1 q2 q3 q4
      go_region_law (
       refine step_append_lies _ (by rfl) _ _ _ (by rfl) w0.heap.size 139 j0 _ 2 24 Tryz.underlying171 hj hz0 hz1 hz2 rfl (by omega) u6 _ _ (by rfl) (((X5.out).1.alloc _).drew)
        ⟨V.heap.size,0,none⟩ 1 1 [.int .u64 N,.string ⟨#[]⟩] (by rfl) (by rfl) (World.news_of_block (cs:=#[.int .u64 N,.string ⟨#[]⟩]) (t:=139) (fr:=(0,0)) (heap_alloc_new V _)) (znn _ _ rfl rfl)
        (by decide) (by unfold maxLen;omega) (by omega) (by have:=(X5.out).2.size;simp;omega) (V.heap.size+1) (World.size_alloc _ _) ?_;intro gg cap w4 hown4 hgrow hat hlt
       have R1:=Hd (zfO (r':=r.extract 4 r.size) hks' (X5.out).1 (X5.out).2 hgrow hown4 (by simp;omega) hacc HE.out)
       clear hown4 hgrow hat hlt)
      go_wp2_with fail
      go_roundg (s.data.toList.length-(k+1))
      case measure=>omega
      case rel=>exact R1.out
    ·by_cases k98:s[k]=98
     ·have W:∀ w,Calls Tryz.prog 121 #[.int .u8 98] w (λ e w'=>e=.returned (.int .i64 1)/\w=w'):=λ w=>zcu 98 w
      rw [k98] at HST
      have HW:=Hd (zgY 98 1 r rfl rfl)
      by_cases hn:r.size<1
      ·have HE:=Hd (HST.out.1 (by rw [HW.out,if_pos hn]))
       go_wp2_with (first|(go_at_call 121;refine (W _).mono ?_;rintro e w1 ⟨rfl,rfl⟩))
       go_ret2
       exact zbA HE.out rfl ((HB0.out).trans ((HB.out).mono (HB0.out).size))
      ·have HE:=Hd (HST.out.2 _ _ (by rw [HW.out,if_neg hn]))
       have hn':(1:Int)<=(r.size:Int):=by omega
       obtain ⟨N,hN⟩:∃ N,N=zbD 0 (r.extract 0 1).data.toList:=⟨_,rfl⟩
       rw [<-hN] at HE
       have TC:∀ w,Calls Tryz.prog 143 #[.string (r.extract 0 1)] w λ e w'=>e=.returned (.int .u64 N)/\Below w.heap.size w w':=λ w=>by rw [hN];exact zjr _ w (by simp;omega)
       clear hN
       go_wp2_with (first|(go_at_call 121;refine (W _).mono ?_;rintro e w1 ⟨rfl,rfl⟩))
       refine (TC _).mono ?_
       rintro e w2 ⟨rfl,g2⟩
       have h2:w2.heap[wr.heap.size]?=some (.cells #[.int .u64 0,.string (r.extract 0 1)] 139 (0,0)):=(g2.block _ (by simp)).trans (heap_alloc_new _ _)
       have q1:=zaa (i:=0) h2 rfl
       have q2:=zaa (i:=1) h2 rfl
       have q3:=zad h2 0
       have q4:=zad h2 1
       have hne:u6.ownBlock≠some wr.heap.size:=λ e=>absurd ((HO.out).lt _ e).2 (Nat.lt_irrefl _)
       have X1:=zeu (.cells #[.int .u64 0,.string (r.extract 0 1)] 139) HO.out HB.out
       have X2:=zft X1.1 X1.2 g2
       have X3:=zgm (i:=0) (a:=.int .u64 N) X2.1 X2.2 (HB.out).size hne
       have X4:=zgm (i:=1) (a:=.string ⟨#[]⟩) X3.1 X3.2 (HB.out).size hne
       have h3:((w2.setCell ⟨wr.heap.size,0,none⟩ (.int .u64 N)).setCell ⟨wr.heap.size,1,none⟩ (.string ⟨#[]⟩)).heap[wr.heap.size]?=some (.cells #[.int .u64 N,.string ⟨#[]⟩] 139 (0,0)):=zac (zac h2 _) _
       have X5:=Hd X4
       have H3:=Hd h3
       clear X1 X2 X3 X4 h3 g2 h2 hne
       go_wp2_with fail
       generalize ((w2.setCell ⟨wr.heap.size,0,none⟩ (.int .u64 N)).setCell ⟨wr.heap.size,1,none⟩ (.string ⟨#[]⟩))=V at *
       have q5:=zaa (i:=0) H3.out rfl
       have q6:=zaa (i:=1) H3.out rfl
       clear q1 q2 q3 q4
       go_region_law (
        refine step_append_lies _ (by rfl) _ _ _ (by rfl) w0.heap.size 139 j0 _ 2 24 Tryz.underlying171 hj hz0 hz1 hz2 rfl (by omega) u6 _ _ (by rfl) (((X5.out).1.alloc _).drew)
         ⟨V.heap.size,0,none⟩ 1 1 [.int .u64 N,.string ⟨#[]⟩] (by rfl) (by rfl) (World.news_of_block (cs:=#[.int .u64 N,.string ⟨#[]⟩]) (t:=139) (fr:=(0,0)) (heap_alloc_new V _)) (znn _ _ rfl rfl)
         (by decide) (by unfold maxLen;omega) (by omega) (by have:=(X5.out).2.size;simp;omega) (V.heap.size+1) (World.size_alloc _ _) ?_;intro gg cap w4 hown4 hgrow hat hlt
        have R1:=Hd (zfO (r':=r.extract 1 r.size) hks' (X5.out).1 (X5.out).2 hgrow hown4 (by simp;omega) hacc HE.out)
        clear hown4 hgrow hat hlt)
       go_wp2_with fail
       go_roundg (s.data.toList.length-(k+1))
       case measure=>omega
       case rel=>exact R1.out
     ·by_cases k116:s[k]=116
      ·have W:∀ w,Calls Tryz.prog 121 #[.int .u8 116] w (λ e w'=>e=.returned (.int .i64 0)/\w=w'):=λ w=>zcu 116 w
       rw [k116] at HST
       by_cases h2:r.size<2
       ·have HE:=Hd (HST.out.1 (zok r h2))
        go_wp2_with (first|(go_at_call 121;refine (W _).mono ?_;rintro e w1 ⟨rfl,rfl⟩))
        go_ret2
        exact zbA HE.out rfl ((HB0.out).trans ((HB.out).mono (HB0.out).size))
       ·have hn':(2:Int)<=(r.size:Int):=by omega
        have HT:=Hd (zr6 r h2)
        obtain ⟨N,hN⟩:∃ N,N=zbD 0 (r.extract 0 2).data.toList:=⟨_,rfl⟩
        have hNb:N<65536:=by rw [hN];exact zmr _ (by rw [<-Lib.size_eq];simp;omega)
        have TC:∀ w,Calls Tryz.prog 143 #[.string (r.extract 0 2)] w λ e w'=>e=.returned (.int .u64 N)/\Below w.heap.size w w':=λ w=>by rw [hN];exact zjr _ w (by simp;omega)
        have hwr:IntKind.i64.wrap (N:Int)=N:=by simp [IntKind.wrap,IntKind.bits,IntKind.signed];omega
        obtain ⟨r2,hr2⟩:∃ r2,r2=r.extract 2 r.size:=⟨_,rfl⟩
        have hr2s:r2.size=r.size-2:=by rw [hr2];simp
        rw [<-hN,<-hr2] at HT
        clear hN
        go_wp2_with (first|(go_at_call 121;refine (W _).mono ?_;rintro e w1 ⟨rfl,rfl⟩))
        go_region_held3 (λ _=>True) (trivial) ((go_at_call 143;refine (TC _).mono ?_;rintro e w2 ⟨rfl,g2⟩))
        have X1:=zft (HO.out).drew (HB.out).drew g2
        rw [<-hr2]
        clear hr2
        by_cases hn:r.size-2<N
        ·have HE:=Hd (HST.out.1 (by rw [HT.out,if_pos (by omega)]))
         have X5:=Hd X1
         clear X1 g2
         go_wp2_with fail
         go_ret2
         exact zbA HE.out rfl ((HB0.out).trans ((X5.out.2).mono (HB0.out).size))
        ·have HE:=Hd (HST.out.2 _ _ (by rw [HT.out,if_neg (by omega)]))
         have X5:=Hd (zeu (.cells #[.int .u64 0,.string (r2.extract 0 N)] 139) X1.1 X1.2)
         rw [hr2s] at HE
         have hn3:N<=r.size-2:=by omega
         have H3:=Hd (heap_alloc_new w2 (.cells #[.int .u64 0,.string (r2.extract 0 N)] 139))
         clear X1 g2
         go_wp2_with fail
         generalize (w2.alloc (.cells #[.int .u64 0,.string (r2.extract 0 N)] 139))=V at *
         have q5:=zaa (i:=0) H3.out rfl
         have q6:=zaa (i:=1) H3.out rfl
         go_region_law (
          refine step_append_lies _ (by rfl) _ _ _ (by rfl) w0.heap.size 139 j0 _ 2 24 Tryz.underlying171 hj hz0 hz1 hz2 rfl (by omega) u6 _ _ (by rfl) (((X5.out).1.alloc _).drew)
           ⟨V.heap.size,0,none⟩ 1 1 [.int .u64 0,.string (r2.extract 0 N)] (by rfl) (by rfl) (World.news_of_block (cs:=#[.int .u64 0,.string (r2.extract 0 N)]) (t:=139) (fr:=(0,0)) (heap_alloc_new V _)) (znn _ _ rfl rfl)
           (by decide) (by unfold maxLen;omega) (by omega) (by have:=(X5.out).2.size;simp;omega) (V.heap.size+1) (World.size_alloc _ _) ?_;intro gg cap w4 hown4 hgrow hat hlt
          have R1:=Hd (zfO (r':=r2.extract N (r.size-2)) hks' (X5.out).1 (X5.out).2 hgrow hown4 (zsJ _ _ _ (by omega)) hacc HE.out)
          clear hown4 hgrow hat hlt)
         go_wp2_with fail
         go_roundg (s.data.toList.length-(k+1))
         case measure=>omega
         case rel=>exact R1.out
      ·have k114:s[k]=114:=by
        have:=zkR hks' HR.out
        have hge:s.data.toList[k]=s[k]:=by simp;rfl
        rw [hge] at this
        exact this.resolve_left (by simp [zbT,k110,k104,k98,k116])
       have W:∀ w,Calls Tryz.prog 121 #[.int .u8 114] w (λ e w'=>e=.returned (.int .i64 0)/\w=w'):=λ w=>zcu 114 w
       rw [k114] at HST
       clear k110 k104 k98 k116
       have HE:=Hd (HST.out.2 _ _ (show rd1 114 r=some ((0,r),⟨#[]⟩) from rfl))
       have X5:=Hd (zeu (.cells #[.int .u64 0,.string r] 139) HO.out HB.out)
       have H3:=Hd (heap_alloc_new wr (.cells #[.int .u64 0,.string r] 139))
       go_wp2_with (first|(go_at_call 121;refine (W _).mono ?_;rintro e w1 ⟨rfl,rfl⟩))
       generalize (wr.alloc (.cells #[.int .u64 0,.string r] 139))=V at *
       have q5:=zaa (i:=0) H3.out rfl
       have q6:=zaa (i:=1) H3.out rfl
       go_region_law (
        refine step_append_lies _ (by rfl) _ _ _ (by rfl) w0.heap.size 139 j0 _ 2 24 Tryz.underlying171 hj hz0 hz1 hz2 rfl (by omega) u6 _ _ (by rfl) (((X5.out).1.alloc _).drew)
         ⟨V.heap.size,0,none⟩ 1 1 [.int .u64 0,.string r] (by rfl) (by rfl) (World.news_of_block (cs:=#[.int .u64 0,.string r]) (t:=139) (fr:=(0,0)) (heap_alloc_new V _)) (znn _ _ rfl rfl)
         (by decide) (by unfold maxLen;omega) (by omega) (by have:=(X5.out).2.size;simp;omega) (V.heap.size+1) (World.size_alloc _ _) ?_;intro gg cap w4 hown4 hgrow hat hlt
        have R1:=Hd (zfO (r':=⟨#[]⟩) hks' (X5.out).1 (X5.out).2 hgrow hown4 (zNz _) hacc HE.out)
        clear hown4 hgrow hat hlt)
       go_wp2_with fail
       go_roundg (s.data.toList.length-(k+1))
       case measure=>omega
       case rel=>exact R1.out
  ·obtain rfl:k=s.size:=by omega
   have HB:=Hd hb
   have HO:=Hd ho
   have hdr:s.data.toList.drop s.size=[]:=by rw [List.drop_eq_nil_iff];omega
   rw [hdr] at hw
   by_cases hrn:r.toList=[]
   ·have HP:=Hd (show zhW w (zb5 s.data.toList S) (.returned (.tuple #[u6,.bool true])) wr from ziU hw hrn hacc ho hb HB0.out)
    clear ho hb hw
    go_wp2_with fail
    go_ret2
    exact HP.out
   ·have HE:=Hd (show zb5 s.data.toList S=none by rw [hw];simp [zb5,hrn])
    have q1:(r.toList == [])=false:=by simpa using hrn
    have q2:(r.toList != [])=true:=by simpa using hrn
    have q3:¬r.size=0:=λ h=>hrn ((zbU r).2 h)
    clear ho hb hw
    go_wp2_with fail
    go_ret2
    exact zbA HE.out rfl ((HB0.out).trans ((HB.out).mono (HB0.out).size))
def zgZ (ks:List UInt8) (S:ByteArray):Option (List Fld):=if zbs ks=true then zb5 ks S else none
theorem ziV (s S:ByteArray) (w:World) (hs:s.size<=1000) (hS:S.size<=1000000) :
 Calls Tryz.prog 88 #[.string s,.string S] w (zhW w (zgZ s.data.toList S)):=by
 cases hr:zbs s.data.toList
 ·have HE:=Hd (show zgZ s.data.toList S=none by unfold zgZ;rw [hr];rfl)
  have rc:=zfM s w (by omega)
  rw [hr] at rc
  clear hr
  go_enter Tryz.func88,Tryz.ntmps88
  go_wp2_with fail
  refine rc.mono ?_
  rintro e w0 ⟨rfl,hb0⟩
  have HB0:=Hd hb0
  clear rc hb0
  go_wp2_with fail
  go_ret2
  exact zbA HE.out rfl HB0.out
 ·rw [show zgZ s.data.toList S=zb5 s.data.toList S by unfold zgZ;rw [if_pos hr]]
  exact zqr s S w hs hr hS
theorem zqs (n w:Nat):be n (w+1)=be (n / 256) w++[UInt8.ofNat (n%256)]:=by
 induction w with
 | zero=>simp [be]
 | succ w ih =>
   have e1:be n (w+1+1)=UInt8.ofNat (n / 256 ^ (w+1)%256)::be n (w+1):=rfl
   have e2:be (n / 256) (w+1)=UInt8.ofNat (n / 256 / 256 ^ w%256)::be (n / 256) w:=rfl
   rw [e1,ih,e2,Nat.div_div_eq_div_mul,Nat.pow_succ,Nat.mul_comm 256]
   rfl
theorem zgn:∀ (w n:Nat),w<=8->n<256 ^ w->zbD 0 (be n w)=n:=by
 intro w
 induction w with
 | zero=>intro n _ h;simp at h;subst h;rfl
 | succ w ih =>
   intro n hw h
   have hp:256 ^ (w+1)<=256 ^ 8:=Nat.pow_le_pow_right (by decide) hw
   have h8:(256:Nat) ^ 8=18446744073709551616:=by decide
   rw [zqs,ze4,ih (n / 256) (by omega) (by rw [Nat.pow_succ] at h;omega)]
   show (n / 256)*256%18446744073709551616+(UInt8.ofNat (n%256)).toNat=n
   rw [UInt8.toNat_ofNat',Nat.mod_eq_of_lt (by omega),Nat.mod_eq_of_lt (by omega)]
   omega
theorem zg0 (a r:List UInt8):(⟨(a++r).toArray⟩:ByteArray).extract 0 a.length=⟨a.toArray⟩:=by
 rw [zhS];simp
theorem zg1 (a r:List UInt8):(⟨(a++r).toArray⟩:ByteArray).extract a.length (⟨(a++r).toArray⟩:ByteArray).size=⟨r.toArray⟩:=by
 rw [zhT];simp
theorem ziW (a:List UInt8):(⟨a.toArray⟩:ByteArray).size=a.length:=by rw [Lib.size_eq]
theorem zg2 {S:ByteArray} (h:S.size=0):S=⟨#[]⟩:=by
 apply ByteArray.ext
 exact Array.eq_empty_of_size_eq_zero h
theorem zms (S:ByteArray):(⟨S.data.toList.toArray⟩:ByteArray)=S:=by apply ByteArray.ext;simp
theorem zr7 {k:UInt8} {f:Fld} {a:List UInt8} (h:wr1 k f=some a) (hn:f.1<18446744073709551616) (r:List UInt8) (hr:zbT k=true\/r=[]):rd1 k ⟨(a++r).toArray⟩=some (f,⟨r.toArray⟩):=by
 obtain ⟨n,S⟩:=f
 by_cases h116:k=116
 ·subst h116
  by_cases hz:n=0
  ·by_cases hs:65535<S.size
   ·rw [zjQ n S hz hs] at h;cases h
   ·rw [zr5 n S hz hs] at h
    simp only [Option.some.injEq] at h
    subst h hz
    rw [List.append_assoc]
    generalize hq:S.data.toList++r=q
    have e1:=zg0 (be S.size 2) q
    have e2:=zg1 (be S.size 2) q
    rw [zaV] at e1 e2
    have hsz:(⟨(be S.size 2++q).toArray⟩:ByteArray).size=2+q.length:=by rw [ziW];simp [zaV]
    rw [zr6 _ (by omega),e1,e2]
    have e3:zbD 0 (⟨(be S.size 2).toArray⟩:ByteArray).data.toList=S.size:=zgn 2 S.size (by decide) (Nat.lt_of_le_of_lt (Nat.le_of_not_lt hs) (by decide))
    rw [e3]
    subst hq
    have e4:=zg0 S.data.toList r
    have e5:=zg1 S.data.toList r
    rw [<-Lib.size_eq] at e4 e5
    rw [e4,e5,if_neg (by rw [ziW,zLa,<-Lib.size_eq];omega),zms]
  ·rw [zdz 116 n S rfl hz] at h;cases h
 ·by_cases hk:zbT k=true
  ·have hk':(zbT k && k != 116)=true:=by simp [hk,h116]
   rw [zd0 k _ n S hk' rfl] at h
   rw [zgY k _ _ hk' rfl]
   have hw8:(zcb k.toNat).toNat<=8:=by unfold zcb;split <;> (try split) <;> (try split) <;> decide
   generalize (zcb k.toNat).toNat=wd at *
   by_cases hc:S.size≠0\/256 ^ wd<=n
   ·rw [if_pos hc] at h;cases h
   ·rw [if_neg hc] at h
    simp only [Option.some.injEq] at h
    subst h
    have e1:=zg0 (be n wd) r
    have e2:=zg1 (be n wd) r
    rw [zaV] at e1 e2
    rw [e1,e2,if_neg (by rw [ziW,zLa,zaV];omega)]
    have e3:zbD 0 (⟨(be n wd).toArray⟩:ByteArray).data.toList=n:=zgn wd n hw8 (by omega)
    rw [e3,zg2 (S:=S) (by omega)]
  ·have e:rd1 k ⟨(a++r).toArray⟩=some ((0,⟨(a++r).toArray⟩),⟨#[]⟩):=by unfold rd1;rw [if_neg h116,if_neg hk]
   obtain rfl:r=[]:=hr.resolve_left hk
   by_cases hz:n=0
   ·rw [zqo k n S (by simp [hk]) h116 hz] at h
    simp only [Option.some.injEq] at h
    subst h hz
    rw [e,List.append_nil,zms]
   ·rw [zdz k n S (by simp [hk]) hz] at h;cases h
theorem zsK:∀ (ks:List UInt8) (fs:List Fld) (a:List UInt8),zbs ks=true->ks.length=fs.length->(∀ p∈fs,p.1<18446744073709551616)->wrL ks fs=some a->zb5 ks ⟨a.toArray⟩=some fs:=by
 intro ks
 induction ks with
 | nil =>
   intro fs a _ hl _ h
   obtain rfl:=List.eq_nil_of_length_eq_zero hl.symm
   simp only [wrL,Option.some.injEq] at h
   subst h
   show (if (⟨#[]⟩:ByteArray).toList=[] then some [] else none)=_
   rw [if_pos (by rw [Lib.toList_data])]
 | cons k ks ih =>
   intro fs a hr hl hn h
   cases fs with
   | nil=>simp at hl
   | cons f fs =>
     have e:wrL (k::ks) (f::fs)=(match wr1 k f with|none=>none|some a=>(wrL ks fs).map (a++·)):=rfl
     rw [e] at h
     cases h1:wr1 k f with
     | none=>rw [h1] at h;cases h
     | some b =>
       rw [h1] at h
       dsimp only at h
       cases h2:wrL ks fs with
       | none=>rw [h2] at h;cases h
       | some c =>
         rw [h2] at h
         simp only [Option.map_some,Option.some.injEq] at h
         subst h
         have hc:zbT k=true\/c=[]:=by
          cases ks with
          | nil=>right;cases fs with
            | nil=>simp only [wrL,Option.some.injEq] at h2;exact h2.symm
            | cons _ _=>simp at hl
          | cons d r=>left;rw [zcT (by simp)] at hr;simp only [Bool.and_eq_true] at hr;exact hr.1
         have hr':zbs ks=true:=by
          cases ks with
          | nil=>rfl
          | cons d r=>rw [zcT (by simp)] at hr;simp only [Bool.and_eq_true] at hr;exact hr.2
         have e2:zb5 (k::ks) ⟨(b++c).toArray⟩=(match rd1 k ⟨(b++c).toArray⟩ with|none=>none|some p=>(zb5 ks p.2).map (p.1::·)):=rfl
         rw [e2,zr7 h1 (hn f (List.mem_cons_self ..)) c hc]
         dsimp only
         rw [ih fs c hr' (by simpa using hl) (λ p hp=>hn p (List.mem_cons_of_mem _ hp)) h2]
         rfl
theorem zgo {ks:List UInt8} {fs:List Fld} {a:List UInt8} (hn:∀ p∈fs,p.1<18446744073709551616) (h:zdP ks fs=some a):zgZ ks ⟨a.toArray⟩=some fs:=by
 by_cases hr:zbs ks=true/\ks.length=fs.length
 ·rw [zcF hr.1 hr.2] at h
  unfold zgZ
  rw [if_pos hr.1]
  exact zsK ks fs a hr.1 hr.2 hn h
 ·unfold zdP at h
  rw [if_neg hr] at h;cases h
theorem zpe (n k:Nat):∀ w,w<=k->be (n%256 ^ k) w=be n w:=by
 intro w
 induction w with
 | zero=>intro _;rfl
 | succ w ih =>
   intro hw
   show UInt8.ofNat ((n%256 ^ k) / 256 ^ w%256)::be (n%256 ^ k) w=UInt8.ofNat (n / 256 ^ w%256)::be n w
   rw [ih (by omega)]
   have e:(256:Nat) ^ k=256 ^ w*256 ^ (k-w):=by rw [<-Nat.pow_add];congr 1;omega
   have d:(256:Nat) ∣ 256 ^ (k-w):=⟨256 ^ (k-w-1),by rw [<-Nat.pow_succ'];congr 1;omega⟩
   rw [e,Nat.mod_mul_right_div_self,Nat.mod_mod_of_dvd _ d]
theorem zhX {a b:Nat} (ha:a<256) (hb:b<256):(decide (UInt8.ofNat a<UInt8.ofNat b))=decide (a<b)/\(UInt8.ofNat a == UInt8.ofNat b)=decide (a=b):=by
 have e1:(UInt8.ofNat a).toNat=a:=by rw [UInt8.toNat_ofNat'];omega
 have e2:(UInt8.ofNat b).toNat=b:=by rw [UInt8.toNat_ofNat'];omega
 constructor
 ·rw [decide_eq_decide,UInt8.lt_iff_toNat_lt,e1,e2]
 ·rw [Bool.eq_iff_iff]
  simp only [beq_iff_eq,decide_eq_true_eq]
  constructor
  ·intro h;rw [<-e1,h,e2]
  ·intro h;rw [h]
theorem zhY:∀ w n m,n<256 ^ w->m<256 ^ w->Op.bytesLess (be n w) (be m w)=decide (n<m):=by
 intro w
 induction w with
 | zero=>intro n m hn hm;simp at hn hm;subst hn hm;rfl
 | succ w ih =>
   intro n m hn hm
   have hp:0<256 ^ w:=Nat.pow_pos (by decide)
   rw [Nat.pow_succ] at hn hm
   have hn':n / 256 ^ w<256:=Nat.div_lt_of_lt_mul hn
   have hm':m / 256 ^ w<256:=Nat.div_lt_of_lt_mul hm
   show (decide (UInt8.ofNat (n / 256 ^ w%256)<UInt8.ofNat (m / 256 ^ w%256)) || (UInt8.ofNat (n / 256 ^ w%256) == UInt8.ofNat (m / 256 ^ w%256) && Op.bytesLess (be n w) (be m w)))=_
   rw [Nat.mod_eq_of_lt hn',Nat.mod_eq_of_lt hm',(zhX hn' hm').1,(zhX hn' hm').2]
   have i:=ih (n%256 ^ w) (m%256 ^ w) (Nat.mod_lt _ hp) (Nat.mod_lt _ hp)
   rw [zpe _ _ _ (zNr _),zpe _ _ _ (zNr _)] at i
   rw [i]
   have dn:=Nat.div_add_mod n (256 ^ w)
   have dm:=Nat.div_add_mod m (256 ^ w)
   have mn:=Nat.mod_lt n hp
   have mm:=Nat.mod_lt m hp
   generalize 256 ^ w=p at *
   generalize n / p=x at *
   generalize m / p=y at *
   generalize n%p=u at *
   generalize m%p=v at *
   rcases Nat.lt_trichotomy x y with h|h|h
   ·have:p*(x+1)<=p*y:=Nat.mul_le_mul_left p h
    rw [Nat.mul_add] at this
    simp [h];omega
   ·subst h
    simp;omega
   ·have:p*(y+1)<=p*x:=Nat.mul_le_mul_left p h
    rw [Nat.mul_add] at this
    have h1:¬x<y:=by omega
    have h2:¬x=y:=by omega
    simp [h1,h2];omega
theorem zsL:(256:Nat) ^ 8=18446744073709551616:=by decide
def zcG (i:Int):Nat:=(i%18446744073709551616).toNat
theorem zg3 (i:Int):zcG i<18446744073709551616:=by unfold zcG;omega
theorem zkU (i:Int):IntKind.u64.wrap i=(zcG i:Int):=by
 unfold zcG
 simp [IntKind.wrap,IntKind.bits,IntKind.signed]
 omega
theorem zgp (i:Int) (h1:-4611686018427387904<=i) (h2:i<=4611686018427387904):IntKind.i64.wrap (zcG i:Int)=i:=by
 unfold zcG
 simp [IntKind.wrap,IntKind.bits,IntKind.signed]
 omega
structure Ck where
 id:ByteArray
 page:Nat
 cnt:Int
 text:ByteArray
def zhZ:ByteArray:=⟨#[104,98,110]⟩
def Ck.flds (c:Ck):List Fld:=[(c.page,⟨#[]⟩),(c.text.size,⟨#[]⟩),(zcG c.cnt,⟨#[]⟩)]
def Ck.bytes (c:Ck):List UInt8:=be c.page 4++(be c.text.size 1++be (zcG c.cnt) 8)
def Ck.val (c:Ck):ByteArray:=⟨c.bytes.toArray⟩
structure Ck.Ok (c:Ck):Prop where
 id:c.id.size=33
 page:c.page<65536
 t1:1<=c.text.size
 t2:c.text.size<=128
 c1:-1000000000<=c.cnt
 c2:c.cnt<=1000000000
theorem zpf (n:Nat) (h:n<256):wr1 98 (n,⟨#[]⟩)=some (be n 1):=by
 rw [zd0 98 1 n ⟨#[]⟩ (by decide) (by decide)]
 rw [if_neg];rintro (e|e)
 ·exact e rfl
 ·omega
theorem zqt (n:Nat) (h:n<4294967296):wr1 104 (n,⟨#[]⟩)=some (be n 4):=by
 rw [zd0 104 4 n ⟨#[]⟩ (by decide) (by decide)]
 rw [if_neg];rintro (e|e)
 ·exact e rfl
 ·omega
theorem zjS (n:Nat) (h:n<18446744073709551616):wr1 110 (n,⟨#[]⟩)=some (be n 8):=by
 rw [zd0 110 8 n ⟨#[]⟩ (by decide) (by decide)]
 rw [if_neg];rintro (e|e)
 ·exact e rfl
 ·rw [zsL] at e;omega
theorem Ck.write {c:Ck} (h:c.Ok):zdP zhZ.data.toList c.flds=some c.bytes:=by
 have h1:=h.page
 have h2:=h.t2
 rw [zcF (by decide) rfl]
 show wrL [104,98,110] [(c.page,⟨#[]⟩),(c.text.size,⟨#[]⟩),(zcG c.cnt,⟨#[]⟩)]=_
 simp only [wrL,zqt c.page (by omega),zpf c.text.size (by omega),zjS _ (zg3 c.cnt),Option.map_some,List.append_nil,Ck.bytes]
theorem Ck.read {c:Ck} (h:c.Ok):zgZ zhZ.data.toList c.val=some c.flds:=by
 refine zgo (λ p hp=>?_) (Ck.write h)
 have h1:=h.page
 have h2:=h.t2
 have h3:=zg3 c.cnt
 simp only [Ck.flds,List.mem_cons,List.not_mem_nil,or_false] at hp
 rcases hp with rfl|rfl|rfl <;> simp <;> omega
theorem Ck.val_size (c:Ck):c.val.size<=56:=by
 rw [Lib.size_eq]
 show c.bytes.length<=56
 simp only [Ck.bytes,zLa,zaV];omega
def zil (c:Ck):ByteArray × ByteArray:=(c.id,c.val)
structure zh0 (E:List (ByteArray × ByteArray)) (C:List Ck):Prop where
 eq:E=C.map zil
 ok:∀ c∈C,c.Ok
def cAt (C:List Ck) (s:ByteArray):Option Ck:=C.find? λ c=>decide (c.id=s)
theorem zaQ {C:List Ck} {s:ByteArray} {c:Ck} (h:cAt C s=some c):c∈C/\c.id=s:=by
 have:=List.find?_some h
 exact ⟨List.mem_of_find?_eq_some h,by simpa using this⟩
theorem zdA {C:List Ck} {s:ByteArray} (h:cAt C s=none):∀ c∈C,c.id≠s:=by
 have:=List.find?_eq_none.1 h
 intro c hc e;exact this c hc (by simp [e])
theorem zmt {C:List Ck} {s:ByteArray} (h:∀ c∈C,c.id≠s):cAt C s=none:=by
 unfold cAt
 rw [List.find?_eq_none]
 intro c hc;simp [h c hc]
theorem zqu {E:List (ByteArray × ByteArray)} (h:Srt E) {k v v':ByteArray} (h1:(k,v)∈E) (h2:(k,v')∈E):v=v':=by
 obtain ⟨A,B,rfl⟩:=List.append_of_mem h1
 obtain ⟨-,s2,s3⟩:=zhz h
 rcases List.mem_append.1 h2 with h2|h2
 ·exact absurd rfl (zaW (s2 (k,v') h2))
 ·rcases List.mem_cons.1 h2 with h2|h2
  ·cases h2;rfl
  ·exact absurd rfl (zaW (s3 (k,v') h2))
theorem zh0.got {E:List (ByteArray × ByteArray)} {C:List Ck} {s v:ByteArray} {ok:Bool} (h:zh0 E C) (hs:Srt E) (g:Got s E v ok) :
 (∃ c,cAt C s=some c/\c.Ok/\ok=true/\v=c.val)\/(cAt C s=none/\ok=false):=by
 rcases g with ⟨hk,hm⟩|⟨hk,-,hm⟩
 ·left
  have hm2:=hm
  rw [h.eq] at hm2
  obtain ⟨c0,hc0,e0⟩:=List.mem_map.1 hm2
  have e1:c0.id=s:=congrArg Prod.fst e0
  cases hf:cAt C s with
  | none=>exact absurd e1 (zdA hf c0 hc0)
  | some c =>
    obtain ⟨h1,h2⟩:=zaQ hf
    refine ⟨c,rfl,h.ok c h1,hk,?_⟩
    have:(s,c.val)∈E:=by
     rw [h.eq];exact List.mem_map.2 ⟨c,h1,by unfold zil;rw [h2]⟩
    exact zqu hs hm this
 ·right
  exact ⟨zmt λ c hc e=>hm (zil c) (by rw [h.eq];exact List.mem_map.2 ⟨c,hc,rfl⟩) e,hk⟩
def zeC (c:Ck) (C C':List Ck):Prop:=∃ A B,C'=A++c::B/\(C=A++B\/∃ c0,c0.id=c.id/\C=A++c0::B)/\(∀ a∈A,zah a.id c.id=true)/\∀ b∈B,zah c.id b.id=true
theorem zh0.ins {E E':List (ByteArray × ByteArray)} {C:List Ck} {c:Ck} (h:zh0 E C) (hc:c.Ok) (hi:Ins c.id c.val E E'):∃ C',zh0 E' C'/\zeC c C C':=by
 obtain ⟨A,B,rfl,h',hA,hB⟩:=hi
 obtain ⟨heq,hok⟩:=h
 rcases h' with h'|⟨v,h'⟩
 ·rw [heq] at h'
  obtain ⟨A1,C1,rfl,rfl,rfl⟩:=List.map_eq_append_iff.1 h'
  refine ⟨A1++c::C1,⟨by simp [zil],λ x hx=>?_⟩,A1,C1,rfl,.inl rfl,λ a ha=>hA (zil a) (List.mem_map.2 ⟨a,ha,rfl⟩),λ b hb=>hB (zil b) (List.mem_map.2 ⟨b,hb,rfl⟩)⟩
  simp only [List.mem_append,List.mem_cons] at hx
  rcases hx with hx|rfl|hx
  ·exact hok x (by simp [hx])
  ·exact hc
  ·exact hok x (by simp [hx])
 ·rw [heq] at h'
  obtain ⟨A1,C0,rfl,rfl,h2⟩:=List.map_eq_append_iff.1 h'
  obtain ⟨b0,C1,rfl,h3,rfl⟩:=List.map_eq_cons_iff.1 h2
  refine ⟨A1++c::C1,⟨by simp [zil],λ x hx=>?_⟩,A1,C1,rfl,.inr ⟨b0,congrArg Prod.fst h3,rfl⟩,λ a ha=>hA (zil a) (List.mem_map.2 ⟨a,ha,rfl⟩),λ b hb=>hB (zil b) (List.mem_map.2 ⟨b,hb,rfl⟩)⟩
  simp only [List.mem_append,List.mem_cons] at hx
  rcases hx with hx|rfl|hx
  ·exact hok x (by simp [hx])
  ·exact hc
  ·exact hok x (by simp [hx])
def zr8 (s:ByteArray) (C C':List Ck):Prop:=∃ A B c,c.id=s/\C=A++c::B/\C'=A++B
theorem zh0.del {E E':List (ByteArray × ByteArray)} {C:List Ck} {s:ByteArray} (h:zh0 E C) (hd:Del s E E'):∃ C',zh0 E' C'/\zr8 s C C':=by
 obtain ⟨A,B,v,rfl,rfl⟩:=hd
 obtain ⟨heq,hok⟩:=h
 obtain ⟨A1,C0,rfl,rfl,h2⟩:=List.map_eq_append_iff.1 heq.symm
 obtain ⟨b0,C1,rfl,h3,rfl⟩:=List.map_eq_cons_iff.1 h2
 refine ⟨A1++C1,⟨by simp,λ x hx=>hok x ?_⟩,A1,C1,b0,congrArg Prod.fst h3,rfl,rfl⟩
 rcases List.mem_append.1 hx with hx|hx <;> simp [hx]
def zpg (C:List Ck):Prop:=C.Pairwise λ a b=>zah a.id b.id=true
theorem zh0.srt {E:List (ByteArray × ByteArray)} {C:List Ck} (h:zh0 E C) (hs:Srt E):zpg C:=by
 obtain ⟨rfl,-⟩:=h
 exact List.pairwise_map.1 hs
theorem zpg.uniq {C:List Ck} (h:zpg C) {a b:Ck} (ha:a∈C) (hb:b∈C) (e:a.id=b.id):a=b:=by
 obtain ⟨A,B,rfl⟩:=List.append_of_mem ha
 obtain ⟨-,h2,h3⟩:=List.pairwise_append.1 h
 obtain ⟨h4,-⟩:=List.pairwise_cons.1 h2
 rcases List.mem_append.1 hb with hb|hb
 ·exact absurd e.symm (zaW (h3 b hb a (by simp)))
 ·rcases List.mem_cons.1 hb with hb|hb
  ·exact hb.symm
  ·exact absurd e (zaW (h4 b hb))
theorem zph {C:List Ck} (h:zpg C) {c:Ck} (hc:c∈C):cAt C c.id=some c:=by
 cases hf:cAt C c.id with
 | none=>exact absurd rfl (zdA hf c hc)
 | some d =>
   obtain ⟨h1,h2⟩:=zaQ hf
   rw [h.uniq h1 hc h2]
structure Lg where
 n:Nat
 up:Bool
 id:ByteArray
def Lg.by (e:Lg):Int:=if e.up then 1 else -1
def sgB (b:Bool):Nat:=if b then 1 else 0
def zjT:ByteArray:=⟨#[98,114]⟩
def zbY (n:Nat):ByteArray:=⟨(be n 8).toArray⟩
def Lg.flds (e:Lg):List Fld:=[(sgB e.up,⟨#[]⟩),(0,e.id)]
def Lg.bytes (e:Lg):List UInt8:=be (sgB e.up) 1++e.id.data.toList
def Lg.val (e:Lg):ByteArray:=⟨e.bytes.toArray⟩
structure Lg.Ok (e:Lg):Prop where
 n:e.n<1000000000
 id:e.id.size=33
theorem Lg.write (e:Lg):zdP zjT.data.toList e.flds=some e.bytes:=by
 have h1:sgB e.up<256:=by unfold sgB;split <;> omega
 rw [zcF (by decide) rfl]
 show wrL [98,114] [(sgB e.up,⟨#[]⟩),(0,e.id)]=_
 simp only [wrL,zpf _ h1,zqo 114 0 e.id (by decide) (by decide) rfl,Option.map_some,List.append_nil,Lg.bytes]
theorem Lg.read (e:Lg):zgZ zjT.data.toList e.val=some e.flds:=by
 refine zgo (λ p hp=>?_) (Lg.write e)
 have h1:sgB e.up<256:=by unfold sgB;split <;> omega
 simp only [Lg.flds,List.mem_cons,List.not_mem_nil,or_false] at hp
 rcases hp with rfl|rfl <;> simp <;> omega
theorem Lg.val_size {e:Lg} (h:e.Ok):e.val.size<=56:=by
 have:=h.id
 rw [Lib.size_eq] at this
 rw [Lib.size_eq]
 show e.bytes.length<=56
 simp only [Lg.bytes,zLa,zaV];omega
theorem zh1 (n:Nat):(zbY n).size=8:=by
 rw [Lib.size_eq];exact zaV n 8
theorem zmu {n m:Nat} (hn:n<1000000000) (hm:m<1000000000):zah (zbY n) (zbY m)=decide (n<m):=by
 unfold zah zbY
 rw [Lib.toList_data,Lib.toList_data]
 exact zhY 8 n m (by rw [zsL];omega) (by rw [zsL];omega)
theorem zkV (n:Nat) (h:n<1000000000):zdP [110] [(n,⟨#[]⟩)]=some (be n 8):=by
 rw [zcF (by decide) rfl]
 simp only [wrL,zjS n (by omega),Option.map_some,List.append_nil]
def zpi (e:Lg):ByteArray × ByteArray:=(zbY e.n,e.val)
structure znp (E:List (ByteArray × ByteArray)) (L:List Lg) (nx:Nat):Prop where
 eq:E=L.map zpi
 ok:∀ e∈L,e.Ok/\e.n<nx
theorem znp.put {E E':List (ByteArray × ByteArray)} {L:List Lg} {nx:Nat} {e:Lg} (h:znp E L nx) (he:e.n=nx) (hk:e.Ok) (hi:Ins (zbY e.n) e.val E E'):znp E' (L++[e]) (nx+1):=by
 have hlt:∀ x∈E,zah x.1 (zbY e.n)=true:=λ x hx=>by
  rw [h.eq] at hx
  obtain ⟨y,hy,rfl⟩:=List.mem_map.1 hx
  obtain ⟨h1,h2⟩:=h.ok y hy
  show zah (zbY y.n) (zbY e.n)=true
  rw [zmu h1.n hk.n];simp;omega
 obtain ⟨A,B,rfl,h',hA,hB⟩:=hi
 have hB0:B=[]:=by
  cases B with
  | nil=>rfl
  | cons b B =>
    exfalso
    have h1:=hB b (by simp)
    have h2:=hlt b (by rcases h' with rfl|⟨v,rfl⟩ <;> simp)
    rw [zbx h1] at h2;cases h2
 subst hB0
 have hE:E=A:=by
  rcases h' with h'|⟨v,h'⟩
  ·simpa using h'
  ·exfalso
   have:=hlt (zbY e.n,v) (by rw [h'];simp)
   rw [zal] at this;cases this
 subst hE
 refine ⟨by rw [List.map_append,<-h.eq];rfl,λ y hy=>?_⟩
 rcases List.mem_append.1 hy with hy|hy
 ·have:=h.ok y hy;exact ⟨this.1,by omega⟩
 ·simp at hy;subst hy;exact ⟨hk,by omega⟩
theorem znp.del {E E':List (ByteArray × ByteArray)} {L:List Lg} {nx:Nat} {e:Lg} (h:znp E (e::L) nx) (hs:Srt E) (hd:Del (zbY e.n) E E'):znp E' L nx:=by
 obtain ⟨A,B,v,hE,rfl⟩:=hd
 have h1:=h.eq
 rw [hE] at h1
 have hA:A=[]:=by
  cases A with
  | nil=>rfl
  | cons a A =>
    exfalso
    rw [List.map_cons,List.cons_append] at h1
    have ha:a=zpi e:=(List.cons.inj h1).1
    rw [hE] at hs
    have:=(zhz hs).2.1 a (by simp)
    rw [ha] at this
    have hn:zah (zbY e.n) (zbY e.n)=true:=this
    rw [zal] at hn;cases hn
 subst hA
 rw [List.map_cons,List.nil_append] at h1
 refine ⟨by rw [List.nil_append];exact (List.cons.inj h1).2,λ y hy=>h.ok y (by simp [hy])⟩
def zas (p:ByteArray) (k:Nat):ByteArray:=p++⟨#[UInt8.ofNat k]⟩
theorem zgq (p:ByteArray) (k:Nat):(zas p k).size=p.size+1:=by
 unfold zas;rw [ByteArray.size_append];rfl
theorem zdB (p:ByteArray) (k:Nat):(zas p k).data.toList=p.data.toList++[UInt8.ofNat k]:=by
 unfold zas;simp
theorem zcU {S:RS} {place k a:Nat} {o:Option TT} (h:zaY S place o) (hw:wtO o<=a) (ha:a<2 ^ k):zeP o<=k:=by
 cases o with
 | none=>exact zNz _
 | some T=>exact zry h.2.pos (Nat.lt_of_le_of_lt hw ha)
theorem zaY.used {S:RS} {place:Nat} {o:Option TT} (h:zaY S place o):∀ q∈zd4 o,S.used q=true:=by
 cases o with
 | none=>intro q hq;cases hq
 | some T=>exact h.2.on.used
theorem zaY.nodC {S:RS} {place:Nat} {o:Option TT} (h:zaY S place o):(zd4 o).Nodup:=by
 cases o with
 | none=>exact List.nodup_nil
 | some T=>exact h.2.nod
theorem zaY.keep {S S':RS} {place:Nat} {o:Option TT} (h:zaY S place o) (hr:S'.root place=S.root place) (hq:∀ q∈zd4 o,S'.used q=S.used q/\S'.cont q=S.cont q):zaY S' place o:=by
 cases o with
 | none=>exact hr.trans h
 | some T=>exact ⟨hr.trans h.1,h.2.frame hq⟩
structure zcV (S:RS) (n c:Nat) (o0 o1:Option TT) (a0 a1:Nat) (X:List (Nat × ByteArray)):Prop where
 t0:zaY S 0 o0
 t1:zaY S 1 o1
 sp:zaR S n c
 w0:wtO o0<=a0
 w1:wtO o1<=a1
 pg:∀ x∈X,S.used x.1=true/\S.cont x.1=pad (pgB x.2)
 nd:(zd4 o0++(zd4 o1++X.map Prod.fst)).Nodup
 al:∀ q,S.used q=true->q∈zd4 o0++(zd4 o1++X.map Prod.fst)
section
variable {S S':RS} {n c a0 a1:Nat} {o0 o1 o':Option TT} {X:List (Nat × ByteArray)}
theorem zcV.less {c' b0 b1:Nat} (h:zcV S n c o0 o1 a0 a1 X) (hc:c'<=c) (h0:a0<=b0) (h1:a1<=b1):zcV S n c' o0 o1 b0 b1 X :=
 ⟨h.t0,h.t1,h.sp.less hc,Nat.le_trans h.w0 h0,Nat.le_trans h.w1 h1,h.pg,h.nd,h.al⟩
theorem zcV.hgt0 (h:zcV S n c o0 o1 a0 a1 X) (ha:a0<524288):zeP o0<=19:=zcU h.t0 h.w0 (by omega)
theorem zcV.hgt1 (h:zcV S n c o0 o1 a0 a1 X) (ha:a1<524288):zeP o1<=19:=zcU h.t1 h.w1 (by omega)
theorem zcV.srt0 (h:zcV S n c o0 o1 a0 a1 X):Srt (zbh o0):=zqf h.t0
theorem zcV.srt1 (h:zcV S n c o0 o1 a0 a1 X):Srt (zbh o1):=zqf h.t1
theorem zcV.parts (h:zcV S n c o0 o1 a0 a1 X):(∀ q∈zd4 o1,q ∉ zd4 o0)/\(∀ x∈X,x.1 ∉ zd4 o0)/\(∀ q∈zd4 o0,q ∉ zd4 o1)/\(∀ x∈X,x.1 ∉ zd4 o1):=by
 obtain ⟨h1,h2,h3⟩:=List.nodup_append.1 h.nd
 obtain ⟨h4,h5,h6⟩:=List.nodup_append.1 h2
 exact ⟨λ q hq e=>h3 q e q (by simp [hq]) rfl,λ x hx e=>h3 x.1 e x.1 (by simp only [List.mem_append,List.mem_map];exact .inr ⟨x,hx,rfl⟩) rfl,λ q hq e=>h3 q hq q (by simp [e]) rfl,λ x hx e=>h6 x.1 e x.1 (List.mem_map.2 ⟨x,hx,rfl⟩) rfl⟩
theorem zcV.go0 {c' b0:Nat} (h:zcV S n c o0 o1 a0 a1 X) (g:zkE 0 n S S' o0 o') (hs:zaR S' n c') (hw:wtO o'<=b0):zcV S' n c' o' o1 b0 a1 X:=by
 obtain ⟨p1,p2,p3,p4⟩:=h.parts
 have k1:∀ q∈zd4 o1,q ∉ zd4 o'/\S'.used q=true/\S'.cont q=S.cont q:=λ q hq=>g.frm.keep q (p1 q hq) (h.t1.used q hq)
 have k2:∀ x∈X,x.1 ∉ zd4 o'/\S'.used x.1=true/\S'.cont x.1=S.cont x.1:=λ x hx=>g.frm.keep x.1 (p2 x hx) (h.pg x hx).1
 obtain ⟨-,n2,-⟩:=List.nodup_append.1 h.nd
 refine ⟨g.st,h.t1.keep (g.frm.root 1 (by decide)) λ q hq=>⟨(k1 q hq).2.1.trans (h.t1.used q hq).symm,(k1 q hq).2.2⟩,hs,hw,h.w1,λ x hx=>⟨(k2 x hx).2.1,(k2 x hx).2.2.trans (h.pg x hx).2⟩,List.nodup_append.2 ⟨(zaY.nodC g.st),n2,λ a ha b hb e=>?_⟩,λ q hq=>?_⟩
 ·subst e
  rcases List.mem_append.1 hb with hb|hb
  ·exact (k1 a hb).1 ha
  ·obtain ⟨x,hx,rfl⟩:=List.mem_map.1 hb
   exact (k2 x hx).1 ha
 ·rcases g.frm.back q hq with h1|⟨h1,h2⟩
  ·exact List.mem_append_left _ h1
  ·rcases List.mem_append.1 (h.al q h1) with h3|h3
   ·exact absurd h3 h2
   ·exact List.mem_append_right _ h3
theorem zcV.go1 {c' b1:Nat} (h:zcV S n c o0 o1 a0 a1 X) (g:zkE 1 n S S' o1 o') (hs:zaR S' n c') (hw:wtO o'<=b1):zcV S' n c' o0 o' a0 b1 X:=by
 obtain ⟨p1,p2,p3,p4⟩:=h.parts
 have k1:∀ q∈zd4 o0,q ∉ zd4 o'/\S'.used q=true/\S'.cont q=S.cont q:=λ q hq=>g.frm.keep q (p3 q hq) (h.t0.used q hq)
 have k2:∀ x∈X,x.1 ∉ zd4 o'/\S'.used x.1=true/\S'.cont x.1=S.cont x.1:=λ x hx=>g.frm.keep x.1 (p4 x hx) (h.pg x hx).1
 obtain ⟨n1,n2,n3⟩:=List.nodup_append.1 h.nd
 obtain ⟨n4,n5,n6⟩:=List.nodup_append.1 n2
 refine ⟨h.t0.keep (g.frm.root 0 (by decide)) λ q hq=>⟨(k1 q hq).2.1.trans (h.t0.used q hq).symm,(k1 q hq).2.2⟩,g.st,hs,h.w0,hw,λ x hx=>⟨(k2 x hx).2.1,(k2 x hx).2.2.trans (h.pg x hx).2⟩,List.nodup_append.2 ⟨n1,List.nodup_append.2 ⟨(zaY.nodC g.st),n5,λ a ha b hb e=>?_⟩,λ a ha b hb e=>?_⟩,λ q hq=>?_⟩
 ·subst e
  obtain ⟨x,hx,rfl⟩:=List.mem_map.1 hb
  exact (k2 x hx).1 ha
 ·subst e
  rcases List.mem_append.1 hb with hb|hb
  ·exact (k1 a ha).1 hb
  ·exact n3 a ha a (List.mem_append_right _ hb) rfl
 ·rcases g.frm.back q hq with h1|⟨h1,h2⟩
  ·exact List.mem_append_right _ (List.mem_append_left _ h1)
  ·rcases List.mem_append.1 (h.al q h1) with h3|h3
   ·exact List.mem_append_left _ h3
   ·rcases List.mem_append.1 h3 with h4|h4
    ·exact absurd h4 h2
    ·exact List.mem_append_right _ (List.mem_append_right _ h4)
theorem zcV.blob {p:Nat} {s:ByteArray} (h:zcV S n (c+1) o0 o1 a0 a1 X) (hu:S.used p=false):zcV (zga S p s) n c o0 o1 a0 a1 ((p,s)::X):=by
 have hp:∀ q,S.used q=true->q≠p:=λ q hq e=>by rw [e,hu] at hq;cases hq
 have ku:∀ q,S.used q=true->(zga S p s).used q=true/\(zga S p s).cont q=S.cont q:=λ q hq=>by
  have:=hp q hq
  refine ⟨?_,?_⟩
  ·show zbn S.used p q=true
   unfold zbn;rw [if_neg this,hq]
  ·show (if q=p then _ else if q=p then _ else S.cont q)=S.cont q
   rw [if_neg this,if_neg this]
 have hpu:(zga S p s).used p=true:=by
  show zbn S.used p p=true
  unfold zbn;rw [if_pos rfl,hu];rfl
 have hpc:(zga S p s).cont p=pad (pgB s):=by
  show (if p=p then _ else _)=_
  rw [if_pos rfl]
 obtain ⟨n1,n2,n3⟩:=List.nodup_append.1 h.nd
 obtain ⟨n4,n5,n6⟩:=List.nodup_append.1 n2
 have hX:∀ q∈X.map Prod.fst,q≠p:=λ q hq=>by
  obtain ⟨x,hx,rfl⟩:=List.mem_map.1 hq
  exact hp _ (h.pg x hx).1
 refine ⟨h.t0.keep rfl λ q hq=>⟨(ku q (h.t0.used q hq)).1.trans (h.t0.used q hq).symm,(ku q (h.t0.used q hq)).2⟩,h.t1.keep rfl λ q hq=>⟨(ku q (h.t1.used q hq)).1.trans (h.t1.used q hq).symm,(ku q (h.t1.used q hq)).2⟩,?_,h.w0,h.w1,λ x hx=>?_,?_,λ q hq=>?_⟩
 ·exact (h.sp.alloc hu)
 ·rcases List.mem_cons.1 hx with rfl|hx
  ·exact ⟨hpu,hpc⟩
  ·have:=ku x.1 (h.pg x hx).1
   exact ⟨this.1,this.2.trans (h.pg x hx).2⟩
 ·rw [List.map_cons]
  refine List.nodup_append.2 ⟨n1,List.nodup_append.2 ⟨n4,List.nodup_cons.2 ⟨λ e=>hX p e rfl,n5⟩,λ a ha b hb e=>?_⟩,λ a ha b hb e=>?_⟩
  ·subst e
   rcases List.mem_cons.1 hb with rfl|hb
   ·exact hp _ (h.t1.used _ ha) rfl
   ·exact n6 a ha a hb rfl
  ·subst e
   rcases List.mem_append.1 hb with hb|hb
   ·exact n3 a ha a (List.mem_append_left _ hb) rfl
   ·rcases List.mem_cons.1 hb with rfl|hb
    ·exact hp _ (h.t0.used _ ha) rfl
    ·exact n3 a ha a (List.mem_append_right _ hb) rfl
 ·by_cases e:q=p
  ·subst e;simp
  ·have hq':S.used q=true:=by
    have h2:zbn S.used p q=true:=hq
    unfold zbn at h2;rwa [if_neg e] at h2
   have:=h.al q hq'
   simp only [List.mem_append,List.map_cons,List.mem_cons] at this ⊢
   rcases this with h1|h1|h1 <;> simp [h1]
theorem zcV.root {k v:Nat} (h:zcV S n c o0 o1 a0 a1 X) (hk:2<=k):zcV (zay S k v) n c o0 o1 a0 a1 X:=by
 have hr:∀ j,j<2->(zay S k v).root j=S.root j:=λ j hj=>by
  show upd S.root k v j=S.root j
  unfold upd;rw [if_neg (by omega)]
 exact ⟨h.t0.keep (hr 0 (by decide)) λ q hq=>⟨rfl,rfl⟩,h.t1.keep (hr 1 (by decide)) λ q hq=>⟨rfl,rfl⟩,h.sp,h.w0,h.w1,h.pg,h.nd,h.al⟩
theorem zcV.perm {Y:List (Nat × ByteArray)} (h:zcV S n c o0 o1 a0 a1 X) (hp:X.Perm Y):zcV S n c o0 o1 a0 a1 Y:=by
 have h2:(zd4 o0++(zd4 o1++X.map Prod.fst)).Perm (zd4 o0++(zd4 o1++Y.map Prod.fst)):=List.Perm.append_left _ (List.Perm.append_left _ (hp.map _))
 exact ⟨h.t0,h.t1,h.sp,h.w0,h.w1,λ x hx=>h.pg x (hp.mem_iff.2 hx),h2.nodup_iff.1 h.nd,λ q hq=>h2.mem_iff.1 (h.al q hq)⟩
end
def cpg (C:List Ck):List (Nat × ByteArray):=C.map λ c=>(c.page,c.text)
theorem RSt.setC {w1 w:World} {K:Nat->Prop} {rb n m:Nat} {S:RS} (h:RSt w1 w K rb n m S) {x:Nat} (hx:K x) (hl:w1.heap.size<=x) (off:Nat) (v:Value):RSt w1 (w.setCell ⟨x,off,none⟩ v) K rb n m S:=by
 obtain ⟨G,⟨puts,a1,a2,a3⟩,b,d,e⟩:=h
 have hu:Upd (λ k=>k=x) w (w.setCell ⟨x,off,none⟩ v):=(Upd.refl (λ k=>k=x) w).setCell (p:=⟨x,off,none⟩) (.inl rfl) v
 refine ⟨G,⟨puts,a1,a2.frame hu λ k hk e=>(d x hx).2 (e ▸ hk),a3⟩,b,λ k hk=>⟨Nat.lt_of_lt_of_le (d k hk).1 hu.size,(d k hk).2⟩,e.setCell hl v⟩
def SBk (w:World) (sb rb ti tl:Nat):Prop:=w.heap[sb]?=some (.cells #[.pointer (some ⟨rb,0,none⟩),.pointer (some ⟨ti,0,none⟩),.pointer (some ⟨tl,0,none⟩)] 112 (0,0))/\TB w ti rb 0/\TB w tl rb 1
def KC (K:Nat->Prop) (sb ti tl:Nat):Nat->Prop:=λ k=>K k\/k=sb\/k=ti\/k=tl
def CSt (w1 w:World) (K:Nat->Prop) (sb rb ti tl n m:Nat) (S:RS):Prop:=RSt w1 w (KC K sb ti tl) rb n m S/\SBk w sb rb ti tl
def CGo (w1 w0 w:World) (K:Nat->Prop) (sb rb ti tl n m:Nat) (S:RS):Prop:=CSt w1 w K sb rb ti tl n m S/\zbX K w0 w
section
variable {w1 w w' w0:World} {K K':Nat->Prop} {sb rb ti tl n m m':Nat} {S S':RS}
theorem KC.sub (hK:∀ k,K' k->K k):∀ k,KC K' sb ti tl k->KC K sb ti tl k:=λ k hk=>hk.imp (hK k) id
theorem SBk.keep (h:SBk w sb rb ti tl) (hk:zbX (KC K sb ti tl) w w'):SBk w' sb rb ti tl :=
 ⟨(hk sb (.inr (.inl rfl))).trans h.1,hk.tb h.2.1 (.inr (.inr (.inl rfl))),hk.tb h.2.2 (.inr (.inr (.inr rfl)))⟩
theorem CSt.of (h:CSt w1 w K sb rb ti tl n m S) (h1:RSt w1 w' (KC K sb ti tl) rb n m' S') (hk:zbX (KC K sb ti tl) w w'):CSt w1 w' K sb rb ti tl n m' S'/\zbX K w w' :=
 ⟨⟨h1,h.2.keep hk⟩,hk.mono λ k hk=>.inl hk⟩
theorem CSt.mono (h:CSt w1 w K sb rb ti tl n m S) (hK:∀ k,K' k->K k):CSt w1 w K' sb rb ti tl n m S:=⟨h.1.mono (KC.sub hK),h.2⟩
theorem CSt.more (h:CSt w1 w K sb rb ti tl n m S) (hm:m<=m'):CSt w1 w K sb rb ti tl n m' S:=⟨h.1.more hm,h.2⟩
theorem CSt.belowK (h:CSt w1 w K sb rb ti tl n m S) (hb:Below w.heap.size w w'):CSt w1 w' (λ k=>K k\/(w.heap.size<=k/\k<w'.heap.size)) sb rb ti tl n m S/\zbX K w w':=by
 obtain ⟨h1,h2⟩:=h.1.below hb
 refine ⟨⟨h1.mono λ k hk=>?_,h.2.keep h2⟩,h2.mono λ k hk=>.inl hk⟩
 rcases hk with (hk|hk)|hk
 ·exact .inl (.inl hk)
 ·exact .inr hk
 ·exact .inl (.inr hk)
theorem CSt.below (h:CSt w1 w K sb rb ti tl n m S) (hb:Below w.heap.size w w'):CSt w1 w' K sb rb ti tl n m S:=(h.belowK hb).1.mono λ k hk=>.inl hk
theorem CSt.keep (h:CSt w1 w K sb rb ti tl n m S) (hb:Below w.heap.size w w'):zbX K w w':=(h.belowK hb).2
theorem CSt.new (h:CSt w1 w K sb rb ti tl n m S) (hb:Below w.heap.size w w') (x:Nat) (h1:w.heap.size<=x) (h2:x<w'.heap.size):CSt w1 w' (λ k=>K k\/k=x) sb rb ti tl n m S :=
 (h.belowK hb).1.mono λ k hk=>hk.imp id λ hk=>by omega
theorem CSt.klt (h:CSt w1 w K sb rb ti tl n m S) {k:Nat} (hk:K k):k<w.heap.size:=by
 obtain ⟨⟨G,h1,h2,h3,h4⟩,-⟩:=h
 exact (h3 k (.inl hk)).1
theorem CSt.bel (h:CSt w1 w K sb rb ti tl n m S):Below w1.heap.size w1 w:=h.1.bel
theorem CSt.set (h:CSt w1 w K sb rb ti tl n m S) {x:Nat} (hx:K x) (hl:w1.heap.size<=x) (hn:x≠sb/\x≠ti/\x≠tl) (off:Nat) (v:Value):CSt w1 (w.setCell ⟨x,off,none⟩ v) K sb rb ti tl n m S:=by
 have e:∀ y,y≠x->(w.setCell ⟨x,off,none⟩ v).heap[y]?=w.heap[y]?:=λ y hy=>zae _ hy
 exact ⟨h.1.setC (.inl hx) hl off v,(e sb hn.1.symm).trans h.2.1,(e ti hn.2.1.symm).trans h.2.2.1,(e tl hn.2.2.symm).trans h.2.2.2⟩
theorem CSt.sbk (h:CSt w1 w K sb rb ti tl n m S):sb<w.heap.size/\ti<w.heap.size/\tl<w.heap.size:=⟨zab h.2.1,zab h.2.2.1,zab h.2.2.2⟩
theorem CGo.below (h:CGo w1 w0 w K sb rb ti tl n m S) (hb:Below w.heap.size w w'):CGo w1 w0 w' K sb rb ti tl n m S:=⟨h.1.below hb,h.2.trans (h.1.keep hb)⟩
theorem SBk.cells (h:SBk w sb rb ti tl):w.cell? ⟨sb,0,none⟩=some (.pointer (some ⟨rb,0,none⟩))/\w.cell? ⟨sb,1,none⟩=some (.pointer (some ⟨ti,0,none⟩))/\w.cell? ⟨sb,2,none⟩=some (.pointer (some ⟨tl,0,none⟩)) :=
 ⟨zaa h.1 rfl,zaa h.1 rfl,zaa h.1 rfl⟩
theorem zmv {o:Option TT} {C:List Ck} (id:ByteArray) (h:Hid (CGo w1 w0 w K sb rb ti tl n m S)) (ho:Hid (zaY S 0 o/\zh0 (zbh o) C/\zeP o<=19)) (hm:m<=3900000) :
 Calls Tryz.prog 115 #[.pointer (some ⟨ti,0,none⟩),.string id] w λ e w'=>∃ v ok,e=.returned (.tuple #[.string v,.bool ok,.int .i64 0])/\((∃ c,cAt C id=some c/\c.Ok/\ok=true/\v=c.val)\/(cAt C id=none/\ok=false))/\Hid (CGo w1 w0 w' K sb rb ti tl n m S):=by
 obtain ⟨h1,h2,h3⟩:=ho.out
 refine (zsE w1 w _ ti rb 0 n m S o id h.out.1.1 h.out.1.2.2.1 (.inr (.inr (.inl rfl))) h1 (by decide) hm h3).mono ?_
 rintro e w' ⟨v,ok,rfl,g,hE⟩
 have:=h.out.1.of hE.out.1 hE.out.2
 exact ⟨v,ok,rfl,h2.got (zqf h1) g,Hd ⟨this.1,h.out.2.trans this.2⟩⟩
theorem zr9 (c:Ck) (hc:c.Ok) (h:Hid (CGo w1 w0 w K sb rb ti tl n m S)):Calls Tryz.prog 88 #[.string ⟨#[104,98,110]⟩,.string c.val] w λ e w'=>∃ g k,w.heap.size<=g/\e=.returned (.tuple #[.slice (some ⟨g,0,none⟩) 3 k,.bool true])/\(w'.cell? ⟨g,0,none⟩=some (.int .u64 (c.page:Int))/\w'.cell? ⟨g,2,none⟩=some (.int .u64 (c.text.size:Int))/\w'.cell? ⟨g,4,none⟩=some (.int .u64 (zcG c.cnt:Int)))/\Hid (CGo w1 w0 w' K sb rb ti tl n m S):=by
 have RC:=ziV zhZ c.val w (by decide) (by have:=Ck.val_size c;omega)
 rw [Ck.read hc] at RC
 refine RC.mono ?_
 intro e w' hp
 obtain ⟨v,rfl,ho,hbl⟩:=hp
 rcases ho.2 with ⟨rfl,h0⟩|⟨g,cap,cur,rfl,hbg,-⟩
 ·exact absurd h0 (by simp [Ck.flds])
 ·refine ⟨g,cap,hbg,rfl,?_,h.out.below hbl⟩
  have c:=λ i (hi:i<6)=>ho.cellAt i (by simpa [Ck.flds] using hi)
  exact ⟨c 0 (by decide),c 2 (by decide),c 4 (by decide)⟩
end
theorem zjU {W:World} {g:Nat} {a b c:Value} {t:TypeId} {fr:Nat × Nat} (h:W.heap[g]?=some (.cells #[a,b,c] t fr)):W.cell? ⟨g,0,none⟩=some a/\W.cell? ⟨g,1,none⟩=some b/\W.cell? ⟨g,2,none⟩=some c :=
 ⟨zaa h rfl,zaa h rfl,zaa h rfl⟩
theorem zmw {W:World} {x g i:Nat} (h:g≠x) (v0 v1 v2:Value):((((W.setCell ⟨x,0,none⟩ v0).setCell ⟨x,1,none⟩ v1).setCell ⟨x,2,none⟩ v2).drew).cell? ⟨g,i,none⟩=W.cell? ⟨g,i,none⟩:=by
 refine zCb ?_
 rw [zen,zae _ h,zae _ h,zae _ h]
theorem CSt.fin {w1 w w0 W:World} {K:Nat->Prop} {sb rb ti tl n m m':Nat} {S S':RS} (h:CSt w1 w K sb rb ti tl n m S) (H:CGo w1 w0 W (λ k=>K k\/k=w.heap.size) sb rb ti tl n m' S') (hb:Below w.heap.size w w0) (v0 v1 v2:Value) :
 CGo w1 w (((W.setCell ⟨w.heap.size,0,none⟩ v0).setCell ⟨w.heap.size,1,none⟩ v1).setCell ⟨w.heap.size,2,none⟩ v2) K sb rb ti tl n m' S':=by
 have hl1:=h.bel.size
 have hsb:=h.sbk
 have hne:w.heap.size≠sb/\w.heap.size≠ti/\w.heap.size≠tl:=by omega
 refine ⟨(((H.1.set (.inr rfl) hl1 hne 0 v0).set (.inr rfl) hl1 hne 1 v1).set (.inr rfl) hl1 hne 2 v2).mono λ k hk=>.inl hk,λ k hk=>?_⟩
 have hl:=h.klt hk
 rw [zae _ (by omega),zae _ (by omega),zae _ (by omega),H.2 k (.inl hk),hb.block k hl]
theorem CGo.drew {w1 w0 W:World} {K:Nat->Prop} {sb rb ti tl n m:Nat} {S:RS} (h:CGo w1 w0 W K sb rb ti tl n m S):CGo w1 w0 W.drew K sb rb ti tl n m S:=h.below (zBr _ _).drew
def Ck.v (c:Ck):Value:=.agg #[.int .i64 (c.page:Int),.int .i64 (c.text.size:Int),.int .i64 c.cnt]
def ck0:Value:=.agg #[.int .i64 0,.int .i64 0,.int .i64 0]
section
variable (w1 w:World) (K:Nat->Prop) (sb rb ti tl n m:Nat) (S:RS) (o:Option TT) (C:List Ck) (id:ByteArray)
theorem zjV (h:CSt w1 w K sb rb ti tl n m S) (ho:Hid (zaY S 0 o/\zh0 (zbh o) C/\zeP o<=19)) (hm:m<=3900000) (hi:id.size<=96) (hf:cAt C id=none) :
 Calls Tryz.prog 62 #[.pointer (some ⟨sb,0,none⟩),.string id] w λ e w'=>e=.returned (.tuple #[ck0,.bool false,.int .i64 0])/\Hid (CGo w1 w w' K sb rb ti tl n m S):=by
 obtain ⟨w0,hw0⟩:=exE (w.alloc (.cells #[.int .i64 0,.int .i64 0,.int .i64 0] 124))
 have blk:Hid (w0.heap[w.heap.size]?=some (.cells #[.int .i64 0,.int .i64 0,.int .i64 0] 124 (0,0))):=Hd (by
  subst hw0;exact heap_alloc_new _ _)
 have HB0:Hid (Below w.heap.size w w0):=Hd (by subst hw0;exact (zBr w.heap.size w).alloc (zNr _) _)
 have G0:Hid (CGo w1 w0 w0 (λ k=>K k\/k=w.heap.size) sb rb ti tl n m S):=Hd ⟨h.new HB0.out _ (zNr _) (zab blk.out),λ _ _=>rfl⟩
 have GT:=zmv id G0 ho hm
 obtain ⟨s0,s1,s2⟩:=G0.out.1.2.cells
 have HH:=Hd h
 have HF:=Hd hf
 have hi':¬id.size > 96:=by omega
 clear h hf hm hi ho
 go_enter Tryz.func62,Tryz.ntmps62
 go_wp2_with fail
 refine GT.mono ?_
 rintro e w2 ⟨v,ok,rfl,hv,G2⟩
 obtain rfl:ok=false:=by
  rcases hv with ⟨c,hc,-⟩|⟨-,rfl⟩
  ·rw [HF.out] at hc;cases hc
  ·rfl
 have hb2:w2.heap[w.heap.size]?=some (.cells #[.int .i64 0,.int .i64 0,.int .i64 0] 124 (0,0)):=(G2.out.2 _ (.inr rfl)).trans blk.out
 obtain ⟨c0,c1,c2⟩:=zjU hb2
 have f0:∀ i,w2.frozen? ⟨w.heap.size,i,none⟩=false:=λ i=>zad hb2 i
 clear hb2 GT hv
 go_wp2_with fail
 refine bodyPost_ret (v:=.tuple #[ck0,.bool false,.int .i64 0]) (by simp [results,Tryz.results62,go_sem,c0,c1,c2,f0,ck0]) rfl ⟨rfl,Hd (HH.out.fin G2.out HB0.out _ _ _)⟩
theorem zh2 (h:CSt w1 w K sb rb ti tl n m S) (ho:Hid (zaY S 0 o/\zh0 (zbh o) C/\zeP o<=19)) (hm:m<=3900000) (hi:id.size<=96) (c:Ck) (hf:cAt C id=some c) :
 Calls Tryz.prog 62 #[.pointer (some ⟨sb,0,none⟩),.string id] w λ e w'=>e=.returned (.tuple #[c.v,.bool true,.int .i64 0])/\Hid (CGo w1 w w' K sb rb ti tl n m S):=by
 obtain ⟨w0,hw0⟩:=exE (w.alloc (.cells #[.int .i64 0,.int .i64 0,.int .i64 0] 124))
 have blk:Hid (w0.heap[w.heap.size]?=some (.cells #[.int .i64 0,.int .i64 0,.int .i64 0] 124 (0,0))):=Hd (by
  subst hw0;exact heap_alloc_new _ _)
 have HB0:Hid (Below w.heap.size w w0):=Hd (by subst hw0;exact (zBr w.heap.size w).alloc (zNr _) _)
 have G0:Hid (CGo w1 w0 w0 (λ k=>K k\/k=w.heap.size) sb rb ti tl n m S):=Hd ⟨h.new HB0.out _ (zNr _) (zab blk.out),λ _ _=>rfl⟩
 have GT:=zmv id G0 ho hm
 obtain ⟨s0,s1,s2⟩:=G0.out.1.2.cells
 have HH:=Hd h
 have HF:=Hd hf
 have HO:Hid c.Ok:=Hd (ho.out.2.1.ok c (zaQ hf).1)
 have hi':¬id.size > 96:=by omega
 clear h hf hm hi ho
 go_enter Tryz.func62,Tryz.ntmps62
 go_wp2_with fail
 refine GT.mono ?_
 rintro e w2 ⟨v,ok,rfl,hv,G2⟩
 obtain ⟨rfl,rfl⟩:ok=true/\v=c.val:=by
  rcases hv with ⟨c',hc,-,h1,h2⟩|⟨hc,-⟩
  ·rw [HF.out] at hc;cases hc;exact ⟨h1,h2⟩
  ·rw [HF.out] at hc;cases hc
 have RD:=zr9 c HO.out G2
 clear GT hv
 go_wp2_with fail
 refine RD.mono ?_
 rintro e w3 ⟨g,k,hbg,rfl,⟨d0,d1,d2⟩,G3⟩
 have hb3:w3.heap[w.heap.size]?=some (.cells #[.int .i64 0,.int .i64 0,.int .i64 0] 124 (0,0)):=(G3.out.2 _ (.inr rfl)).trans blk.out
 obtain ⟨c0,c1,c2⟩:=zjU hb3
 have f0:∀ i,w3.frozen? ⟨w.heap.size,i,none⟩=false:=λ i=>zad hb3 i
 have hgx:g≠w.heap.size:=by
  have:=(G2.out.1.klt (.inr rfl):w.heap.size<w2.heap.size)
  omega
 have KP:=Hd (λ i v0 v1 v2=>zmw (W:=w3) (i:=i) hgx v0 v1 v2)
 have DD:Hid (w3.cell? ⟨g,0,none⟩=some (.int .u64 (c.page:Int))/\w3.cell? ⟨g,2,none⟩=some (.int .u64 (c.text.size:Int))/\w3.cell? ⟨g,4,none⟩=some (.int .u64 (zcG c.cnt:Int))):=Hd ⟨d0,d1,d2⟩
 clear RD G2 hb3 hbg hgx
 have k0:IntKind.i64.wrap (c.page:Int)=(c.page:Int):=by
  have:=HO.out.page
  simp [IntKind.wrap,IntKind.bits,IntKind.signed];omega
 have k1:IntKind.i64.wrap (c.text.size:Int)=(c.text.size:Int):=by
  have:=HO.out.t2
  simp [IntKind.wrap,IntKind.bits,IntKind.signed];omega
 have k2:IntKind.i64.wrap (zcG c.cnt:Int)=c.cnt:=zgp _ (by have:=HO.out.c1;omega) (by have:=HO.out.c2;omega)
 have HV:Hid (.agg #[.int .i64 (c.page:Int),.int .i64 (c.text.size:Int),.int .i64 c.cnt]=c.v):=Hd rfl
 generalize c.page=z0 at *
 generalize c.text.size=z1 at *
 generalize zcG c.cnt=z2 at *
 generalize c.cnt=z3 at *
 go_wp2_with fail
 go_region_held3 (λ w'=>w'.cell? ⟨g,0,none⟩=some (.int .u64 (z0:Int))/\w'.cell? ⟨g,2,none⟩=some (.int .u64 (z1:Int))/\w'.cell? ⟨g,4,none⟩=some (.int .u64 (z2:Int))) (first|(go_keep;done)|exact ⟨(KP.out 0 _ _ _).trans DD.out.1,(KP.out 2 _ _ _).trans DD.out.2.1,(KP.out 4 _ _ _).trans DD.out.2.2⟩) (fail)
 all_goals go_wp2_with fail
 all_goals (
  have hE:=Hd (CGo.drew (HH.out.fin G3.out HB0.out (.int .i64 (z0:Int)) (.int .i64 (z1:Int)) (.int .i64 z3)))
  refine bodyPost_ret (v:=.tuple #[.agg #[.int .i64 (z0:Int),.int .i64 (z1:Int),.int .i64 z3],.bool true,.int .i64 0]) (by simp [results,Tryz.results62,go_sem,c0,c1,c2,f0]) rfl ⟨?_,hE⟩
  rw [HV.out])
end
variable {bse:List (Int × ByteArray)}
def spc (N a:Nat):Nat:=if N=999 then 0 else 24*(N-a)
theorem zjW {N a b:Nat} (h:a<=b):spc N b<=spc N a:=by unfold spc;split <;> omega
theorem zkW {N:Nat} (h:N≠999) (a:Nat):spc N a=24*(N-a):=by unfold spc;rw [if_neg h]
theorem zmx (a:Nat):spc 999 a=0:=by unfold spc;rw [if_pos rfl]
def Chs (bse:List (Int × ByteArray)) (w1 w0 w:World) (K:Nat->Prop) (sb rb ti tl n N a:Nat) (C:List Ck) (L:List Lg) (nx:Nat) (X:List (Nat × ByteArray)):Prop :=
 ∃ S o0 o1,CGo w1 w0 w K sb rb ti tl n (300*a) S/\zcV S n (spc N a) o0 o1 a a X/\zh0 (zbh o0) C/\znp (zbh o1) L nx/\S.root 2=nx/\nx<=a/\S.base=bse
section
variable {w1 w w' w0 W:World} {K K':Nat->Prop} {sb rb ti tl n N a a' nx:Nat} {C:List Ck} {L:List Lg} {X:List (Nat × ByteArray)}
theorem Chs.below (h:Chs bse w1 w0 w K sb rb ti tl n N a C L nx X) (hb:Below w.heap.size w w'):Chs bse w1 w0 w' K sb rb ti tl n N a C L nx X:=by
 obtain ⟨S,o0,o1,h1,h2⟩:=h
 exact ⟨S,o0,o1,h1.below hb,h2⟩
theorem Chs.mono (h:Chs bse w1 w0 w K sb rb ti tl n N a C L nx X) (hK:∀ k,K' k->K k):Chs bse w1 w0 w K' sb rb ti tl n N a C L nx X:=by
 obtain ⟨S,o0,o1,h1,h2⟩:=h
 exact ⟨S,o0,o1,⟨h1.1.mono hK,h1.2.mono hK⟩,h2⟩
theorem Chs.bel (h:Chs bse w1 w0 w K sb rb ti tl n N a C L nx X):Below w1.heap.size w1 w:=by obtain ⟨S,o0,o1,h1,h2⟩:=h;exact h1.1.bel
theorem Chs.klt (h:Chs bse w1 w0 w K sb rb ti tl n N a C L nx X) {k:Nat} (hk:K k):k<w.heap.size:=by obtain ⟨S,o0,o1,h1,h2⟩:=h;exact h1.1.klt hk
theorem Chs.kept (h:Chs bse w1 w0 w K sb rb ti tl n N a C L nx X):zbX K w0 w:=by obtain ⟨S,o0,o1,h1,h2⟩:=h;exact h1.2
theorem Chs.sbk (h:Chs bse w1 w0 w K sb rb ti tl n N a C L nx X):SBk w sb rb ti tl:=by obtain ⟨S,o0,o1,h1,h2⟩:=h;exact h1.1.2
theorem Chs.to (h:Chs bse w1 w0 w K sb rb ti tl n N a C L nx X) (hk:zbX K W w0):Chs bse w1 W w K sb rb ti tl n N a C L nx X:=by
 obtain ⟨S,o0,o1,h1,h2⟩:=h
 exact ⟨S,o0,o1,⟨h1.1,hk.trans h1.2⟩,h2⟩
theorem Chs.new (h:Chs bse w1 w0 w K sb rb ti tl n N a C L nx X) (hb:Below w.heap.size w w') (x:Nat) (h1:w.heap.size<=x) (h2:x<w'.heap.size):Chs bse w1 w' w' (λ k=>K k\/k=x) sb rb ti tl n N a C L nx X:=by
 obtain ⟨S,o0,o1,h3,h4⟩:=h
 exact ⟨S,o0,o1,⟨h3.1.new hb x h1 h2,λ _ _=>rfl⟩,h4⟩
theorem Chs.keep (h:Chs bse w1 w0 w K sb rb ti tl n N a C L nx X) (hb:Below w.heap.size w w'):zbX K w w':=by obtain ⟨S,o0,o1,h1,h2⟩:=h;exact h1.1.keep hb
theorem Chs.ok (h:Chs bse w1 w0 w K sb rb ti tl n N a C L nx X):(∀ c∈C,c.Ok)/\zpg C/\(∀ e∈L,e.Ok/\e.n<nx)/\nx<=a:=by
 obtain ⟨S,o0,o1,h1,h2,h3,h4,h5,h6,h7⟩:=h
 exact ⟨h3.ok,h3.srt h2.srt0,h4.ok,h6⟩
theorem Chs.end_ (h:Chs bse w1 w0 w K sb rb ti tl n N a C L nx X) {C':List Ck} {L':List Lg} {nx':Nat} {X':List (Nat × ByteArray)} {w2:World} (g:Chs bse w1 w2 w' (λ k=>K k\/K' k) sb rb ti tl n N a' C' L' nx' X') (hb:Below w.heap.size w w2):Chs bse w1 w0 w' K sb rb ti tl n N a' C' L' nx' X':=by
 have:=g.mono (K':=K) λ k hk=>.inl hk
 exact (this.to (h.keep hb)).to h.kept
theorem zg4 (id:ByteArray) (h:Hid (Chs bse w1 w0 w K sb rb ti tl n N a C L nx X)) (hN:a<=N/\N<=1000) (hi:id.size<=96) (hf:cAt C id=none) :
 Calls Tryz.prog 62 #[.pointer (some ⟨sb,0,none⟩),.string id] w λ e w'=>e=.returned (.tuple #[ck0,.bool false,.int .i64 0])/\Hid (Chs bse w1 w0 w' K sb rb ti tl n N a C L nx X):=by
 obtain ⟨S,o0,o1,h1,h2,h3,h4⟩:=h.out
 refine (zjV w1 w K sb rb ti tl n (300*a) S o0 C id h1.1 (Hd ⟨h2.t0,h3,h2.hgt0 (by omega)⟩) (by omega) hi hf).mono ?_
 rintro e w' ⟨rfl,hE⟩
 exact ⟨rfl,Hd ⟨S,o0,o1,⟨hE.out.1,h1.2.trans hE.out.2⟩,h2,h3,h4⟩⟩
theorem zcW (id:ByteArray) (c:Ck) (h:Hid (Chs bse w1 w0 w K sb rb ti tl n N a C L nx X)) (hN:a<=N/\N<=1000) (hi:id.size<=96) (hf:cAt C id=some c) :
 Calls Tryz.prog 62 #[.pointer (some ⟨sb,0,none⟩),.string id] w λ e w'=>e=.returned (.tuple #[c.v,.bool true,.int .i64 0])/\Hid (Chs bse w1 w0 w' K sb rb ti tl n N a C L nx X):=by
 obtain ⟨S,o0,o1,h1,h2,h3,h4⟩:=h.out
 refine (zh2 w1 w K sb rb ti tl n (300*a) S o0 C id h1.1 (Hd ⟨h2.t0,h3,h2.hgt0 (by omega)⟩) (by omega) hi c hf).mono ?_
 rintro e w' ⟨rfl,hE⟩
 exact ⟨rfl,Hd ⟨S,o0,o1,⟨hE.out.1,h1.2.trans hE.out.2⟩,h2,h3,h4⟩⟩
theorem zmy (c:Ck) (hc:c.Ok) (h:Hid (Chs bse w1 w0 w K sb rb ti tl n N a C L nx X)) (hN:a<N/\N<=1000) (hW:N≠999:=by first|assumption|decide) :
 Calls Tryz.prog 71 #[.pointer (some ⟨ti,0,none⟩),.string c.id,.string c.val] w λ e w'=>e=.returned (.int .i64 0)/\Hid (∃ C',Chs bse w1 w0 w' K sb rb ti tl n N (a+1) C' L nx X/\zeC c C C'):=by
 obtain ⟨S,o0,o1,h1,h2,h3,h4,h5,h6,h7⟩:=h.out
 have hs0:=zkW hW a
 have hs1:=zkW hW (a+1)
 have hh:=zcU (k:=10) h2.t0 h2.w0 (by omega)
 refine (zrW w1 w _ ti rb 0 n (300*a) S o0 10 c.id c.val h1.1.1 h1.1.2.2.1 (.inr (.inr (.inl rfl))) h2.t0 (h2.sp.less (by omega)) (by decide) (by omega) (by have:=hc.id;omega) (Ck.val_size c) (by decide) hh).mono ?_
 rintro e w' ⟨rfl,hE⟩
 obtain ⟨S',o',x1,x2,g1,g2,g3,g4,g5,g6,g7,g8⟩:=hE.out
 obtain ⟨C',y1,y2⟩:=h3.ins hc g2
 have hg:=h1.1.of x1 x2
 have hr:S'.root 2=S.root 2:=g1.frm.root 2 (by decide)
 refine ⟨rfl,Hd ⟨C',⟨S',o',o1,⟨hg.1.more (by omega),h1.2.trans hg.2⟩,(h2.go0 (c':=spc N (a+1)) (b0:=a+1) g1 (g5 _ (h2.sp.less (by omega))) (by have:=h2.w0;omega)).less (zNr _) (zNr _) (by omega),y1,h4,hr.trans h5,by omega,g1.frm.base.trans h7⟩,y2⟩⟩
theorem zqv (e:Lg) (he:e.Ok) (hn:e.n=nx) (h:Hid (Chs bse w1 w0 w K sb rb ti tl n N a C L nx X)) (hN:a<N/\N<=1000) (hW:N≠999:=by first|assumption|decide) :
 Calls Tryz.prog 71 #[.pointer (some ⟨tl,0,none⟩),.string (zbY nx),.string e.val] w λ e' w'=>e'=.returned (.int .i64 0)/\Hid (∃ S o0 o1,CGo w1 w0 w' K sb rb ti tl n (300*a+100) S/\zcV S n (spc N (a+1)) o0 o1 (a+1) (a+1) X/\zh0 (zbh o0) C/\znp (zbh o1) (L++[e]) (nx+1)/\S.root 2=nx/\nx<=a/\S.base=bse):=by
 obtain ⟨S,o0,o1,h1,h2,h3,h4,h5,h6,h7⟩:=h.out
 have hs0:=zkW hW a
 have hs1:=zkW hW (a+1)
 have hh:=zcU (k:=10) h2.t1 h2.w1 (by omega)
 refine (zrW w1 w _ tl rb 1 n (300*a) S o1 10 (zbY nx) e.val h1.1.1 h1.1.2.2.2 (.inr (.inr (.inr rfl))) h2.t1 (h2.sp.less (by omega)) (by decide) (by omega) (by have:=zh1 nx;omega) (Lg.val_size he) (by decide) hh).mono ?_
 rintro e' w' ⟨rfl,hE⟩
 obtain ⟨S',o',x1,x2,g1,g2,g3,g4,g5,g6,g7,g8⟩:=hE.out
 have hg:=h1.1.of x1 x2
 have hr:S'.root 2=S.root 2:=g1.frm.root 2 (by decide)
 refine ⟨rfl,Hd ⟨S',o0,o',⟨hg.1,h1.2.trans hg.2⟩,(h2.go1 (c':=spc N (a+1)) (b1:=a+1) g1 (g5 _ (h2.sp.less (by omega))) (by have:=h2.w1;omega)).less (zNr _) (by omega) (zNr _),h3,h4.put hn he (by rw [hn];exact g2),hr.trans h5,h6,g1.frm.base.trans h7⟩⟩
theorem zqw (e:Lg) (h:Hid (Chs bse w1 w0 w K sb rb ti tl n N a C (e::L) nx X)) (hN:a<N/\N<=1000) :
 Calls Tryz.prog 74 #[.pointer (some ⟨tl,0,none⟩),.string (zbY e.n)] w λ e' w'=>e'=.returned (.tuple #[.bool true,.int .i64 0])/\Hid (Chs bse w1 w0 w' K sb rb ti tl n N (a+1) C L nx X):=by
 obtain ⟨S,o0,o1,h1,h2,h3,h4,h5,h6,h7⟩:=h.out
 have hs0:=zjW (N:=N) (Nat.le_succ a)
 have hh:=zcU (k:=10) h2.t1 h2.w1 (by omega)
 refine (zrX w1 w _ tl rb 1 n (300*a) S o1 (zbY e.n) h1.1.1 h1.1.2.2.2 (.inr (.inr (.inr rfl))) h2.t1 (by decide) (by omega) (by omega)).mono ?_
 rintro e' w' ⟨was,rfl,hE⟩
 obtain ⟨S',o',x1,x2,g1⟩:=hE.out
 rcases g1 with ⟨rfl,g1,g2,g3,g4,g5,g6⟩|⟨rfl,-,-,g3⟩
 ·have hg:=h1.1.of x1 x2
  have hr:S'.root 2=S.root 2:=g1.frm.root 2 (by decide)
  refine ⟨rfl,Hd ⟨S',o0,o',⟨hg.1.more (by omega),h1.2.trans hg.2⟩,(h2.go1 (c':=spc N (a+1)) (b1:=a+1) g1 (g4 _ (h2.sp.less (by omega))) (by have:=h2.w1;omega)).less (zNr _) (by omega) (zNr _),h3,h4.del h2.srt1 g2,hr.trans h5,by omega,g1.frm.base.trans h7⟩⟩
 ·exact absurd rfl (g3 (zpi e) (by rw [h4.eq];simp))
end
theorem zqx (x:UInt8):strOfNums [(x.toNat:Int)]=⟨#[x]⟩:=by
 apply ByteArray.ext
 simp [strOfNums]
theorem zjX (k:Nat) (hk:k<256) (W:World) (g:Nat) (h:W.cell? ⟨g,0,none⟩=some (.int .u8 (k:Int))):(convert 91 9 (.slice (some ⟨g,0,none⟩) 1 1)).run Tryz.prog W=.ok (.string ⟨#[UInt8.ofNat k]⟩) W:=by
 have hx:((UInt8.ofNat k).toNat:Int)=(k:Int):=by
  rw [UInt8.toNat_ofNat'];omega
 have:=run_convert_bytes_arg (P:=Tryz.prog) W 91 5 Tryz.underlying91 Tryz.underlying5 g 0 1 1 [((UInt8.ofNat k).toNat:Int)] rfl (λ i hi=>by
  obtain rfl:i=0:=by omega
  rw [hx]
  exact h) 9 Tryz.underlying9
 rwa [zqx] at this
theorem zpj (p:ByteArray) (k:Nat) (w:World) (hp:p.size<=100000) (hk:k<256):Calls Tryz.prog 64 #[.string p,.int .i64 (k:Int)] w λ e w'=>e=.returned (.string (zas p k))/\Hid (Below w.heap.size w w'):=by
 have k0:IntKind.u8.wrap (k:Int)=(k:Int):=by
  simp [IntKind.wrap,IntKind.bits,IntKind.signed];omega
 have HB:Hid (∀ o:Obj,Below w.heap.size w (w.alloc o)):=Hd λ o=>(zBr w.heap.size w).alloc (zNr _) o
 have cv:=zjX k hk (w.alloc (.cells #[.int .u8 (k:Int)] 5)) w.heap.size (zaa (heap_alloc_new _ _) rfl)
 obtain ⟨x,hx⟩:∃ x:ByteArray,(⟨#[UInt8.ofNat k]⟩:ByteArray)=x:=⟨_,rfl⟩
 have hxs:x.size=1:=by rw [<-hx];rfl
 have h1:(p.size+x.size > 9223372036854775807)=False:=by simp;omega
 have h2:¬(9223372036854775807<p.size+x.size):=by omega
 have HN:Hid (p++x=zas p k):=Hd (by rw [<-hx];rfl)
 rw [hx] at cv
 clear hp hk hx hxs
 go_enter Tryz.func64,Tryz.ntmps64
 go_wp2_with fail
 go_ret
 rw [HN.out]
 exact ⟨rfl,HB.out _⟩
theorem zmz (w1 w w0:World) (K:Nat->Prop) (sb rb ti tl n N a nx:Nat) (C:List Ck) (L:List Lg) (X:List (Nat × ByteArray)) (h:Hid (Chs bse w1 w0 w K sb rb ti tl n N a C L nx X)) :
 ∃ k:Nat,Calls Tryz.prog 61 #[.pointer (some ⟨sb,0,none⟩)] w λ e w'=>e=.returned (.int .i64 (k:Int))/\w=w':=by
 have MK:∃ k:Nat,Calls Tryz.prog 114 #[.pointer (some ⟨rb,0,none⟩)] w λ e w'=>e=.returned (.int .i64 (k:Int))/\w=w':=by
  obtain ⟨S,o0,o1,h1,-⟩:=h.out
  obtain ⟨G,⟨puts,x1,x2,x3⟩,-⟩:=h1.1.1
  exact ⟨_,zdR G rb n puts w x2⟩
 obtain ⟨k,MK⟩:=MK
 obtain ⟨s0,s1,s2⟩:=h.out.sbk.cells
 refine ⟨k,?_⟩
 go_enter Tryz.func61,Tryz.ntmps61
 go_wp2_with fail
 refine MK.mono ?_
 rintro e w2 ⟨rfl,rfl⟩
 go_wp2_with fail
 go_ret
 exact ⟨rfl,rfl⟩
variable {bse:List (Int × ByteArray)}
theorem zsa {W:World} {g:Nat} {a0 a1 a2:Nat} {s0 s1 s2:ByteArray} (h:W.heap[g]?=some (.cells #[.int .u64 (a0:Int),.string s0,.int .u64 (a1:Int),.string s1,.int .u64 (a2:Int),.string s2] 139 (0,0)))
 (hl:∀ p∈[(a0,s0),(a1,s1),(a2,s2)],p.1<18446744073709551616):zcj W (.slice (some ⟨g,0,none⟩) 3 3) [(a0,s0),(a1,s1),(a2,s2)]:=by
 refine ⟨⟨some ⟨g,0,none⟩,3,rfl,λ k hk=>⟨g,0,rfl,?_,?_,zab h⟩⟩,hl⟩
 ·have:k=0\/k=1\/k=2:=by simp at hk;omega
  rcases this with rfl|rfl|rfl <;> exact zaa h rfl
 ·have:k=0\/k=1\/k=2:=by simp at hk;omega
  rcases this with rfl|rfl|rfl <;> exact zaa h rfl
theorem zsb {W:World} {g:Nat} {a0 a1:Nat} {s0 s1:ByteArray} (h:W.heap[g]?=some (.cells #[.int .u64 (a0:Int),.string s0,.int .u64 (a1:Int),.string s1] 139 (0,0)))
 (hl:∀ p∈[(a0,s0),(a1,s1)],p.1<18446744073709551616):zcj W (.slice (some ⟨g,0,none⟩) 2 2) [(a0,s0),(a1,s1)]:=by
 refine ⟨⟨some ⟨g,0,none⟩,2,rfl,λ k hk=>⟨g,0,rfl,?_,?_,zab h⟩⟩,hl⟩
 ·have:k=0\/k=1:=by simp at hk;omega
  rcases this with rfl|rfl <;> exact zaa h rfl
 ·have:k=0\/k=1:=by simp at hk;omega
  rcases this with rfl|rfl <;> exact zaa h rfl
theorem zsc {W:World} {g:Nat} {a0:Nat} {s0:ByteArray} (h:W.heap[g]?=some (.cells #[.int .u64 (a0:Int),.string s0] 139 (0,0)))
 (hl:a0<18446744073709551616):zcj W (.slice (some ⟨g,0,none⟩) 1 1) [(a0,s0)]:=by
 refine ⟨⟨some ⟨g,0,none⟩,1,rfl,λ k hk=>⟨g,0,rfl,?_,?_,zab h⟩⟩,λ p hp=>?_⟩
 ·have:k=0:=by simp at hk;omega
  subst this;exact zaa h rfl
 ·have:k=0:=by simp at hk;omega
  subst this;exact zaa h rfl
 ·simp at hp;subst hp;exact hl
theorem zqy (c:Ck) (hc:c.Ok) (W:World) (g:Nat) (hg:W.heap[g]?=some (.cells #[.int .u64 (c.page:Int),.string ⟨#[]⟩,.int .u64 (c.text.size:Int),.string ⟨#[]⟩,.int .u64 (zcG c.cnt:Int),.string ⟨#[]⟩] 139 (0,0))) :
 Calls Tryz.prog 70 #[.string ⟨#[104,98,110]⟩,.slice (some ⟨g,0,none⟩) 3 3] W λ e w'=>e=.returned (.tuple #[.string c.val,.bool true])/\Hid (Below W.heap.size W w'):=by
 have hv:zcj W (.slice (some ⟨g,0,none⟩) 3 3) c.flds:=zsa hg (by
  have h1:=hc.page
  have h2:=hc.t2
  have h3:=zg3 c.cnt
  intro p hp
  simp only [List.mem_cons,List.not_mem_nil,or_false] at hp
  rcases hp with rfl|rfl|rfl <;> simp only <;> omega)
 have WC:=ziT zhZ (.slice (some ⟨g,0,none⟩) 3 3) c.flds W (by decide) hv λ p hp=>by
  simp only [Ck.flds,List.mem_cons,List.not_mem_nil,or_false] at hp
  rcases hp with rfl|rfl|rfl <;> exact zNz _
 rw [Ck.write hc] at WC
 refine WC.mono ?_
 rintro e w' ⟨rfl,h⟩
 exact ⟨rfl,h⟩
variable {bse:List (Int × ByteArray)}
theorem zol {E:List (ByteArray × ByteArray)} (hs:Srt E) (f tt:ByteArray) (ht:tt.size≠0) :
 ((zd5 tt 1 (zbi f E) []).1.length=0/\∀ e∈E,zah e.1 f=false->zah e.1 tt=false)\/((zd5 tt 1 (zbi f E) []).1.length=1/\¬∀ e∈E,zah e.1 f=false->zah e.1 tt=false):=by
 have hF:Srt (zbi f E):=hs.filter _
 have hm:∀ e,e∈zbi f E ↔ e∈E/\zah e.1 f=false:=λ e=>by unfold zbi;simp
 generalize zbi f E=F at *
 cases F with
 | nil =>
   refine .inl ⟨rfl,λ e he hk=>?_⟩
   exact absurd ((hm e).2 ⟨he,hk⟩) (by simp)
 | cons x r =>
   have hx:=(hm x).1 (by simp)
   cases hk:zah x.1 tt with
   | false =>
     refine .inl ⟨by rw [zaZ,if_pos (.inr ⟨ht,hk⟩)];rfl,λ e he hf=>?_⟩
     rcases List.mem_cons.1 ((hm e).2 ⟨he,hf⟩) with rfl|h1
     ·exact hk
     ·have h2:=(List.pairwise_cons.1 hF).1 e h1
      cases h3:zah e.1 tt with
      | false=>rfl
      | true=>rw [za9 h2 h3] at hk;cases hk
   | true =>
     refine .inr ⟨?_,λ h=>?_⟩
     ·rw [zaZ,if_neg (by
        rintro (h|⟨-,h⟩)
        ·simp at h
        ·rw [hk] at h;cases h)]
      cases r with
      | nil=>rfl
      | cons y r=>rw [zaZ,if_pos (.inl rfl)];rfl
     ·rw [h x hx.1 hx.2] at hk;cases hk
def NoC (C:List Ck) (f t:ByteArray):Prop:=∀ c∈C,zah c.id f=false->zah c.id t=false
section
variable (w1 w w0:World) (K:Nat->Prop) (sb rb ti tl n N a nx:Nat) (C:List Ck) (L:List Lg) (X:List (Nat × ByteArray))
theorem zqz (f tt:ByteArray) (ht:tt.size≠0) (h:Hid (Chs bse w1 w0 w K sb rb ti tl n N a C L nx X)) (hN:a<=N/\N<=1000) (hC:C.length<=1000000) :
 Calls Tryz.prog 87 #[.pointer (some ⟨ti,0,none⟩),.string f,.string tt,.int .i64 1] w λ e w'=>∃ v k j,e=.returned (.tuple #[.slice v j k,.int .i64 0])/\((j=0/\NoC C f tt)\/(j=1/\¬NoC C f tt))/\Hid (Chs bse w1 w0 w' K sb rb ti tl n N a C L nx X):=by
 obtain ⟨S,o0,o1,h1,h2,h3,h4⟩:=h.out
 have hl:(zbh o0).length=C.length:=by rw [h3.eq,zLm]
 refine (zmf w1 w _ ti rb 0 n (300*a) S o0 f tt 1 h1.1.1 h1.1.2.2.1 (.inr (.inr (.inl rfl))) h2.t0 (by decide) (by omega) (by have:=h2.hgt0 (by omega);omega) (by omega) (by decide) (by decide)).mono ?_
 rintro e w' ⟨v,rfl,hE⟩
 have hv:=hE.out.1
 have hg:=h1.1.of (hE.out.2.1.mono λ k hk=>.inl hk) hE.out.2.2
 have HR:Hid (Chs bse w1 w0 w' K sb rb ti tl n N a C L nx X):=Hd ⟨S,o0,o1,⟨hg.1,h1.2.trans hg.2⟩,h2,h3,h4⟩
 have hj:((zd5 tt 1 (zbi f (zbh o0)) []).1.length=0/\NoC C f tt)\/((zd5 tt 1 (zbi f (zbh o0)) []).1.length=1/\¬NoC C f tt):=by
  have hq:(∀ e∈zbh o0,zah e.1 f=false->zah e.1 tt=false) ↔ NoC C f tt:=by
   rw [h3.eq]
   exact ⟨λ hh c hc=>hh (zil c) (List.mem_map.2 ⟨c,hc,rfl⟩),λ hh e he=>by
    obtain ⟨c,hc,rfl⟩:=List.mem_map.1 he
    exact hh c hc⟩
  have:=zol h2.srt0 f tt ht
  rwa [hq] at this
 generalize (zd5 tt 1 (zbi f (zbh o0)) []).1=R at *
 rcases hv.2 with ⟨rfl,h0⟩|⟨g,cap,cur,rfl,-⟩
 ·have:R.length=0:=by
   first|exact h0|simpa using h0|(have:=h0;omega)
  exact ⟨none,0,0,rfl,by rwa [this] at hj,HR⟩
 ·exact ⟨_,_,_,rfl,hj,HR⟩
def ffB:ByteArray:=⟨#[255,255]⟩
theorem zsd (p:ByteArray) (k:Nat) (hp:p.size<=1000) (hk:k<256) (h:Hid (Chs bse w1 w0 w K sb rb ti tl n N a C L nx X)) (hN:a<=N/\N<=1000) (hC:C.length<=1000000) :
 Calls Tryz.prog 65 #[.pointer (some ⟨sb,0,none⟩),.string p,.int .i64 (k:Int)] w λ e w'=>∃ b:Bool,e=.returned (.tuple #[.bool b,.int .i64 0])/\(b=true ↔ NoC C (zas p k) (p++ffB))/\Hid (Chs bse w1 w0 w' K sb rb ti tl n N a C L nx X):=by
 have NM:Hid (∀ W,Hid (Chs bse w1 w0 W K sb rb ti tl n N a C L nx X)->Calls Tryz.prog 64 #[.string p,.int .i64 (k:Int)] W λ e w'=>e=.returned (.string (zas p k))/\w'.cell? ⟨sb,1,none⟩=some (.pointer (some ⟨ti,0,none⟩))/\Hid (Chs bse w1 w0 w' K sb rb ti tl n N a C L nx X)):=Hd λ W hW=>by
  refine (zpj p k W (by omega) hk).mono ?_
  rintro e w' ⟨rfl,hb⟩
  have:=hW.out.below hb.out
  exact ⟨rfl,this.sbk.cells.2.1,Hd this⟩
 obtain ⟨nm,hnm⟩:=exE (zas p k)
 obtain ⟨tt,htt⟩:=exE (p++ffB)
 have ht:tt.size≠0:=by rw [<-htt,ByteArray.size_append];show p.size+2≠0;omega
 have SC:Hid (∀ W,Hid (Chs bse w1 w0 W K sb rb ti tl n N a C L nx X)->Calls Tryz.prog 87 #[.pointer (some ⟨ti,0,none⟩),.string nm,.string tt,.int .i64 1] W λ e w'=>∃ v k j,e=.returned (.tuple #[.slice v j k,.int .i64 0])/\((j=0/\NoC C nm tt)\/(j=1/\¬NoC C nm tt))/\w'.cell? ⟨sb,1,none⟩=some (.pointer (some ⟨ti,0,none⟩))/\Hid (Chs bse w1 w0 w' K sb rb ti tl n N a C L nx X)):=Hd λ W hW=>by
  refine (zqz w1 W w0 K sb rb ti tl n N a nx C L X nm tt ht hW hN hC).mono ?_
  rintro e w' ⟨v,k,j,rfl,hj,hE⟩
  exact ⟨v,k,j,rfl,hj,hE.out.sbk.cells.2.1,hE⟩
 have ap:p++(⟨#[255,255]⟩:ByteArray)=tt:=htt
 have h1:(p.size+(⟨#[255,255]⟩:ByteArray).size > 9223372036854775807)=False:=by
  show (p.size+2 > 9223372036854775807)=False
  simp;omega
 have h2:(p.size+2 > 9223372036854775807)=False:=by simp;omega
 have h3:¬9223372036854775807<p.size+2:=by omega
 obtain ⟨s0,s1,s2⟩:=h.out.sbk.cells
 rw [hnm] at NM ⊢
 rw [htt]
 have HD:Hid (Chs bse w1 w0 w.drew K sb rb ti tl n N a C L nx X):=Hd (h.out.below (zBr _ _).drew)
 clear hp hN hC ht htt hnm hk
 go_enter Tryz.func65,Tryz.ntmps65
 go_wp2_with fail
 go_region_held3 (λ w'=>w'.cell? ⟨sb,1,none⟩=some (.pointer (some ⟨ti,0,none⟩))) (go_keep) ((first
  | (go_at_call 64
     refine Calls.at_args (NM.out _ HD) (by with_reducible rfl) ?_
     rintro e w3 ⟨rfl,hk3,G3⟩)
  | (go_at_call 87
     refine Calls.at_args (SC.out _ G3) (by with_reducible rfl) ?_
     rintro e w4 ⟨v,kk,j,rfl,hj,hk4,G4⟩)))
 all_goals (
  rcases hj with ⟨rfl,hj⟩|⟨rfl,hj⟩
  all_goals (
   go_wp2_with fail
   go_ret2
   first
    | exact ⟨true,rfl,by simp [hj],G4⟩
    | exact ⟨false,rfl,by simp [hj],G4⟩))
end
variable {bse:List (Int × ByteArray)}
section
variable (w1 w w0:World) (K:Nat->Prop) (sb rb ti tl n N a nx:Nat) (C:List Ck) (L:List Lg) (X:List (Nat × ByteArray))
theorem zjY (p:Nat) (s:ByteArray) (hx:(p,s)∈X) (hs:s.size<=128) (h:Hid (Chs bse w1 w0 w K sb rb ti tl n N a C L nx X)) (hN:a<=N/\N<=1000) :
 Calls Tryz.prog 66 #[.pointer (some ⟨rb,0,none⟩),.int .i64 (p:Int)] w λ e w'=>e=.returned (.tuple #[.string s,.int .i64 0])/\Hid (Chs bse w1 w0 w' K sb rb ti tl n N a C L nx X):=by
 have H:=h.out
 obtain ⟨S,o0,o1,h1,h2,h3,h4⟩:=H
 obtain ⟨G,x1,-⟩:=h1.1.1
 have hp:=h2.pg _ hx
 refine (zsH G rb n (300*a) S p s w x1 (by omega) hs hp.1 hp.2).mono ?_
 rintro e w' ⟨rfl,hb⟩
 exact ⟨rfl,Hd (h.out.below hb.out)⟩
theorem zom (s:ByteArray) (hs:s.size<=128) (h:Hid (Chs bse w1 w0 w K sb rb ti tl n N a C L nx X)) (hN:a<N/\N<=1000) (hW:N≠999:=by first|assumption|decide) :
 Calls Tryz.prog 67 #[.pointer (some ⟨rb,0,none⟩),.string s] w λ e w'=>∃ p:Nat,e=.returned (.tuple #[.int .i64 (p:Int),.int .i64 0])/\Hid (p<65536/\Chs bse w1 w0 w' K sb rb ti tl n N (a+1) C L nx ((p,s)::X)):=by
 obtain ⟨S,o0,o1,h1,h2,h3,h4,h5,h6,h7⟩:=h.out
 have hs0:=zkW hW a
 have hs1:=zkW hW (a+1)
 obtain ⟨G,x1,x2,x3,x4⟩:=h1.1.1
 have hbd:=x1.bounds
 have hf:∃ q,q<zaf n/\S.used q=false:=by
  obtain ⟨U,u1,u2⟩:=h2.sp
  obtain ⟨q,q1,q2⟩:=zjz (zaf n) U (by omega)
  refine ⟨q,q1,?_⟩
  cases hq:S.used q with
  | false=>rfl
  | true=>exact absurd (u1 q hq) q2
 refine (zr4 G rb n (300*a) S s w x1 (by omega) hs hf).mono ?_
 rintro e w' ⟨p,rfl,hE⟩
 obtain ⟨e1,e2,e3⟩:=hE.out
 have hg:=RSt.of x2 x3 x4 e3
 have hh:=h1.1.of hg.1 hg.2
 have ht:=(h2.less (c':=spc N (a+1)+1) (b0:=a+1) (b1:=a+1) (by omega) (by omega) (by omega)).blob (s:=s) e2
 exact ⟨p,rfl,Hd ⟨by unfold zaf at e1;omega,zga S p s,o0,o1,⟨hh.1.more (by omega),h1.2.trans hh.2⟩,ht,h3,h4,h5,by omega,h7⟩⟩
theorem zsM (h:Hid (Chs bse w1 w0 w K sb rb ti tl n N a C L nx X)) (hN:a<=N/\N<=1000) :
 Calls Tryz.prog 69 #[.pointer (some ⟨rb,0,none⟩),.int .i64 2] w λ e w'=>e=.returned (.tuple #[.int .u64 (nx:Int),.int .i64 0])/\Hid (Chs bse w1 w0 w' K sb rb ti tl n N a C L nx X):=by
 have H:=h.out
 obtain ⟨S,o0,o1,h1,h2,h3,h4,h5,h6⟩:=H
 obtain ⟨G,⟨puts,y1,y2,y3⟩,-⟩:=h1.1.1
 have RC:=zoX G rb n puts S 2 w y2 y3 (by omega) (by decide)
 rw [h5] at RC
 refine RC.mono ?_
 rintro e w' ⟨rfl,hb⟩
 exact ⟨rfl,Hd (h.out.below hb)⟩
def zqA (bse:List (Int × ByteArray)) (w1 w0 w:World) (K:Nat->Prop) (sb rb ti tl n N a:Nat) (C:List Ck) (L:List Lg) (nx:Nat) (X:List (Nat × ByteArray)):Prop :=
 ∃ S o0 o1,CGo w1 w0 w K sb rb ti tl n (300*a+100) S/\zcV S n (spc N (a+1)) o0 o1 (a+1) (a+1) X/\zh0 (zbh o0) C/\znp (zbh o1) L (nx+1)/\S.root 2=nx/\nx<=a/\S.base=bse
theorem zqA.sbk (h:zqA bse w1 w0 w K sb rb ti tl n N a C L nx X):SBk w sb rb ti tl:=by obtain ⟨S,o0,o1,h1,h2⟩:=h;exact h1.1.2
theorem zmA (h:Hid (zqA bse w1 w0 w K sb rb ti tl n N a C L nx X)) (hN:a<N/\N<=1000) :
 Calls Tryz.prog 72 #[.pointer (some ⟨rb,0,none⟩),.int .i64 2,.int .u64 ((nx:Int)+1)] w λ e w'=>e=.returned (.int .i64 0)/\Hid (Chs bse w1 w0 w' K sb rb ti tl n N (a+1) C L (nx+1) X):=by
 obtain ⟨S,o0,o1,h1,h2,h3,h4,h5,h6,h7⟩:=h.out
 obtain ⟨G,⟨puts,y1,y2,y3⟩,x2,x3,x4⟩:=h1.1.1
 refine (zhr G rb n puts S 2 (nx+1) w y2 y3 (by omega) (by decide) (by omega)).mono ?_
 rintro e w' ⟨rfl,hE⟩
 have hg:=RSt.of x2 x3 x4 (zb1.of_room hE.out y1)
 have hh:=h1.1.of hg.1 hg.2
 have hr:(zay S 2 (nx+1)).root 2=nx+1:=by
  show upd S.root 2 (nx+1) 2=nx+1
  unfold upd;rw [if_pos rfl]
 exact ⟨rfl,Hd ⟨_,o0,o1,⟨hh.1.more (by omega),h1.2.trans hh.2⟩,(h2.root (zNr 2)).less (by omega) (zNr _) (zNr _),h3,h4,hr,by omega,h7⟩⟩
theorem ziX (id:ByteArray) (c:Ck) (h:Hid (Chs bse w1 w0 w K sb rb ti tl n N a C L nx X)) (hN:a<=N/\N<=1000) (hi:id.size<=96) (hf:cAt C id=some c) (hx:(c.page,c.text)∈X) :
 Calls Tryz.prog 29 #[.pointer (some ⟨sb,0,none⟩),.string id] w λ e w'=>e=.returned (.tuple #[.string c.text,.int .i64 0])/\Hid (Chs bse w1 w0 w' K sb rb ti tl n N a C L nx X):=by
 have FN:=zcW id c h hN hi hf
 rw [show c.v=.agg #[.int .i64 (c.page:Int),.int .i64 (c.text.size:Int),.int .i64 c.cnt] from rfl] at FN
 have BG:Hid (∀ W W0 x,Hid (W0.heap[x]?=some (.cells #[.int .i64 (c.page:Int),.int .i64 (c.text.size:Int),.int .i64 c.cnt] 124 (0,0))/\Chs bse w1 W0 W (λ k=>K k\/k=x) sb rb ti tl n N a C L nx X)->Calls Tryz.prog 66 #[.pointer (some ⟨rb,0,none⟩),.int .i64 (c.page:Int)] W λ e w'=>e=.returned (.tuple #[.string c.text,.int .i64 0])/\(w'.cell? ⟨sb,0,none⟩=some (.pointer (some ⟨rb,0,none⟩))/\w'.cell? ⟨x,0,none⟩=some (.int .i64 (c.page:Int)))/\Hid (Chs bse w1 W0 w' (λ k=>K k\/k=x) sb rb ti tl n N a C L nx X)):=Hd λ W W0 x hW=>by
  refine (zjY w1 W W0 _ sb rb ti tl n N a nx C L X c.page c.text hx (h.out.ok.1 c (zaQ hf).1).t2 (Hd hW.out.2) hN).mono ?_
  rintro e w' ⟨rfl,hE⟩
  exact ⟨rfl,⟨hE.out.sbk.cells.1,zaa ((hE.out.kept x (.inr rfl)).trans hW.out.1) rfl⟩,hE⟩
 clear h hN hi hf hx
 generalize c.page=z0 at *
 generalize c.text=tx at *
 generalize (tx.size:Int)=z1 at *
 generalize c.cnt=z2 at *
 go_enter Tryz.func29,Tryz.ntmps29
 go_wp2_with fail
 refine FN.mono ?_
 rintro e w2 ⟨rfl,G2⟩
 obtain ⟨s0,s1,s2⟩:=G2.out.sbk.cells
 have lsb:sb<w2.heap.size:=zab G2.out.sbk.1
 have HB:Hid (∀ o,Below w2.heap.size w2 (w2.alloc o)):=Hd λ o=>(zBr _ _).alloc (zNr _) _
 have G3:Hid (∀ o,Chs bse w1 (w2.alloc o) (w2.alloc o).drew (λ k=>K k\/k=w2.heap.size) sb rb ti tl n N a C L nx X):=Hd λ o=>(G2.out.new (HB.out o) w2.heap.size (zNr _) (by simp)).below (zBr _ _).drew
 go_wp2_with fail
 go_region_held3 (λ w'=>w'.cell? ⟨sb,0,none⟩=some (.pointer (some ⟨rb,0,none⟩))/\w'.cell? ⟨w2.heap.size,0,none⟩=some (.int .i64 (z0:Int))) (go_keep) ((first
  | (go_at_call 66
     refine Calls.at_args (BG.out _ _ _ (Hd ⟨heap_alloc_new _ _,G3.out _⟩)) (by with_reducible rfl) ?_
     rintro e w4 ⟨rfl,hk4,G4⟩)))
 all_goals (
  go_wp2_with fail
  go_ret2
  exact ⟨rfl,Hd (G2.out.end_ (K':=λ k=>k=w2.heap.size) G4.out (HB.out _))⟩)
end
variable {bse:List (Int × ByteArray)}
theorem zqB (G:Nat->Prop) (rb n m:Nat) (S:RS) (s:ByteArray) (w:World) (h:RmS w G rb n m S) (hm:m<=3900000) (hs:s.size<=128) (hfull:∀ q,q<zaf n->S.used q=true) :
 Calls Tryz.prog 118 #[.pointer (some ⟨rb,0,none⟩),.string s] w λ e w'=>e=.returned (.tuple #[.int .i64 0,.int .i64 4])/\Hid (Below w.heap.size w w'):=by
 have PG:=zhR s.size w (by omega)
 have AL:Calls Tryz.prog 44 #[.pointer (some ⟨rb,0,none⟩)] w λ e w'=>e=.returned (.tuple #[.int .i64 0,.int .i64 4])/\Hid (Below w.heap.size w w'):=by
  obtain ⟨puts,a,b,c⟩:=h
  exact zgl G rb n puts S w b c (by omega) hfull
 clear h hm hfull hs
 go_enter Tryz.func118,Tryz.ntmps118
 go_wp2_with fail
 refine PG.mono ?_
 rintro e w0 ⟨rfl,rfl⟩
 clear PG
 go_wp2_with fail
 refine wp_loop_rounds 1 ?_
 rw [rounds_succ]
 go_wp2_with fail
 refine AL.mono ?_
 rintro e w1 ⟨rfl,H1⟩
 clear AL
 go_wp2_with fail
 go_ret2
 exact ⟨rfl,H1⟩
theorem zse (G:Nat->Prop) (rb n m:Nat) (S:RS) (s:ByteArray) (w:World) (h:RmS w G rb n m S) (hm:m<=3900000) (hs:s.size<=128) (hfull:∀ q,q<zaf n->S.used q=true) :
 Calls Tryz.prog 67 #[.pointer (some ⟨rb,0,none⟩),.string s] w λ e w'=>e=.returned (.tuple #[.int .i64 0,.int .i64 4])/\Hid (zb1 w w' G rb n m S):=by
 have PT:=zqB G rb n m S s w h hm hs hfull
 obtain ⟨puts,h1,h2,h3⟩:=h
 have MK:=zdR G rb n puts w h2
 have BK:Hid (∀ W,Below w.heap.size w W->Calls Tryz.prog 119 #[.pointer (some ⟨rb,0,none⟩),.int .i64 (puts.length:Int)] W λ e w'=>e=.returned (.tuple #[])/\Hid (zb1 w w' G rb n m S)):=Hd λ W hW=>by
  refine (ziN G rb n puts [] W (by rw [List.append_nil];exact h2.below hW) (by rw [List.append_nil];omega)).mono ?_
  rintro e w' ⟨rfl,hE⟩
  obtain ⟨G',a,b⟩:=hE.out
  exact ⟨rfl,Hd ⟨G',⟨puts,h1,a,h3⟩,b.below_left hW⟩⟩
 have l1:¬(131072:Int)<(s.size:Int):=by omega
 generalize (puts.length:Int)=pl at *
 clear h1 h2 h3 hm hs hfull
 go_enter Tryz.func67,Tryz.ntmps67
 go_wp2_with fail
 refine MK.mono ?_
 rintro e w1 ⟨rfl,rfl⟩
 go_wp2_with fail
 refine PT.mono ?_
 rintro e w2 ⟨rfl,H2⟩
 have B2:=BK.out w2 H2.out
 clear PT MK
 go_wp2_with fail
 refine B2.mono ?_
 rintro e w3 ⟨rfl,H3⟩
 clear B2 H2
 go_wp2_with fail
 go_ret2
 exact ⟨rfl,H3⟩
theorem Ck.val_len (c:Ck):c.val.size=(⟨ByteArray.empty,0,0,ByteArray.empty⟩:Ck).val.size:=by
 rw [Lib.size_eq,Lib.size_eq]
 show c.bytes.length=(⟨ByteArray.empty,0,0,ByteArray.empty⟩:Ck).bytes.length
 simp only [Ck.bytes,zLa,zaV]
section
variable {w1 w w' w0 W:World} {K K':Nat->Prop} {sb rb ti tl n N a a' nx:Nat} {C:List Ck} {L:List Lg} {X:List (Nat × ByteArray)}
theorem CGo.lim {m:Nat} {S:RS} (h:CGo w1 w0 w K sb rb ti tl n m S):∀ p,S.used p=true->p<zaf n:=by
 obtain ⟨⟨⟨G,⟨puts,x1,x2,x3⟩,-⟩,-⟩,-⟩:=h
 exact x3.lim
theorem zon (c c0:Ck) (hc:c.Ok) (hf:cAt C c.id=some c0) (h:Hid (Chs bse w1 w0 w K sb rb ti tl n 999 a C L nx X)) (hN:a<999) :
 Calls Tryz.prog 71 #[.pointer (some ⟨ti,0,none⟩),.string c.id,.string c.val] w λ e w'=>e=.returned (.int .i64 0)/\Hid (∃ C',Chs bse w1 w0 w' K sb rb ti tl n 999 (a+1) C' L nx X/\zeC c C C'):=by
 obtain ⟨S,o0,o1,h1,h2,h3,h4,h5,h6,h7⟩:=h.out
 have hh:=zcU (k:=10) h2.t0 h2.w0 (by omega)
 have hit:∃ v,(c.id,v)∈zbh o0/\v.size=c.val.size:=by
  obtain ⟨hm,hid⟩:=zaQ hf
  refine ⟨c0.val,?_,by rw [Ck.val_len c,Ck.val_len c0]⟩
  rw [h3.eq,<-hid]
  exact List.mem_map.2 ⟨c0,hm,rfl⟩
 refine (zrY w1 w _ ti rb 0 n (300*a) S o0 c.id c.val h1.1.1 h1.1.2.2.1 (.inr (.inr (.inl rfl))) h2.t0 hit (by decide) (by omega) (by have:=hc.id;omega) (Ck.val_size c) (by omega)).mono ?_
 rintro e w' ⟨rfl,hE⟩
 obtain ⟨S',o',x1,x2,g1,g2,g3,g4,g5,g6,g7,g8⟩:=hE.out
 obtain ⟨C',y1,y2⟩:=h3.ins hc g2
 have hg:=h1.1.of x1 x2
 have hr:S'.root 2=S.root 2:=g1.frm.root 2 (by decide)
 have hz:zaR S' n (spc 999 (a+1)):=by rw [zmx];exact zeT (CGo.lim ⟨hg.1,hg.2⟩)
 exact ⟨rfl,Hd ⟨C',⟨S',o',o1,⟨hg.1.more (by omega),h1.2.trans hg.2⟩,(h2.go0 (c':=spc 999 (a+1)) (b0:=a+1) g1 hz (by have:=h2.w0;omega)).less (zNr _) (zNr _) (by omega),y1,h4,hr.trans h5,by omega,g1.frm.base.trans h7⟩,y2⟩⟩
theorem zoo (c:Ck) (hc:c.Ok) (h:Hid (Chs bse w1 w0 w K sb rb ti tl n 999 a C L nx X)) (hN:a<999) :
 Calls Tryz.prog 71 #[.pointer (some ⟨ti,0,none⟩),.string c.id,.string c.val] w λ e w'=>∃ er:Int,e=.returned (.int .i64 er)/\Hid ((er=0/\∃ C',Chs bse w1 w0 w' K sb rb ti tl n 999 (a+1) C' L nx X/\zeC c C C')\/(er=4/\Chs bse w1 w0 w' K sb rb ti tl n 999 a C L nx X)):=by
 obtain ⟨S,o0,o1,h1,h2,h3,h4,h5,h6,h7⟩:=h.out
 have hh:=zcU (k:=10) h2.t0 h2.w0 (by omega)
 refine (zpb w1 w _ ti rb 0 n (300*a) S o0 c.id c.val h1.1.1 h1.1.2.2.1 (.inr (.inr (.inl rfl))) h2.t0 (by decide) (by omega) (by have:=hc.id;omega) (Ck.val_size c) (by omega)).mono ?_
 rintro e w' (⟨rfl,hE⟩|⟨rfl,hE⟩)
 ·obtain ⟨S',o',x1,x2,g1,g2,g3,g4,g5,g6,g7,g8⟩:=hE.out
  obtain ⟨C',y1,y2⟩:=h3.ins hc g2
  have hg:=h1.1.of x1 x2
  have hr:S'.root 2=S.root 2:=g1.frm.root 2 (by decide)
  have hz:zaR S' n (spc 999 (a+1)):=by rw [zmx];exact zeT (CGo.lim ⟨hg.1,hg.2⟩)
  exact ⟨_,rfl,Hd (.inl ⟨rfl,C',⟨S',o',o1,⟨hg.1.more (by omega),h1.2.trans hg.2⟩,(h2.go0 (c':=spc 999 (a+1)) (b0:=a+1) g1 hz (by have:=h2.w0;omega)).less (zNr _) (zNr _) (by omega),y1,h4,hr.trans h5,by omega,g1.frm.base.trans h7⟩,y2⟩)⟩
 ·have hg:=h1.1.of hE.out.1 hE.out.2
  exact ⟨_,rfl,Hd (.inr ⟨rfl,S,o0,o1,⟨hg.1,h1.2.trans hg.2⟩,h2,h3,h4,h5,h6,h7⟩)⟩
theorem zop (e:Lg) (he:e.Ok) (hn:e.n=nx) (h:Hid (Chs bse w1 w0 w K sb rb ti tl n 999 a C L nx X)) (hN:a<999) :
 Calls Tryz.prog 71 #[.pointer (some ⟨tl,0,none⟩),.string (zbY nx),.string e.val] w λ e' w'=>∃ er:Int,e'=.returned (.int .i64 er)/\Hid ((er=0/\zqA bse w1 w0 w' K sb rb ti tl n 999 a C (L++[e]) nx X)\/(er=4/\Chs bse w1 w0 w' K sb rb ti tl n 999 a C L nx X)):=by
 obtain ⟨S,o0,o1,h1,h2,h3,h4,h5,h6,h7⟩:=h.out
 have hh:=zcU (k:=10) h2.t1 h2.w1 (by omega)
 refine (zpb w1 w _ tl rb 1 n (300*a) S o1 (zbY nx) e.val h1.1.1 h1.1.2.2.2 (.inr (.inr (.inr rfl))) h2.t1 (by decide) (by omega) (by have:=zh1 nx;omega) (Lg.val_size he) (by omega)).mono ?_
 rintro e' w' (⟨rfl,hE⟩|⟨rfl,hE⟩)
 ·obtain ⟨S',o',x1,x2,g1,g2,g3,g4,g5,g6,g7,g8⟩:=hE.out
  have hg:=h1.1.of x1 x2
  have hr:S'.root 2=S.root 2:=g1.frm.root 2 (by decide)
  have hz:zaR S' n (spc 999 (a+1)):=by rw [zmx];exact zeT (CGo.lim ⟨hg.1,hg.2⟩)
  exact ⟨_,rfl,Hd (.inl ⟨rfl,S',o0,o',⟨hg.1,h1.2.trans hg.2⟩,(h2.go1 (c':=spc 999 (a+1)) (b1:=a+1) g1 hz (by have:=h2.w1;omega)).less (zNr _) (by omega) (zNr _),h3,h4.put hn he (by rw [hn];exact g2),hr.trans h5,h6,g1.frm.base.trans h7⟩)⟩
 ·have hg:=h1.1.of hE.out.1 hE.out.2
  exact ⟨_,rfl,Hd (.inr ⟨rfl,S,o0,o1,⟨hg.1,h1.2.trans hg.2⟩,h2,h3,h4,h5,h6,h7⟩)⟩
theorem zmB (s:ByteArray) (hs:s.size<=128) (h:Hid (Chs bse w1 w0 w K sb rb ti tl n 999 a C L nx X)) (hN:a<999) :
 Calls Tryz.prog 67 #[.pointer (some ⟨rb,0,none⟩),.string s] w λ e w'=>∃ (p:Nat) (er:Int),e=.returned (.tuple #[.int .i64 (p:Int),.int .i64 er])/\Hid ((er=0/\p<65536/\Chs bse w1 w0 w' K sb rb ti tl n 999 (a+1) C L nx ((p,s)::X))\/(er=4/\Chs bse w1 w0 w' K sb rb ti tl n 999 a C L nx X)):=by
 obtain ⟨S,o0,o1,h1,h2,h3,h4,h5,h6,h7⟩:=h.out
 obtain ⟨G,x1,x2,x3,x4⟩:=h1.1.1
 have hbd:=x1.bounds
 by_cases hf:∃ q,q<zaf n/\S.used q=false
 ·refine (zr4 G rb n (300*a) S s w x1 (by omega) hs hf).mono ?_
  rintro e w' ⟨p,rfl,hE⟩
  obtain ⟨e1,e2,e3⟩:=hE.out
  have hg:=RSt.of x2 x3 x4 e3
  have hh:=h1.1.of hg.1 hg.2
  have hsp:zaR S n (0+1):=zhP h1.lim hf
  have h2':zcV S n (0+1) o0 o1 a a X:=⟨h2.t0,h2.t1,hsp,h2.w0,h2.w1,h2.pg,h2.nd,h2.al⟩
  have ht:=(h2'.less (c':=0+1) (b0:=a+1) (b1:=a+1) (zNr _) (by omega) (by omega)).blob (s:=s) e2
  rw [<-zmx (a+1)] at ht
  exact ⟨p,0,rfl,Hd (.inl ⟨rfl,by unfold zaf at e1;omega,zga S p s,o0,o1,⟨hh.1.more (by omega),h1.2.trans hh.2⟩,ht,h3,h4,h5,by omega,h7⟩)⟩
 ·refine (zse G rb n (300*a) S s w x1 (by omega) hs λ q hq=>?_).mono ?_
  ·cases hu:S.used q with
   | true=>rfl
   | false=>exact absurd ⟨q,hq,hu⟩ hf
  ·rintro e w' ⟨rfl,hE⟩
   have hg:=RSt.of x2 x3 x4 hE.out
   have hh:=h1.1.of hg.1 hg.2
   exact ⟨0,4,rfl,Hd (.inr ⟨rfl,S,o0,o1,⟨hh.1,h1.2.trans hh.2⟩,h2,h3,h4,h5,h6,h7⟩)⟩
theorem zmC (s:ByteArray) (hs:s.size<=128) (h:Hid (Chs bse w1 w0 w K sb rb ti tl n N a C L nx X)) (hN:a<N/\N<=1000) :
 Calls Tryz.prog 67 #[.pointer (some ⟨rb,0,none⟩),.string s] w λ e w'=>∃ (p:Nat) (er:Int),e=.returned (.tuple #[.int .i64 (p:Int),.int .i64 er])/\Hid ((er=0/\p<65536/\Chs bse w1 w0 w' K sb rb ti tl n N (a+1) C L nx ((p,s)::X))\/(er=4/\N=999/\Chs bse w1 w0 w' K sb rb ti tl n N a C L nx X)):=by
 by_cases hW:N=999
 ·subst hW
  refine (zmB s hs h hN.1).mono ?_
  rintro e w' ⟨p,er,rfl,hE⟩
  exact ⟨p,er,rfl,Hd (hE.out.imp id λ h=>⟨h.1,rfl,h.2⟩)⟩
 ·refine (zom w1 w w0 K sb rb ti tl n N a nx C L X s hs h hN hW).mono ?_
  rintro e w' ⟨p,rfl,hE⟩
  exact ⟨p,0,rfl,Hd (.inl ⟨rfl,hE.out⟩)⟩
theorem zoq (e:Lg) (he:e.Ok) (hn:e.n=nx) (h:Hid (Chs bse w1 w0 w K sb rb ti tl n N a C L nx X)) (hN:a<N/\N<=1000) :
 Calls Tryz.prog 71 #[.pointer (some ⟨tl,0,none⟩),.string (zbY nx),.string e.val] w λ e' w'=>∃ er:Int,e'=.returned (.int .i64 er)/\Hid ((er=0/\zqA bse w1 w0 w' K sb rb ti tl n N a C (L++[e]) nx X)\/(er=4/\N=999/\Chs bse w1 w0 w' K sb rb ti tl n N a C L nx X)):=by
 by_cases hW:N=999
 ·subst hW
  refine (zop e he hn h hN.1).mono ?_
  rintro e w' ⟨er,rfl,hE⟩
  exact ⟨er,rfl,Hd (hE.out.imp id λ h=>⟨h.1,rfl,h.2⟩)⟩
 ·refine (zqv e he hn h hN hW).mono ?_
  rintro e w' ⟨rfl,hE⟩
  exact ⟨0,rfl,Hd (.inl ⟨rfl,hE.out⟩)⟩
end
variable {bse:List (Int × ByteArray)}
section
variable {w1 w w0:World} {K:Nat->Prop} {sb rb ti tl n N a nx:Nat} {C:List Ck} {L:List Lg} {X:List (Nat × ByteArray)}
theorem zfu (c:Ck) (hc:c.Ok) (h:Hid (Chs bse w1 w0 w K sb rb ti tl n N a C L nx X)) (Q:Int->World->Prop) (PT:Hid (∀ W,Hid (Chs bse w1 w0 W K sb rb ti tl n N a C L nx X)->Calls Tryz.prog 71 #[.pointer (some ⟨ti,0,none⟩),.string c.id,.string c.val] W λ e w'=>∃ er,e=.returned (.int .i64 er)/\Hid (Q er w'))) :
 Calls Tryz.prog 68 #[.pointer (some ⟨sb,0,none⟩),.string c.id,c.v] w λ e w'=>∃ er,e=.returned (.int .i64 er)/\Hid (Q er w'):=by
 obtain ⟨wb,hwb⟩:=exE (w.alloc (.cells #[.int .i64 (c.page:Int),.int .i64 (c.text.size:Int),.int .i64 c.cnt] 124))
 have blk:wb.heap[w.heap.size]?=some (.cells #[.int .i64 (c.page:Int),.int .i64 (c.text.size:Int),.int .i64 c.cnt] 124 (0,0)):=by
  subst hwb;exact heap_alloc_new _ _
 have HB0:Hid (Below w.heap.size w wb):=Hd (by subst hwb;exact (zBr w.heap.size w).alloc (zNr _) _)
 have G0:Hid (Chs bse w1 w0 wb K sb rb ti tl n N a C L nx X):=Hd (h.out.below HB0.out)
 obtain ⟨d0,d1,d2⟩:=zjU blk
 have WR:Hid (∀ W g,Below wb.heap.size wb W->W.heap[g]?=some (.cells #[.int .u64 (c.page:Int),.string ⟨#[]⟩,.int .u64 (c.text.size:Int),.string ⟨#[]⟩,.int .u64 (zcG c.cnt:Int),.string ⟨#[]⟩] 139 (0,0))->Calls Tryz.prog 70 #[.string ⟨#[104,98,110]⟩,.slice (some ⟨g,0,none⟩) 3 3] W λ e w'=>e=.returned (.tuple #[.string c.val,.bool true])/\Hid (SBk w' sb rb ti tl/\Chs bse w1 w0 w' K sb rb ti tl n N a C L nx X)):=Hd λ W g hW hg=>by
  refine (zqy c hc W g hg).mono ?_
  rintro e w' ⟨rfl,hb⟩
  have:=G0.out.below (hW.trans (hb.out.mono hW.size))
  exact ⟨rfl,Hd ⟨this.sbk,this⟩⟩
 have k0:IntKind.u64.wrap (c.page:Int)=(c.page:Int):=zcs (by have:=hc.page;omega)
 have k1:IntKind.u64.wrap (c.text.size:Int)=(c.text.size:Int):=zcs (by have:=hc.t2;omega)
 have k2:IntKind.u64.wrap c.cnt=(zcG c.cnt:Int):=zkU _
 show Calls Tryz.prog 68 #[.pointer (some ⟨sb,0,none⟩),.string c.id,.agg #[.int .i64 (c.page:Int),.int .i64 (c.text.size:Int),.int .i64 c.cnt]] w _
 clear hc h blk
 generalize c.page=z0 at *
 generalize c.text.size=z1 at *
 generalize zcG c.cnt=z2 at *
 generalize c.cnt=z3 at *
 generalize c.val=vl at *
 generalize c.id=id at *
 go_enter Tryz.func68,Tryz.ntmps68
 go_wp2_with fail
 refine (WR.out _ _ ((zBr _ _).alloc (zNr _) _) (heap_alloc_new _ _)).mono ?_
 rintro e w3 ⟨rfl,G3⟩
 have G4:Hid (Chs bse w1 w0 w3 K sb rb ti tl n N a C L nx X):=Hd G3.out.2
 obtain ⟨s0,s1,s2⟩:=G3.out.1.cells
 have PTw:=PT.out w3 G4
 clear WR G3
 go_wp2_with fail
 refine PTw.mono ?_
 rintro e w4 ⟨er,rfl,G5⟩
 go_wp2_with fail
 go_ret
 exact ⟨er,rfl,G5⟩
theorem zsf (c c0:Ck) (hc:c.Ok) (hf:cAt C c.id=some c0) (h:Hid (Chs bse w1 w0 w K sb rb ti tl n 999 a C L nx X)) (hN:a<999) :
 Calls Tryz.prog 68 #[.pointer (some ⟨sb,0,none⟩),.string c.id,c.v] w λ e w'=>e=.returned (.int .i64 0)/\Hid (∃ C',Chs bse w1 w0 w' K sb rb ti tl n 999 (a+1) C' L nx X/\zeC c C C'):=by
 refine (zfu c hc h (λ er w'=>er=0/\∃ C',Chs bse w1 w0 w' K sb rb ti tl n 999 (a+1) C' L nx X/\zeC c C C') (Hd λ W hW=>?_)).mono ?_
 ·refine (zon c c0 hc hf hW hN).mono ?_
  rintro e w' ⟨rfl,hE⟩
  exact ⟨0,rfl,Hd ⟨rfl,hE.out⟩⟩
 ·rintro e w' ⟨er,rfl,hE⟩
  obtain ⟨rfl,h2⟩:=hE.out
  exact ⟨rfl,Hd h2⟩
theorem zh3 (c c0:Ck) (hc:c.Ok) (hf:cAt C c.id=some c0) (h:Hid (Chs bse w1 w0 w K sb rb ti tl n N a C L nx X)) (hN:a<N/\N<=1000) :
 Calls Tryz.prog 68 #[.pointer (some ⟨sb,0,none⟩),.string c.id,c.v] w λ e w'=>e=.returned (.int .i64 0)/\Hid (∃ C',Chs bse w1 w0 w' K sb rb ti tl n N (a+1) C' L nx X/\zeC c C C'):=by
 by_cases hW:N=999
 ·subst hW
  exact zsf c c0 hc hf h hN.1
 ·refine (zfu c hc h (λ er w'=>er=0/\∃ C',Chs bse w1 w0 w' K sb rb ti tl n N (a+1) C' L nx X/\zeC c C C') (Hd λ W hW2=>?_)).mono ?_
  ·refine (zmy c hc hW2 hN hW).mono ?_
   rintro e w' ⟨rfl,hE⟩
   exact ⟨0,rfl,Hd ⟨rfl,hE.out⟩⟩
  ·rintro e w' ⟨er,rfl,hE⟩
   obtain ⟨rfl,h2⟩:=hE.out
   exact ⟨rfl,Hd h2⟩
theorem zsg (c:Ck) (hc:c.Ok) (h:Hid (Chs bse w1 w0 w K sb rb ti tl n 999 a C L nx X)) (hN:a<999) :
 Calls Tryz.prog 68 #[.pointer (some ⟨sb,0,none⟩),.string c.id,c.v] w λ e w'=>∃ er:Int,e=.returned (.int .i64 er)/\Hid ((er=0/\∃ C',Chs bse w1 w0 w' K sb rb ti tl n 999 (a+1) C' L nx X/\zeC c C C')\/(er=4/\Chs bse w1 w0 w' K sb rb ti tl n 999 a C L nx X)) :=
 zfu c hc h (λ er w'=>(er=0/\∃ C',Chs bse w1 w0 w' K sb rb ti tl n 999 (a+1) C' L nx X/\zeC c C C')\/(er=4/\Chs bse w1 w0 w' K sb rb ti tl n 999 a C L nx X)) (Hd λ W hW=>zoo c hc hW hN)
theorem zsh (c:Ck) (hc:c.Ok) (h:Hid (Chs bse w1 w0 w K sb rb ti tl n N a C L nx X)) (hN:a<N/\N<=1000) :
 Calls Tryz.prog 68 #[.pointer (some ⟨sb,0,none⟩),.string c.id,c.v] w λ e w'=>∃ er:Int,e=.returned (.int .i64 er)/\Hid ((er=0/\∃ C',Chs bse w1 w0 w' K sb rb ti tl n N (a+1) C' L nx X/\zeC c C C')\/(er=4/\N=999/\Chs bse w1 w0 w' K sb rb ti tl n N a C L nx X)):=by
 by_cases hW:N=999
 ·subst hW
  refine (zsg c hc h hN.1).mono ?_
  rintro e w' ⟨er,rfl,hE⟩
  exact ⟨er,rfl,Hd (hE.out.imp id λ h=>⟨h.1,rfl,h.2⟩)⟩
 ·refine (zfu c hc h (λ er w'=>er=0/\∃ C',Chs bse w1 w0 w' K sb rb ti tl n N (a+1) C' L nx X/\zeC c C C') (Hd λ W hW2=>?_)).mono ?_
  ·refine (zmy c hc hW2 hN hW).mono ?_
   rintro e w' ⟨rfl,hE⟩
   exact ⟨0,rfl,Hd ⟨rfl,hE.out⟩⟩
  ·rintro e w' ⟨er,rfl,hE⟩
   exact ⟨er,rfl,Hd (.inl hE.out)⟩
end
variable {bse:List (Int × ByteArray)}
theorem zev (sb eb:Nat) (k:Int) (u:FrameMode) (w:World) (he:w.cell? ⟨eb,0,none⟩=some (.int .i64 0)) :
 CallsD Tryz.prog 60 #[.pointer (some ⟨sb,0,none⟩),.int .i64 k,.pointer (some ⟨eb,0,none⟩)] u w λ e u' w'=>u'=u/\(e=.returned (.tuple #[])/\w'=w):=by
 go_enter_d Tryz.func60,Tryz.ntmps60
 go_wp2
 go_end0
 exact ⟨rfl,rfl⟩
structure ChE (bse:List (Int × ByteArray)) (w1 wA:World) (x:Nat) (er:Int) (w:World) (K:Nat->Prop) (sb rb ti tl n N a:Nat) (C:List Ck) (L:List Lg) (nx:Nat) (X:List (Nat × ByteArray)):Prop where
 st:Chs bse w1 w w (λ k=>K k\/k=x) sb rb ti tl n N a C L nx X
 kp:zbX K wA w
 bx:w.heap[x]?=some (.cells #[.int .i64 er] 34 (0,0))
 lo:w1.heap.size<=x/\True
 ne:x≠sb/\x≠ti/\x≠tl
 nk:¬K x
theorem Chs.reset {w1 w0 w:World} {K:Nat->Prop} {sb rb ti tl n N a nx:Nat} {C:List Ck} {L:List Lg} {X:List (Nat × ByteArray)} (h:Chs bse w1 w0 w K sb rb ti tl n N a C L nx X):Chs bse w1 w w K sb rb ti tl n N a C L nx X:=by
 obtain ⟨S,o0,o1,h1,h2⟩:=h
 exact ⟨S,o0,o1,⟨h1.1,λ _ _=>rfl⟩,h2⟩
section
variable {w1 wA w w' w0:World} {x:Nat} {er:Int} {K:Nat->Prop} {sb rb ti tl n N a a' nx nx':Nat} {C C':List Ck} {L L':List Lg} {X X':List (Nat × ByteArray)}
theorem ChE.start (h:Chs bse w1 w0 w K sb rb ti tl n N a C L nx X):ChE bse w1 w w.heap.size 0 (w.alloc (.cells #[.int .i64 0] 34)) K sb rb ti tl n N a C L nx X:=by
 have hb:Below w.heap.size w (w.alloc (.cells #[.int .i64 0] 34)):=(zBr w.heap.size w).alloc (zNr _) _
 have hs:=h.sbk
 have h1:=zab hs.1
 have h2:=zab hs.2.1
 have h3:=zab hs.2.2
 refine ⟨h.new hb w.heap.size (zNr _) (by simp),h.keep hb,heap_alloc_new _ _,⟨h.bel.size,trivial⟩,by omega,λ hk=>?_⟩
 have:=h.klt hk
 omega
theorem ChE.step (h:ChE bse w1 wA x er w K sb rb ti tl n N a C L nx X) (g:Chs bse w1 w w' (λ k=>K k\/k=x) sb rb ti tl n N a' C' L' nx' X'):ChE bse w1 wA x er w' K sb rb ti tl n N a' C' L' nx' X' :=
 ⟨g.reset,h.kp.trans (g.kept.mono λ k hk=>.inl hk),(g.kept x (.inr rfl)).trans h.bx,h.lo,h.ne,h.nk⟩
theorem ChE.below (h:ChE bse w1 wA x er w K sb rb ti tl n N a C L nx X) (hb:Below w.heap.size w w'):ChE bse w1 wA x er w' K sb rb ti tl n N a C L nx X:=h.step (h.st.below hb)
theorem ChE.set (h:ChE bse w1 wA x er w K sb rb ti tl n N a C L nx X) (e2:Int):ChE bse w1 wA x e2 (w.setCell ⟨x,0,none⟩ (.int .i64 e2)) K sb rb ti tl n N a C L nx X:=by
 obtain ⟨S,o0,o1,h1,h2⟩:=h.st
 refine ⟨⟨S,o0,o1,⟨h1.1.set (.inr rfl) h.lo.1 h.ne 0 _,λ _ _=>rfl⟩,h2⟩,λ k hk=>?_,zac h.bx _,h.lo,h.ne,h.nk⟩
 have hne:k≠x:=λ e=>h.nk (by rw [<-e];exact hk)
 rw [zae _ hne,h.kp k hk]
theorem ChE.new (h:ChE bse w1 wA x er w K sb rb ti tl n N a C L nx X) (o:Obj):ChE bse w1 (w.alloc o) x er (w.alloc o) (λ k=>K k\/k=w.heap.size) sb rb ti tl n N a C L nx X:=by
 have hb:Below w.heap.size w (w.alloc o):=(zBr w.heap.size w).alloc (zNr _) _
 have hl:=zab h.bx
 refine ⟨((h.st.new hb w.heap.size (zNr _) (by simp))).mono λ k hk=>?_,λ _ _=>rfl,(hb.block x hl).trans h.bx,h.lo,h.ne,?_⟩
 ·rcases hk with (hk|hk)|hk
  ·exact .inl (.inl hk)
  ·exact .inr hk
  ·exact .inl (.inr hk)
 ·rintro (hk|hk)
  ·exact h.nk hk
  ·omega
theorem ChE.old {K2:Nat->Prop} {o:Obj} {er2:Int} (h:ChE bse w1 wA x er w K sb rb ti tl n N a C L nx X) (g:ChE bse w1 (w.alloc o) x er2 w' (λ k=>K k\/K2 k) sb rb ti tl n N a' C' L' nx' X'):ChE bse w1 wA x er2 w' K sb rb ti tl n N a' C' L' nx' X':=by
 have hb:Below w.heap.size w (w.alloc o):=(zBr w.heap.size w).alloc (zNr _) _
 refine ⟨g.st.mono λ k hk=>?_,?_,g.bx,g.lo,g.ne,h.nk⟩
 ·rcases hk with hk|hk
  ·exact .inl (.inl hk)
  ·exact .inr hk
 ·exact (h.kp.trans ((h.st.keep hb).mono λ k hk=>.inl hk)).trans (g.kp.mono λ k hk=>.inl hk)
theorem ChE.cell (h:ChE bse w1 wA x er w K sb rb ti tl n N a C L nx X):w.cell? ⟨x,0,none⟩=some (.int .i64 er)/\w.frozen? ⟨x,0,none⟩=false/\x<w.heap.size:=⟨zaa h.bx rfl,zad h.bx 0,zab h.bx⟩
theorem ChE.end_ (h0:Chs bse w1 w0 wA K sb rb ti tl n N a C L nx X) (h:ChE bse w1 wA x er w K sb rb ti tl n N a' C' L' nx' X'):Chs bse w1 w0 w K sb rb ti tl n N a' C' L' nx' X' :=
 ((h.st.mono λ k hk=>.inl hk).to h.kp).to h0.kept
end
theorem zqC (nx:Nat) (hn:nx<1000000000) (W:World) (g:Nat) (hg:W.heap[g]?=some (.cells #[.int .u64 (nx:Int),.string ⟨#[]⟩] 139 (0,0))) :
 Calls Tryz.prog 70 #[.string ⟨#[110]⟩,.slice (some ⟨g,0,none⟩) 1 1] W λ e w'=>e=.returned (.tuple #[.string (zbY nx),.bool true])/\Hid (Below W.heap.size W w'):=by
 have hv:zcj W (.slice (some ⟨g,0,none⟩) 1 1) [(nx,⟨#[]⟩)]:=zsc hg (by omega)
 have WC:=ziT ⟨#[110]⟩ (.slice (some ⟨g,0,none⟩) 1 1) [(nx,⟨#[]⟩)] W (by decide) hv λ p hp=>by
  simp only [List.mem_cons,List.not_mem_nil,or_false] at hp
  subst hp;exact zNz _
 rw [show ((⟨#[110]⟩:ByteArray)).data.toList=[110] from rfl,zkV nx hn] at WC
 refine WC.mono ?_
 rintro e w' ⟨rfl,h⟩
 exact ⟨rfl,h⟩
theorem zqD (e0:Lg) (he:e0.Ok) (W:World) (g:Nat) (hg:W.heap[g]?=some (.cells #[.int .u64 (sgB e0.up:Int),.string ⟨#[]⟩,.int .u64 0,.string e0.id] 139 (0,0))) :
 Calls Tryz.prog 70 #[.string ⟨#[98,114]⟩,.slice (some ⟨g,0,none⟩) 2 2] W λ e w'=>e=.returned (.tuple #[.string e0.val,.bool true])/\Hid (Below W.heap.size W w'):=by
 have h1:sgB e0.up<256:=by unfold sgB;split <;> omega
 have hv:zcj W (.slice (some ⟨g,0,none⟩) 2 2) e0.flds:=zsb (a1:=0) hg (by
  intro p hp
  simp only [List.mem_cons,List.not_mem_nil,or_false] at hp
  rcases hp with rfl|rfl <;> simp only <;> omega)
 have WC:=ziT zjT (.slice (some ⟨g,0,none⟩) 2 2) e0.flds W (by decide) hv λ p hp=>by
  have:=he.id
  simp only [Lg.flds,List.mem_cons,List.not_mem_nil,or_false] at hp
  rcases hp with rfl|rfl
  ·exact zNz _
  ·show e0.id.size<=_;omega
 rw [Lg.write e0] at WC
 refine WC.mono ?_
 rintro e w' ⟨rfl,h⟩
 exact ⟨rfl,h⟩
variable {bse:List (Int × ByteArray)}
theorem zg5 (w:World) (x:Nat) (v:Value) (a:Array Value) (t:TypeId):((w.setCell ⟨x,0,none⟩ v).alloc (.cells a t)).heap[w.heap.size]?=some (.cells a t (0,0)):=by
 have:=heap_alloc_new (w.setCell ⟨x,0,none⟩ v) (.cells a t)
 simpa using this
def byI (up:Bool):Int:=if up then 1 else -1
variable {bse:List (Int × ByteArray)}
theorem zfP (limit:Nat):∀ (F L:List (ByteArray × ByteArray)) (_:L.length<=limit),(zd5 ⟨#[]⟩ limit F L).1=L++F.take (limit-L.length)
 | [],L,_=>by simp [zd5]
 | e::F,L,h=>by
   by_cases hl:L.length=limit
   ·rw [zaZ,if_pos (.inl hl),hl];simp
   ·rw [zaZ,if_neg (by
      rintro (h|⟨h,-⟩)
      ·exact hl h
      ·exact h rfl),zfP limit F (L++[e]) (by simp;omega)]
    obtain ⟨d,hd⟩:∃ d,limit-L.length=d+1:=⟨limit-L.length-1,by omega⟩
    rw [hd,zLa,show limit-(L.length+[e].length)=d by simp;omega]
    simp
theorem zh4 (L:List (ByteArray × ByteArray)) (i:Nat) (h:i<L.length):(zes L)[i*2]?=some (.string L[i].1)/\(zes L)[i*2+1]?=some (.string L[i].2):=by
 induction L generalizing i with
 | nil=>simp at h
 | cons e L ih =>
   have e1:zes (e::L)=.string e.1::.string e.2::zes L:=by simp [zes]
   rw [e1]
   cases i with
   | zero=>exact ⟨rfl,rfl⟩
   | succ i =>
     have:=ih i (by simpa using h)
     rw [show (i+1)*2=i*2+1+1 by omega]
     simpa using this
theorem zjZ (E:List (ByteArray × ByteArray)):zbi ⟨#[]⟩ E=E:=zgO λ e he=>by
 cases hk:zah e.1 ⟨#[]⟩ with
 | false=>rfl
 | true =>
   rw [zcc] at hk
   exact absurd (show e.1.data.toList<[] from hk) (List.not_lt_nil _)
theorem zmD (G:Nat->Prop) (tb rb place n m:Nat) (S:RS) (w:World) (frm tt:ByteArray) (h:RmS w G rb n m S) (ht:TB w tb rb place) (hg:¬G tb) (hp:place<16) (hm:m<=3900000) (hr:S.root place<=65536) (hr1:1<=S.root place) :
 Calls Tryz.prog 87 #[.pointer (some ⟨tb,0,none⟩),.string frm,.string tt,.int .i64 0] w λ e w'=>∃ v,e=.returned (.tuple #[v,.int .i64 0])/\Hid (zdX w w' G rb n m S [] v):=by
 have hmf:∀ (fn:Fn) (first cap:Array Value) (w:World),(Instr.makeFunc fn first cap).run Tryz.prog w=.ok (.func fn first cap) w:=λ _ _ _ _=>rfl
 have B0:=Hd ((zak.start h ht hg).below (zdW w))
 have HG:=Hd h.lt
 have HM:=Hd hm
 have A0:=Hd (zfK w)
 have E0:=Hd (ziL w)
 have S0:=Hd (zeR w)
 have RT:=zc3 G tb rb place n m S _ B0.out.room B0.out.blk hp (by omega) hr
 have hq:(0:Int)<=(S.root place:Int)-1:=by omega
 generalize (S.root place:Int)-1=q at *
 clear h ht hg hp hm hr hr1
 go_enter_defers Tryz.func87,Tryz.ntmps87
 go_wp2_with fail
 change Calls Tryz.prog 125 #[.pointer (some ⟨tb,0,none⟩)] (zeQ w) _
 generalize zeQ w=W0 at *
 refine RT.mono ?_
 rintro e w2 ⟨rfl,hb⟩
 have B9:=Hd (B0.out.below hb.out)
 have A9:=Hd (A0.out.below hb.out)
 have E9:Hid (w2.heap[w.heap.size+1]?=some (.cells #[.int .i64 0] 34 (0,0))):=Hd ((hb.out.block _ (zab E0.out)).trans E0.out)
 obtain ⟨v9,hv9⟩:=exE (Value.slice none 0 0)
 rw [hv9] at A9
 clear hv9 RT hb
 have hfl:((w2.setCell ⟨w.heap.size,0,none⟩ v9).setCell ⟨w.heap.size+1,0,none⟩ (.int .i64 0)).cell? ⟨w.heap.size,0,none⟩=some v9:=zaa ((zae _ (by omega)).trans (zac A9.out.blk _)) rfl
 have hfe:((w2.setCell ⟨w.heap.size,0,none⟩ v9).setCell ⟨w.heap.size+1,0,none⟩ (.int .i64 0)).cell? ⟨w.heap.size+1,0,none⟩=some (.int .i64 0):=zaa (zac ((zae _ (by omega)).trans E9.out) _) rfl
 have HRES:Hid (zdX w ((w2.setCell ⟨w.heap.size,0,none⟩ v9).setCell ⟨w.heap.size+1,0,none⟩ (.int .i64 0)) G rb n m S [] v9):=Hd (by
  refine ⟨zci A9.out.row λ k hk=>?_,(((StG.of B9.out (zBr _ _)).loc (x:=w.heap.size) (zNr _) (λ e=>by have:=HG.out _ e;omega) 0 _).loc (x:=w.heap.size+1) (by omega) (λ e=>by have:=HG.out _ e;omega) 0 _).keep⟩
  have h1:=(A9.out.row.lt k hk).1
  exact (zae _ (by omega)).trans (zae _ (by omega)))
 have m0:w2.cell? ⟨w.heap.size,0,none⟩=some v9:=zaa A9.out.blk rfl
 have m1:w2.frozen? ⟨w.heap.size,0,none⟩=false:=zad A9.out.blk 0
 have m2:w2.cell? ⟨w.heap.size+1,0,none⟩=some (.int .i64 0):=zaa E9.out rfl
 have m3:w2.frozen? ⟨w.heap.size+1,0,none⟩=false:=zad E9.out 0
 obtain ⟨xa,xm,xc,rfl⟩:∃ a b c,v9=.slice a b c:=by
  rcases A9.out.row.2 with ⟨rfl,_⟩|⟨g,cap,cur,rfl,_⟩
  ·exact ⟨_,_,_,rfl⟩
  ·exact ⟨_,_,_,rfl⟩
 clear B0 A0 E0
 go_wp2_with fail
 refine leaves_cons (f:=124) (args:=#[.pointer (some ⟨w.heap.size+1,0,none⟩)]) (by simp) (by simp [go_sem]) ?_
 refine (zax _ _).mono ?_
 rintro e u' wa ⟨rfl,rfl,rfl⟩
 refine leaves_cons (f:=141) (args:=#[.pointer (some ⟨w.heap.size+1,0,none⟩),.pointer (some ⟨w.heap.size,0,none⟩)]) (by simp [settle]) (by simp [go_sem]) ?_
 refine (zeO _ _ _ _ hfe).mono ?_
 rintro e u' wb ⟨rfl,rfl,rfl⟩
 simp [Leaves,settle,results,Tryz.results87,go_sem,hfe,hfl]
 exact HRES
def zsN (bse:List (Int × ByteArray)) (w1 w w':World) (K:Nat->Prop) (sb rb ti tl n N a:Nat) (C:List Ck) (L:List Lg) (nx:Nat) (X:List (Nat × ByteArray)) (T:List Lg) (v:Value):Prop :=
 w'.ownsRow (w.heap.size+2) 170 2 v T.length (zes (T.map zpi))/\Chs bse w1 w' w' (λ k=>K k\/(w.heap.size<=k/\k<w'.heap.size)) sb rb ti tl n N a C L nx X/\zbX K w w'
section
variable (w1 w w0:World) (K:Nat->Prop) (sb rb ti tl n N a nx:Nat) (C:List Ck) (L:List Lg) (X:List (Nat × ByteArray))
theorem zor (limit:Nat) (h:Hid (Chs bse w1 w0 w K sb rb ti tl n N a C L nx X)) (hN:a<=N/\N<=1000) (hL:L.length<=1000000) (hl2:limit<=9223372036854775807) :
 Calls Tryz.prog 87 #[.pointer (some ⟨tl,0,none⟩),.string ⟨#[]⟩,.string ⟨#[]⟩,.int .i64 (limit:Int)] w λ e w'=>∃ v,e=.returned (.tuple #[v,.int .i64 0])/\Hid (zsN bse w1 w w' K sb rb ti tl n N a C L nx X (L.take limit) v):=by
 obtain ⟨S,o0,o1,h1,h2,h3,h4,h5⟩:=h.out
 have hl:(zbh o1).length=L.length:=by rw [h4.eq,zLm]
 rcases Nat.eq_zero_or_pos limit with rfl|hl1
 ·obtain ⟨G,x1,x2,x3,x4⟩:=h1.1.1
  have hng:¬G tl:=(x3 tl (.inr (.inr (.inr rfl)))).2
  have SZ:Calls Tryz.prog 87 #[.pointer (some ⟨tl,0,none⟩),.string ⟨#[]⟩,.string ⟨#[]⟩,.int .i64 0] w λ e w'=>∃ v,e=.returned (.tuple #[v,.int .i64 0])/\Hid (zdX w w' G rb n (300*a) S [] v):=by
   cases ho:o1 with
   | none=>exact zhM G tl rb 1 n (300*a) S w ⟨#[]⟩ ⟨#[]⟩ 0 x1 h1.1.2.2.2 hng (by decide) (by omega) (by have:=h2.t1;rw [ho] at this;exact this)
   | some T =>
     have ht:=h2.t1
     rw [ho] at ht
     have hp:=x1.lim T.p ht.2.on.top.1
     have hb:=x1.bounds
     exact zmD G tl rb 1 n (300*a) S w ⟨#[]⟩ ⟨#[]⟩ x1 h1.1.2.2.2 hng (by decide) (by omega) (by rw [ht.1];unfold zaf at hp;omega) (by rw [ht.1];omega)
  refine SZ.mono ?_
  rintro e w' ⟨v,rfl,hE⟩
  obtain ⟨r2,r3⟩:=RSt.ofK x1 x2 x3 x4 hE.out.2
  have hg:=h1.1.of (r2.mono λ k hk=>.inl hk) r3
  refine ⟨v,rfl,Hd ⟨by simpa using hE.out.1,⟨S,o0,o1,⟨⟨r2.mono λ k hk=>?_,hg.1.2⟩,λ _ _=>rfl⟩,h2,h3,h4,h5⟩,hg.2⟩⟩
  rcases hk with (hk|hk)|hk
  ·exact .inl (.inl hk)
  ·exact .inr hk
  ·exact .inl (.inr hk)
 have SC:=zmf w1 w _ tl rb 1 n (300*a) S o1 ⟨#[]⟩ ⟨#[]⟩ limit h1.1.1 h1.1.2.2.2 (.inr (.inr (.inr rfl))) h2.t1 (by decide) (by omega) (by have:=h2.hgt1 (by omega);omega) (by omega) hl1 hl2
 rw [zjZ,zfP limit _ [] (zNz _),List.nil_append,h4.eq,List.length_nil,Nat.sub_zero,<-List.map_take,zLm] at SC
 refine SC.mono ?_
 rintro e w' ⟨v,rfl,hE⟩
 obtain ⟨r1,r2,r3⟩:=hE.out
 have hg:=h1.1.of (r2.mono λ k hk=>.inl hk) r3
 refine ⟨v,rfl,Hd ⟨r1,⟨S,o0,o1,⟨⟨r2.mono λ k hk=>?_,hg.1.2⟩,λ _ _=>rfl⟩,h2,h3,h4,h5⟩,hg.2⟩⟩
 rcases hk with (hk|hk)|hk
 ·exact .inl (.inl hk)
 ·exact .inr hk
 ·exact .inl (.inr hk)
end
theorem zsO:(Tryz.prog.info? 146).map (λ i=>(i.zero,i.size,i.bytes))=some (some (.agg #[.string ⟨#[]⟩,.string ⟨#[]⟩,.int .i64 0]),3,40):=by kernel_rfl
def zj0 (T:List Lg):List Value:=T.flatMap λ e=>[.string (zbY e.n),.string e.id,.int .i64 e.by]
theorem zmE (T:List Lg) (e:Lg):zj0 (T++[e])=zj0 T++[.string (zbY e.n),.string e.id,.int .i64 e.by]:=by simp [zj0]
theorem zpk (a b c:Value) (ha:a.oneCell'=true) (hb:b.oneCell'=true) (hc:c.oneCell'=true):∀ u∈[a,b,c],u.oneCell'=true:=by
 intro u hu;simp at hu;rcases hu with rfl|rfl|rfl <;> assumption
variable {bse:List (Int × ByteArray)}
theorem zqE (e0:Lg) (he:e0.Ok) (W:World):Calls Tryz.prog 88 #[.string ⟨#[98,114]⟩,.string e0.val] W λ e w'=>∃ g k,W.heap.size<=g/\e=.returned (.tuple #[.slice (some ⟨g,0,none⟩) 2 k,.bool true])/\(w'.cell? ⟨g,0,none⟩=some (.int .u64 (sgB e0.up:Int))/\w'.cell? ⟨g,3,none⟩=some (.string e0.id))/\Hid (Below W.heap.size W w'):=by
 have RC:=ziV zjT e0.val W (by decide) (by have:=Lg.val_size he;omega)
 rw [Lg.read e0] at RC
 refine RC.mono ?_
 intro e w' hp
 obtain ⟨v,rfl,ho,hbl⟩:=hp
 rcases ho.2 with ⟨rfl,h0⟩|⟨g,cap,cur,rfl,hbg,-⟩
 ·exact absurd h0 (by simp [Lg.flds])
 ·refine ⟨g,cap,hbg,rfl,?_,Hd hbl⟩
  have c:=λ i (hi:i<4)=>ho.cellAt i (by simpa [Lg.flds] using hi)
  exact ⟨c 0 (by decide),c 3 (by decide)⟩
def zos (W0:World) (T:List Lg) (i:Nat) (v:Value) (wr:World):Prop:=wr.ownsRow W0.heap.size 146 3 v i (zj0 (T.take i))/\Below W0.heap.size W0 wr
def zdC (bse:List (Int × ByteArray)) (w1 w w':World) (K:Nat->Prop) (sb rb ti tl n N a:Nat) (C:List Ck) (L:List Lg) (nx:Nat) (X:List (Nat × ByteArray)) (T:List Lg) (v:Value):Prop :=
 w'.ownsRow 0 146 3 v T.length (zj0 T)/\Chs bse w1 w' w' (λ k=>K k\/v.ownBlock=some k) sb rb ti tl n N a C L nx X/\zbX K w w'
section
variable (w1 w w0:World) (K:Nat->Prop) (sb rb ti tl n N a nx:Nat) (C:List Ck) (L:List Lg) (X:List (Nat × ByteArray))
theorem zmF (limit:Nat) (h:Hid (Chs bse w1 w0 w K sb rb ti tl n N a C L nx X)) (hN:a<=N/\N<=1000) (hL:L.length<=1000000) (hl2:limit<=9223372036854775807) :
 Calls Tryz.prog 73 #[.pointer (some ⟨sb,0,none⟩),.int .i64 (limit:Int)] w λ e w'=>∃ v,e=.returned (.tuple #[v,.int .i64 0])/\Hid (zdC bse w1 w w' K sb rb ti tl n N a C L nx X (L.take limit) v):=by
 have SC:=zor w1 w w0 K sb rb ti tl n N a nx C L X limit h hN hL hl2
 have HOK:Hid (∀ e∈L.take limit,e.Ok):=Hd λ e he=>(h.out.ok.2.2.1 e (List.mem_of_mem_take he)).1
 have HLEN:Hid ((L.take limit).length<=1000000):=Hd (by rw [List.length_take];omega)
 obtain ⟨T,hT⟩:=exE (L.take limit)
 rw [hT] at SC HOK HLEN ⊢
 obtain ⟨s0,s1,s2⟩:=h.out.sbk.cells
 clear hN hL hl2 hT
 go_enter Tryz.func73,Tryz.ntmps73
 go_wp2_with fail
 refine SC.mono ?_
 rintro e w4 ⟨v,rfl,HS⟩
 clear SC
 obtain ⟨va,vc,hv⟩:∃ va vc,v=.slice va T.length vc:=by
  rcases HS.out.1.2 with ⟨rfl,h0⟩|⟨g,cap,cur,rfl,-⟩
  ·exact ⟨_,_,by rw [h0]⟩
  ·exact ⟨_,_,rfl⟩
 subst hv
 have CE:Hid (∀ i (hi:i<T.length),∃ g,va=some ⟨g,0,none⟩/\g<w4.heap.size/\w4.cell? ⟨g,i*2,none⟩=some (.string (zbY T[i].n))/\w4.cell? ⟨g,i*2+1,none⟩=some (.string T[i].val)):=Hd λ i hi=>by
  have hr:=HS.out.1
  rcases hr.2 with ⟨e,h0⟩|⟨g,cap,cur,e,h1,h2,-⟩
  ·omega
  ·cases e
   have hl:i<(T.map zpi).length:=by simpa using hi
   obtain ⟨x,y⟩:=zh4 (T.map zpi) i hl
   refine ⟨g,rfl,zab h2,?_,?_⟩
   ·rw [hr.cellAt (i*2) (by omega),x];simp [zpi]
   ·rw [hr.cellAt (i*2+1) (by omega),y];simp [zpi]
 have R0:Hid (zos w4 T 0 (.slice none 0 0) w4):=Hd ⟨World.ownsRow_nil _ _ _ _,zBr _ _⟩
 have HEND:Hid (∀ v w',zos w4 T T.length v w'->zdC bse w1 w w' K sb rb ti tl n N a C L nx X T v):=Hd λ v w' hr=>by
  obtain ⟨h1,h2⟩:=hr
  rw [List.take_length] at h1
  obtain ⟨g1,g2⟩:=HS.out.2
  have hm:=g1.mono (K':=K) λ k hk=>.inl hk
  have hb:Chs bse w1 w' w' (λ k=>K k\/v.ownBlock=some k) sb rb ti tl n N a C L nx X:=by
   obtain ⟨S,o0,o1,x1,x2⟩:=hm
   refine ⟨S,o0,o1,⟨(x1.1.belowK h2).1.mono λ k hk=>hk.imp id λ hk=>h1.lt k hk,λ _ _=>rfl⟩,x2⟩
  exact ⟨zjR h1 (zNz _),hb,g2.trans (hm.keep h2)⟩
 obtain ⟨jE,hjE,hE0,hE1,hE2⟩:=info_parts zsO
 go_wp2_with fail
 go_loopg [8,10,11,12,29] T.length (λ g s8 s10 s11 s12 s29 wr=>∃ (i:Nat) (sv:Value),g=T.length-i/\i<=T.length/\s29=.int .i64 (i:Int)/\sv=s8/\Hid (zos w4 T i sv wr))
 case atStart=>exact ⟨0,_,rfl,zNz _,rfl,rfl,R0⟩
 case round =>
  obtain ⟨i,sv,rfl,hi,rfl,rfl,HR⟩:=hrel
  clear R0
  by_cases hlt:i<T.length
  ·obtain ⟨g,rfl,hg,c0,c1⟩:=CE.out i hlt
   have hbl:=HR.out.2
   have d0:wr.cell? ⟨g,i*2,none⟩=some (.string (zbY T[i].n)):=(hbl.cell (p:=⟨g,i*2,none⟩) hg).trans c0
   have d1:wr.cell? ⟨g,i*2+1,none⟩=some (.string T[i].val):=(hbl.cell (p:=⟨g,i*2+1,none⟩) hg).trans c1
   have hok:=HOK.out T[i] (List.getElem_mem hlt)
   have RD:=λ W=>zqE T[i] hok W
   have HSTEP:Hid (∀ v' W5,W5.ownsRow w4.heap.size 146 3 v' (i+1) (zj0 (T.take i)++[.string (zbY T[i].n),.string T[i].id,.int .i64 T[i].by])->Below w4.heap.size w4 W5->zos w4 T (i+1) v' W5):=Hd λ v' W5 ho hb=>by
    refine ⟨?_,hb⟩
    rw [zTs hlt,zmE]
    exact ho
   have u0:IntKind.u64.wrap (2*((sgB T[i].up:Nat):Int))=((2*sgB T[i].up:Nat):Int):=by
    have:=zcs (v:=2*sgB T[i].up) (by unfold sgB;split <;> omega)
    rw [<-this];congr 1
   have u1:IntKind.i64.wrap ((2*sgB T[i].up:Nat):Int)=((2*sgB T[i].up:Nat):Int):=by
    cases T[i].up <;> decide
   have u2:IntKind.i64.wrap (((2*sgB T[i].up:Nat):Int)-1)=T[i].by:=by
    unfold Lg.by
    cases T[i].up <;> decide
   have HLT:=Hd hlt
   have hl64:i<=1000000:=by have:=HLEN.out;omega
   clear c0 c1 hok hi
   have HL:Hid (i+1<=maxLen/\(i+1)*40<=140737488355328):=Hd (by unfold maxLen;omega)
   generalize T[i].val=vl at *
   generalize zbY T[i].n=ky at *
   generalize T[i].id=id at *
   generalize T[i].by=by_ at *
   generalize 2*sgB T[i].up=z2 at *
   generalize sgB T[i].up=z1 at *
   clear hlt hbl
   go_wp2_with fail
   refine (RD _).mono ?_
   rintro e w6 ⟨gf,kf,hgf,rfl,⟨f0,f3⟩,hb6⟩
   have hbp:w6.cell? ⟨wr.heap.size,0,none⟩=some (.string ky):=zaa ((hb6.out.block wr.heap.size (by simp)).trans (heap_alloc_new wr _)) rfl
   have hb7:Below wr.heap.size wr w6:=((zBr wr.heap.size wr).alloc (zNr _) _).trans (hb6.out.mono (by simp))
   have HB6:Hid (Below w4.heap.size w4 w6.drew):=Hd (HR.out.2.trans (hb7.drew.mono HR.out.2.size))
   have HOD:Hid (w6.drew.ownsRow w4.heap.size 146 3 sv i (zj0 (T.take i))):=Hd (zaH HR.out.1 (hb7.drew.upd' (zNr _)) (λ _ _ e=>e))
   have HBX:Hid (∀ o,w4.heap.size<=(w6.drew.alloc o).heap.size):=Hd λ o=>by have:=HB6.out.size;simp at this ⊢;omega
   have CK:Hid (∀ o W5,(w6.drew.alloc o).grownBy W5 sv.ownBlock->W5.cell? ⟨wr.heap.size,0,none⟩=some (.string ky)/\W5.cell? ⟨gf,0,none⟩=some (.int .u64 (z1:Int))/\W5.cell? ⟨gf,3,none⟩=some (.string id)):=Hd λ o W5 hg=>by
    have q:∀ b i v,wr.heap.size<=b->w6.cell? ⟨b,i,none⟩=some v->W5.cell? ⟨b,i,none⟩=some v:=λ b i v hb hc=>by
     have hbb:Below w6.heap.size w6 (w6.drew.alloc o):=((zBr w6.heap.size w6).drew).alloc (zNr _) _
     refine hg.cell ((hbb.cell (p:=⟨b,i,none⟩) (World.block_lt_of_cell? w6 _ hc)).trans hc) λ e=>?_
     have:=HR.out.1.lt b e.symm
     omega
    have hgf':wr.heap.size<=gf:=by simp at hgf;omega
    exact ⟨q _ _ _ (zNr _) hbp,q _ _ _ hgf' f0,q _ _ _ hgf' f3⟩
   clear hb6 hb7 RD d0 d1 hgf
   go_wp2_with fail
   go_region_held3 (λ w'=>w'.cell? ⟨wr.heap.size,0,none⟩=some (.string ky)/\w'.cell? ⟨gf,0,none⟩=some (.int .u64 (z1:Int))/\w'.cell? ⟨gf,3,none⟩=some (.string id)) (go_keep) ((first
    | (refine zat (by rfl) _ _ _ (by rfl) w4.heap.size 146 jE _ 3 40 Tryz.underlying142 hjE hE0 hE1 hE2 rfl (by decide) _ _ _ (by rfl) (HOD.out.alloc _) _ 1 _ (by rfl) (zai _ #[.string ky,.string id,.int .i64 by_] _ 1 1) rfl (zpk _ _ _ rfl rfl rfl) HL.out.1 HL.out.2 (HBX.out _) ?_
       intro v5 W5 ho5 hg5 ha5
       have HN5:=Hd (HSTEP.out v5 W5 ho5 ((HB6.out.alloc HB6.out.size _).grown hg5 (HBX.out _) (λ k e=>(HOD.out.lt k e).1)))
       obtain ⟨k0,k1,k2⟩:=CK.out _ W5 hg5
       clear ho5 hg5 ha5)))
   all_goals go_wp2_with fail
   all_goals go_roundg (T.length-(i+1))
   all_goals (first
    | (case measure=>have:=HLT.out;omega)
    | (case rel=>exact ⟨i+1,_,rfl,HLT.out,by congr 1,rfl,HN5⟩))
  ·obtain rfl:i=T.length:=by omega
   have HE:=Hd (HEND.out _ _ HR.out)
   clear hlt hi
   go_wp2_with fail
   go_ret2
   exact ⟨_,rfl,HE⟩
end
variable {bse:List (Int × ByteArray)}
theorem zg6 (T:List Lg) (i:Nat) (h:i<T.length):(zj0 T)[i*3]?=some (.string (zbY T[i].n))/\(zj0 T)[i*3+1]?=some (.string T[i].id)/\(zj0 T)[i*3+2]?=some (.int .i64 T[i].by):=by
 induction T generalizing i with
 | nil=>simp at h
 | cons e T ih =>
   have e1:zj0 (e::T)=.string (zbY e.n)::.string e.id::.int .i64 e.by::zj0 T:=by simp [zj0]
   rw [e1]
   cases i with
   | zero=>exact ⟨rfl,rfl,rfl⟩
   | succ i =>
     have:=ih i (by simpa using h)
     rw [show (i+1)*3=i*3+1+1+1 by omega]
     simpa using this
def zfc (T:List Lg) (id:ByteArray):Int:=match T with
 | []=>0
 | e::T=>(if e.id=id then e.by else 0)+zfc T id
theorem zh5 (T:List Lg) (e:Lg) (id:ByteArray):zfc (T++[e]) id=zfc T id+if e.id=id then e.by else 0:=by
 induction T with
 | nil=>simp [zfc]
 | cons x T ih=>simp only [List.cons_append,zfc,ih];omega
theorem zot (T:List Lg) (id:ByteArray):-(T.length:Int)<=zfc T id/\zfc T id<=T.length:=by
 induction T with
 | nil=>simp [zfc]
 | cons x T ih =>
   have hb:-1<=x.by/\x.by<=1:=by unfold Lg.by;split <;> omega
   simp only [zfc,zLc]
   split <;> omega
section
variable (w1 w w0:World) (K:Nat->Prop) (sb rb ti tl n N a nx:Nat) (C:List Ck) (L:List Lg) (X:List (Nat × ByteArray))
theorem zfQ (h:Hid (Chs bse w1 w0 w K sb rb ti tl n N a C L nx X)) (hN:a<=N/\N<=1000) (hL:L.length<=1000000) :
 Calls Tryz.prog 73 #[.pointer (some ⟨sb,0,none⟩),.int .i64 33554432] w λ e w'=>∃ va vc,e=.returned (.tuple #[.slice va L.length vc,.int .i64 0])/\Hid (zdC bse w1 w w' K sb rb ti tl n N a C L nx X L (.slice va L.length vc)):=by
 have F:=zmF w1 w w0 K sb rb ti tl n N a nx C L X 33554432 h hN hL (by decide)
 rw [List.take_of_length_le (by omega)] at F
 refine F.mono ?_
 rintro e w' ⟨v,rfl,hE⟩
 obtain ⟨va,vc,rfl⟩:∃ va vc,v=.slice va L.length vc:=by
  rcases hE.out.1.2 with ⟨rfl,h0⟩|⟨g,cap,cur,rfl,-⟩
  ·exact ⟨_,_,by rw [h0]⟩
  ·exact ⟨_,_,rfl⟩
 exact ⟨va,vc,rfl,hE⟩
theorem zqF (h:Hid (Chs bse w1 w0 w K sb rb ti tl n N a C L nx X)) (hN:a<=N/\N<=1000) (hL:L.length<=1000000) :
 Calls Tryz.prog 54 #[.pointer (some ⟨sb,0,none⟩)] w λ e w'=>e=.returned (.tuple #[.int .i64 (L.length:Int),.int .i64 0])/\Hid (Chs bse w1 w0 w' K sb rb ti tl n N a C L nx X):=by
 have F:=zfQ w1 w w0 K sb rb ti tl n N a nx C L X h hN hL
 have HH:Hid (∀ w' v,zdC bse w1 w w' K sb rb ti tl n N a C L nx X L v->Chs bse w1 w0 w' K sb rb ti tl n N a C L nx X):=Hd λ w' v hE =>
  ((hE.2.1.mono λ k hk=>.inl hk).to hE.2.2).to h.out.kept
 generalize L.length=ll at *
 clear h hN hL
 go_enter Tryz.func54,Tryz.ntmps54
 go_wp2_with fail
 refine F.mono ?_
 rintro e w2 ⟨va,vc,rfl,hE⟩
 have HE:=Hd (HH.out _ _ hE.out)
 clear F hE HH
 go_wp2_with fail
 go_ret2
 exact ⟨rfl,HE⟩
end
variable {bse:List (Int × ByteArray)}
theorem zj1 {a b:ByteArray}:(a.toList == b.toList)=decide (a=b):=by
 by_cases h:a=b
 ·simp [h]
 ·have:¬a.toList=b.toList:=λ e=>h (by
   rw [Lib.toList_data,Lib.toList_data] at e
   exact ByteArray.ext (Array.toList_inj.1 e))
  simp [h,this]
theorem zcX {x:Int} (h1:-4611686018427387904<=x) (h2:x<=4611686018427387904):IntKind.i64.wrap x=x:=by
 simp [IntKind.wrap,IntKind.bits,IntKind.signed];omega
section
variable (w1 w w0:World) (K:Nat->Prop) (sb rb ti tl n N a nx:Nat) (C:List Ck) (L:List Lg) (X:List (Nat × ByteArray))
theorem zh6 (id:ByteArray) (c:Ck) (h:Hid (Chs bse w1 w0 w K sb rb ti tl n N a C L nx X)) (hN:a<=N/\N<=1000) (hi:id.size<=96) (hf:cAt C id=some c) (hL:L.length<=1000000) :
 Calls Tryz.prog 21 #[.pointer (some ⟨sb,0,none⟩),.string id] w λ e w'=>e=.returned (.tuple #[.int .i64 c.cnt,.int .i64 (zfc L id),.int .i64 0])/\Hid (Chs bse w1 w0 w' K sb rb ti tl n N a C L nx X):=by
 have FY:=zcW id c h hN hi hf
 rw [show c.v=.agg #[.int .i64 (c.page:Int),.int .i64 (c.text.size:Int),.int .i64 c.cnt] from rfl] at FY
 have HN:=Hd hN
 have HLL:=Hd hL
 generalize c.page=z0 at *
 generalize (c.text.size:Int)=z1 at *
 generalize c.cnt=z2 at *
 clear h hN hi hf hL
 go_enter Tryz.func21,Tryz.ntmps21
 go_wp2_with fail
 refine FY.mono ?_
 rintro e w2 ⟨rfl,G2⟩
 obtain ⟨wb,hwb⟩:=exE (w2.alloc (.cells #[.int .i64 (z0:Int),.int .i64 z1,.int .i64 z2] 124))
 have HB:Hid (Below w2.heap.size w2 wb):=Hd (by subst hwb;exact (zBr _ _).alloc (zNr _) _)
 have blk:Hid (wb.heap[w2.heap.size]?=some (.cells #[.int .i64 (z0:Int),.int .i64 z1,.int .i64 z2] 124 (0,0))):=Hd (by subst hwb;exact heap_alloc_new _ _)
 have G3:=Hd (G2.out.new HB.out w2.heap.size (zNr _) (zab blk.out))
 have F:=zfQ w1 wb wb _ sb rb ti tl n N a nx C L X G3 HN.out HLL.out
 clear FY
 go_wp2_with fail
 refine F.mono ?_
 rintro e w4 ⟨va,vc,rfl,HS⟩
 clear F
 have b4:Hid (w4.heap[w2.heap.size]?=some (.cells #[.int .i64 (z0:Int),.int .i64 z1,.int .i64 z2] 124 (0,0))):=Hd ((HS.out.2.2 _ (.inr rfl)).trans blk.out)
 have HEND:Hid (∀ w',Below w4.heap.size w4 w'->Chs bse w1 w0 w' K sb rb ti tl n N a C L nx X/\w'.cell? ⟨w2.heap.size,2,none⟩=some (.int .i64 z2)):=Hd λ w' hb=>by
  refine ⟨?_,zaa ((hb.block _ (zab b4.out)).trans b4.out) rfl⟩
  have h1:=(HS.out.2.1.below hb).mono (K':=K) λ k hk=>.inl (.inl hk)
  have h2:zbX K w4 w':=(HS.out.2.1.keep hb).mono λ k hk=>.inl (.inl hk)
  obtain ⟨S,o0,o1,x1,x2⟩:=h1
  refine ⟨S,o0,o1,⟨x1.1,?_⟩,x2⟩
  exact ((G2.out.kept.trans (G2.out.keep HB.out)).trans (HS.out.2.2.mono λ k hk=>.inl hk)).trans h2
 have CE:Hid (∀ i (hi:i<L.length),∃ g,va=some ⟨g,0,none⟩/\g<w4.heap.size/\w4.cell? ⟨g,i*3,none⟩=some (.string (zbY L[i].n))/\w4.cell? ⟨g,i*3+1,none⟩=some (.string L[i].id)/\w4.cell? ⟨g,i*3+2,none⟩=some (.int .i64 L[i].by)):=Hd λ i hi=>by
  have hr:=HS.out.1
  rcases hr.2 with ⟨e,h0⟩|⟨g,cap,cur,e,h1,h2,-⟩
  ·omega
  ·cases e
   obtain ⟨x,y,z⟩:=zg6 L i hi
   refine ⟨g,rfl,zab h2,?_,?_,?_⟩
   ·rw [hr.cellAt (i*3) (by omega),x]
   ·rw [hr.cellAt (i*3+1) (by omega),y]
   ·rw [hr.cellAt (i*3+2) (by omega),z]
 have R0:Hid (Below w4.heap.size w4 w4):=Hd (zBr _ _)
 clear HS
 go_wp2_with fail
 go_loopg [11,13,38] L.length (λ g s11 s13 s38 wr=>∃ (i:Nat),g=L.length-i/\i<=L.length/\s38=.int .i64 (i:Int)/\s11=.int .i64 (zfc (L.take i) id)/\Hid (Below w4.heap.size w4 wr))
 case atStart=>exact ⟨0,rfl,zNz _,rfl,by simp [zfc],R0⟩
 case round =>
  obtain ⟨i,rfl,hi,rfl,rfl,HR⟩:=hrel
  clear R0
  by_cases hlt:i<L.length
  ·obtain ⟨g,rfl,hg,c0,c1,c2⟩:=CE.out i hlt
   have hbl:=HR.out
   have d0:wr.cell? ⟨g,i*3,none⟩=some (.string (zbY L[i].n)):=(hbl.cell (p:=⟨g,i*3,none⟩) hg).trans c0
   have d1:wr.cell? ⟨g,i*3+1,none⟩=some (.string L[i].id):=(hbl.cell (p:=⟨g,i*3+1,none⟩) hg).trans c1
   have d2:wr.cell? ⟨g,i*3+2,none⟩=some (.int .i64 L[i].by):=(hbl.cell (p:=⟨g,i*3+2,none⟩) hg).trans c2
   have hp:zfc (L.take (i+1)) id=zfc (L.take i) id+if L[i].id=id then L[i].by else 0:=by
    rw [zTs hlt,zh5]
   have hab:=zot (L.take i) id
   have hby:-1<=L[i].by/\L[i].by<=1:=by unfold Lg.by;split <;> omega
   have hsm:i<=1000000:=by have:=HLL.out;omega
   rw [List.length_take] at hab
   have kw:IntKind.i64.wrap (zfc (L.take i) id+L[i].by)=zfc (L.take i) id+L[i].by:=zcX (by omega) (by omega)
   generalize L[i]=en at *
   have HLT:=Hd hlt
   have HBN:Hid (∀ o,Below w4.heap.size w4 (wr.alloc o)):=Hd λ o=>HR.out.alloc HR.out.size o
   clear c0 c1 c2 hbl hab hby hi
   by_cases he:en.id=id
   ·rw [if_pos he] at hp
    have q:(en.id.toList == id.toList)=true:=by rw [zj1];simp [he]
    have HP:=Hd hp
    clear hp he
    generalize en.id=xi at *
    generalize en.by=yi at *
    generalize zfc (L.take i) id=pi at *
    generalize zbY en.n=ky at *
    clear hlt
    go_wp2_with fail
    go_roundg (L.length-(i+1))
    case measure=>have:=HLT.out;omega
    case rel=>exact ⟨i+1,rfl,HLT.out,by congr 1,by rw [HP.out],Hd (HBN.out _)⟩
   ·rw [if_neg he] at hp
    have q:(en.id.toList == id.toList)=false:=by rw [zj1];simp [he]
    have HP:=Hd hp
    clear hp he kw
    generalize en.id=xi at *
    generalize en.by=yi at *
    generalize zfc (L.take i) id=pi at *
    generalize zbY en.n=ky at *
    clear hlt
    go_wp2_with fail
    go_roundg (L.length-(i+1))
    case measure=>have:=HLT.out;omega
    case rel=>exact ⟨i+1,rfl,HLT.out,by congr 1,by rw [HP.out,Int.add_zero],Hd (HBN.out _)⟩
  ·obtain rfl:i=L.length:=by omega
   obtain ⟨h1,h2⟩:=HEND.out _ HR.out
   have HE:=Hd h1
   rw [List.take_length]
   clear hlt hi h1
   go_wp2_with fail
   go_ret3
   exact ⟨rfl,HE⟩
end
variable {bse:List (Int × ByteArray)}
theorem zsY (rb:Nat) (w:World):Calls Tryz.prog 15 #[.pointer (some ⟨rb,0,none⟩)] w λ e w'=>∃ sb ti tl,e=.returned (.pointer (some ⟨sb,0,none⟩))/\Hid (SBk w' sb rb ti tl/\Below w.heap.size w w'/\w.heap.size<=sb/\w.heap.size<=ti/\w.heap.size<=tl):=by
 have A0:=zsX rb 0 w
 have A1:=λ W=>zsX rb 1 W
 rw [show ((0:Nat):Int)=0 from rfl] at A0
 rw [show ((1:Nat):Int)=1 from rfl] at A1
 go_enter Tryz.func15,Tryz.ntmps15
 go_wp2_with fail
 refine A0.mono ?_
 rintro e w2 ⟨rfl,h2⟩
 go_wp2_with fail
 refine (A1 w2).mono ?_
 rintro e w3 ⟨rfl,h3⟩
 go_wp2_with fail
 have h4:∀ o,Below w3.heap.size w3 (w3.alloc o):=λ o=>(zBr _ _).alloc (zNr _) o
 have HE:Hid (∀ o,TB (w3.alloc o) w.heap.size rb 0/\TB (w3.alloc o) w2.heap.size rb 1/\Below w.heap.size w (w3.alloc o)/\w.heap.size<=w3.heap.size/\w.heap.size<=w2.heap.size):=Hd λ o=>by
  have s2:=h2.out.2.size
  have s3:=h3.out.2.size
  exact ⟨(h2.out.1.below h3.out.2).below (h4 o),h3.out.1.below (h4 o),(h2.out.2.trans (h3.out.2.mono s2)).trans ((h4 o).mono (by omega)),by omega,s2⟩
 have HZ:Hid (w.heap.size<=w3.heap.size/\w.heap.size<=w2.heap.size):=Hd ⟨by have:=h2.out.2.size;have:=h3.out.2.size;omega,h2.out.2.size⟩
 clear h2 h3 h4 A0 A1
 go_ret
 exact ⟨_,_,_,rfl,Hd ⟨⟨heap_alloc_new _ _,(HE.out _).1,(HE.out _).2.1⟩,(HE.out _).2.2.1,HZ.out.1,zNr _,HZ.out.2⟩⟩
theorem Chs.start {w1 wd we:World} {G:Nat->Prop} {rb n N sb ti tl:Nat} (h:zeG w1 wd G rb n) (h4:4<=n) (hN:spc N 0<=zaf n) (hs:SBk we sb rb ti tl) (hb:Below wd.heap.size wd we) (hl:wd.heap.size<=sb/\wd.heap.size<=ti/\wd.heap.size<=tl) :
 Chs [] w1 we we (λ _=>False) sb rb ti tl n N 0 [] [] 0 []:=by
 have h0:=zab hs.1
 have h1:=zab hs.2.1
 have h2:=zab hs.2.2
 refine ⟨_,none,none,⟨⟨((RSt.start h h4).below hb).1.mono λ k hk=>?_,hs⟩,λ _ _=>rfl⟩,⟨rfl,rfl,zhN n _ (by simpa using hN),zNz _,zNz _,λ x hx=>(by cases hx),List.nodup_nil,λ q hq=>(by cases hq)⟩,⟨rfl,λ c hc=>(by cases hc)⟩,⟨rfl,λ c hc=>(by cases hc)⟩,rfl,zNr _,rfl⟩
 rcases hk with hk|rfl|rfl|rfl
 ·exact hk.elim
 all_goals exact .inr ⟨by omega,by omega⟩
def Ck.add (c:Ck) (d:Int):Ck:=⟨c.id,c.page,c.cnt+d,c.text⟩
def zfR (C:List Ck) (e:Lg) (C':List Ck):Prop:=(cAt C e.id=none/\C'=C)\/∃ c,cAt C e.id=some c/\zeC (c.add e.by) C C'
inductive Mg (C:List Ck):List Lg->List Ck->Prop
 | nil:Mg C [] C
 | snoc {T:List Lg} {C1 C2:List Ck} {e:Lg}:Mg C T C1->zfR C1 e C2->Mg C (T++[e]) C2
theorem zeC.mem {c:Ck} {C C':List Ck} (h:zeC c C C'):∀ d∈C',d=c\/d∈C:=by
 obtain ⟨A,B,rfl,h',-,-⟩:=h
 intro d hd
 simp only [List.mem_append,List.mem_cons] at hd
 rcases hd with hd|hd|hd
 ·rcases h' with rfl|⟨c0,-,rfl⟩ <;> simp [hd]
 ·exact .inl hd
 ·rcases h' with rfl|⟨c0,-,rfl⟩ <;> simp [hd]
theorem Ck.add_ok {c:Ck} {d:Int} (h:c.Ok) (h1:-1000000000<=c.cnt+d) (h2:c.cnt+d<=1000000000):(c.add d).Ok:=⟨h.id,h.page,h.t1,h.t2,h1,h2⟩
def zq6 (C:List Ck) (b:Int):Prop:=∀ c∈C,-b<=c.cnt/\c.cnt<=b
theorem zfR.cnts {C C':List Ck} {e:Lg} {b:Int} (h:zfR C e C') (hc:zq6 C b):zq6 C' (b+1):=by
 have hb:-1<=e.by/\e.by<=1:=by unfold Lg.by;split <;> omega
 rcases h with ⟨-,rfl⟩|⟨c,h1,h2⟩
 ·intro d hd;have:=hc d hd;omega
 ·intro d hd
  rcases h2.mem d hd with rfl|hd
  ·have:=hc c (zaQ h1).1
   show -(b+1)<=c.cnt+e.by/\c.cnt+e.by<=b+1
   omega
  ·have:=hc d hd;omega
theorem Mg.cnts {C C':List Ck} {T:List Lg} {b:Int} (h:Mg C T C') (hc:zq6 C b):zq6 C' (b+T.length):=by
 induction h with
 | nil=>simpa using hc
 | snoc h1 h2 ih =>
   have:=h2.cnts ih
   rw [zLa,List.length_singleton]
   intro d hd
   have:=this d hd
   omega
variable {bse:List (Int × ByteArray)}
theorem ChE.more {w1 wA w:World} {x:Nat} {er:Int} {K:Nat->Prop} {sb rb ti tl n N a a' nx:Nat} {C:List Ck} {L:List Lg} {X:List (Nat × ByteArray)} (h:ChE bse w1 wA x er w K sb rb ti tl n N a C L nx X) (ha:a<=a'):ChE bse w1 wA x er w K sb rb ti tl n N a' C L nx X:=by
 obtain ⟨S,o0,o1,h1,h2,h3,h4,h5,h6,h7⟩:=h.st
 exact ⟨⟨S,o0,o1,⟨h1.1.more (by omega),h1.2⟩,h2.less (zjW ha) ha ha,h3,h4,h5,by omega,h7⟩,h.kp,h.bx,h.lo,h.ne,h.nk⟩
section
variable (w1 w w0:World) (K:Nat->Prop) (sb rb ti tl n N a nx:Nat) (C:List Ck) (L:List Lg) (X:List (Nat × ByteArray))
theorem ChE.row {wb w4:World} {x:Nat} {v:Value} {T:List Lg} (h:ChE bse w1 w x 0 wb K sb rb ti tl n N a C L nx X) (hs:zdC bse w1 wb w4 (λ k=>K k\/k=x) sb rb ti tl n N a C L nx X T v) :
 ChE bse w1 w4 x 0 w4 (λ k=>K k\/v.ownBlock=some k) sb rb ti tl n N a C L nx X:=by
 have bx:=(hs.2.2 x (.inr rfl)).trans h.bx
 refine ⟨hs.2.1.mono λ k hk=>?_,λ _ _=>rfl,bx,h.lo,h.ne,?_⟩
 ·rcases hk with (hk|hk)|hk
  ·exact .inl (.inl hk)
  ·exact .inr hk
  ·exact .inl (.inr hk)
 ·rintro (hk|hk)
  ·exact h.nk hk
  ·rcases hs.1.2 with ⟨rfl,-⟩|⟨g,cap,cur,rfl,h1,h2,-⟩
   ·cases hk
   ·have e:g=x:=by simpa [Value.ownBlock] using hk
    subst e
    rw [bx] at h2
    simp at h2
theorem zmG (lim:Int) (limit:Nat) (hmx:max lim 0=(limit:Int)) (hl2:limit<=9223372036854775807) (h:Hid (Chs bse w1 w0 w K sb rb ti tl n N a C L nx X)) (hN:a+2*L.length<=N/\N<=1000) (hB:zq6 C 1000000) :
 Calls Tryz.prog 20 #[.pointer (some ⟨sb,0,none⟩),.int .i64 lim] w λ e w'=>e=.returned (.tuple #[.int .i64 ((L.take limit).length:Int),.int .i64 0])/\Hid (∃ C',Mg C (L.take limit) C'/\Chs bse w1 w0 w' K sb rb ti tl n N (a+2*(L.take limit).length) C' (L.drop limit) nx X):=by
 obtain ⟨x,hx⟩:=exE (w.heap.size)
 obtain ⟨wb,hwb⟩:=exE (w.alloc (.cells #[.int .i64 0] 34))
 have E0:Hid (ChE bse w1 w x 0 wb K sb rb ti tl n N a C L nx X):=Hd (by subst hx hwb;exact ChE.start h.out)
 obtain ⟨k,MK⟩:=zmz w1 wb wb _ sb rb ti tl n N a nx C L X (Hd E0.out.st)
 have F:=zmF w1 wb wb _ sb rb ti tl n N a nx C L X limit (Hd E0.out.st) ⟨by omega,hN.2⟩ (by omega) hl2
 have HN:=Hd hN
 have HB:=Hd hB
 have HH:=Hd h.out
 obtain ⟨T,hT⟩:=exE (L.take limit)
 have HT:Hid (L.take limit=T):=Hd hT
 have HTL:Hid (T.length<=L.length/\L=T++L.drop limit):=Hd ⟨by rw [<-hT,List.length_take];omega,by rw [<-hT];exact (List.take_append_drop limit L).symm⟩
 have HOK:Hid (∀ e∈T,e.id.size=33):=Hd λ e he=>(h.out.ok.2.2.1 e (List.mem_of_mem_take (by rw [hT];exact he))).1.id
 rw [hT] at F ⊢
 clear h hN hB hl2 hT
 go_enter_defers Tryz.func20,Tryz.ntmps20
 go_wp2_with fail
 subst hx
 refine MK.mono ?_
 rintro e wm ⟨rfl,rfl⟩
 go_wp2_with fail
 refine F.mono ?_
 rintro e w4 ⟨v,rfl,HS⟩
 clear F MK
 obtain ⟨va,vc,hv⟩:∃ va vc,v=.slice va T.length vc:=by
  rcases HS.out.1.2 with ⟨rfl,h0⟩|⟨g,cap,cur,rfl,-⟩
  ·exact ⟨_,_,by rw [h0]⟩
  ·exact ⟨_,_,rfl⟩
 subst hv
 have E4:=Hd (ChE.row w1 w K sb rb ti tl n N a nx C L X E0.out HS.out)
 have hend:Hid (∀ w9 er a9 C9 L9 nx9 X9,ChE bse w1 w4 w.heap.size er w9 (λ k=>K k\/(Value.slice va T.length vc).ownBlock=some k) sb rb ti tl n N a9 C9 L9 nx9 X9->Chs bse w1 w0 w9 K sb rb ti tl n N a9 C9 L9 nx9 X9):=Hd λ w9 er a9 C9 L9 nx9 X9 h9=>by
  have h1:=h9.st.mono (K':=K) λ k hk=>.inl (.inl hk)
  refine h1.to ?_
  exact ((HH.out.kept.trans E0.out.kp).trans (HS.out.2.2.mono λ k hk=>.inl hk)).trans (h9.kp.mono λ k hk=>.inl hk)
 obtain ⟨cx,fx,lx⟩:=E4.out.cell
 have E5:=Hd (E4.out.set 0)
 have R0:Hid (∃ Ci,Mg C (T.take 0) Ci/\ChE bse w1 w4 w.heap.size 0 (w4.setCell ⟨w.heap.size,0,none⟩ (.int .i64 0)) (λ k=>K k\/(Value.slice va T.length vc).ownBlock=some k) sb rb ti tl n N (a+2*0) Ci (L.drop 0) nx X):=Hd ⟨C,by simpa using Mg.nil,by simpa using E5.out⟩
 have CE:Hid (∀ i (hi:i<T.length),∃ g,va=some ⟨g,0,none⟩/\∀ W,zbX (λ k=>K k\/(Value.slice va T.length vc).ownBlock=some k) w4 W->W.cell? ⟨g,i*3,none⟩=some (.string (zbY T[i].n))/\W.cell? ⟨g,i*3+1,none⟩=some (.string T[i].id)/\W.cell? ⟨g,i*3+2,none⟩=some (.int .i64 T[i].by)):=Hd λ i hi=>by
  have hr:=HS.out.1
  rcases hr.2 with ⟨e,h0⟩|⟨g,cap,cur,e,h1,h2,-⟩
  ·omega
  ·cases e
   obtain ⟨x,y,z⟩:=zg6 T i hi
   refine ⟨g,rfl,λ W hW=>?_⟩
   have hb:W.heap[g]?=w4.heap[g]?:=hW g (.inr rfl)
   have q:∀ j v,w4.cell? ⟨g,j,none⟩=some v->W.cell? ⟨g,j,none⟩=some v:=λ j v hv=>(zCb hb).trans hv
   refine ⟨q _ _ ?_,q _ _ ?_,q _ _ ?_⟩
   ·rw [hr.cellAt (i*3) (by omega),x]
   ·rw [hr.cellAt (i*3+1) (by omega),y]
   ·rw [hr.cellAt (i*3+2) (by omega),z]
 clear HS E4 E5
 go_wp2_with fail
 go_loopg [8,9,10,11,12,13,14,30] T.length (λ g s8 s9 s10 s11 s12 s13 s14 s30 wr=>∃ (i:Nat),g=T.length-i/\i<=T.length/\s30=.int .i64 (i:Int)/\Hid (∃ Ci,Mg C (T.take i) Ci/\ChE bse w1 w4 w.heap.size 0 wr (λ k=>K k\/(Value.slice va T.length vc).ownBlock=some k) sb rb ti tl n N (a+2*i) Ci (L.drop i) nx X))
 case atStart=>exact ⟨0,rfl,zNz _,rfl,R0⟩
 case round =>
  obtain ⟨i,rfl,hi,rfl,HR⟩:=hrel
  clear R0 cx fx lx
  by_cases hlt:i<T.length
  ·obtain ⟨g,rfl,hcell⟩:=CE.out i hlt
   obtain ⟨Ci,hm,ER⟩:=HR.out
   obtain ⟨c0,c1,c2⟩:=hcell wr ER.kp
   obtain ⟨LD,hLD⟩:=exE (L.drop (i+1))
   have hdrop:L.drop i=T[i]::LD:=by
    rw [<-hLD]
    have h1:i<L.length:=by have:=HTL.out.1;omega
    rw [List.drop_eq_getElem_cons h1]
    congr 1
    have h2:=HTL.out.2
    have:L[i]?=T[i]?:=by
     conv=>lhs;rw [h2]
     exact List.getElem?_append_left hlt
    rw [List.getElem?_eq_getElem h1,List.getElem?_eq_getElem hlt] at this
    exact Option.some.inj this
   have hid:=HOK.out T[i] (List.getElem_mem hlt)
   have htk:T.take (i+1)=T.take i++[T[i]]:=by rw [zTs hlt]
   have hcnt:=hm.cnts HB.out
   have htl:(T.take i).length<=1000:=by have:=HTL.out.1;have:=HN.out;rw [List.length_take];omega
   have hby:-1<=T[i].by/\T[i].by<=1:=by unfold Lg.by;split <;> omega
   generalize T[i]=en at *
   rw [hdrop] at ER
   have HLT:=Hd hlt
   have hsm:i<=1000000:=by have:=HTL.out.1;have:=HN.out;omega
   have hiN:a+2*i+2<=N:=by have:=HTL.out.1;have:=HN.out;omega
   have HIN:=Hd hiN
   have E6:=Hd (ER.new (.cells #[.string (zbY en.n),.string en.id,.int .i64 en.by] 146))
   have HM:Hid (∀ C2,zfR Ci en C2->Mg C (T.take (i+1)) C2):=Hd λ C2 h2=>by rw [htk];exact Mg.snoc hm h2
   have HNX:Hid (∀ W C2,zfR Ci en C2->ChE bse w1 (wr.alloc (.cells #[.string (zbY en.n),.string en.id,.int .i64 en.by] 146)) w.heap.size 0 W (λ k=>(K k\/(Value.slice (some ⟨g,0,none⟩) T.length vc).ownBlock=some k)\/k=wr.heap.size) sb rb ti tl n N (a+2*i+2) C2 LD nx X->∃ Ci,Mg C (T.take (i+1)) Ci/\ChE bse w1 w4 w.heap.size 0 W (λ k=>K k\/(Value.slice (some ⟨g,0,none⟩) T.length vc).ownBlock=some k) sb rb ti tl n N (a+2*(i+1)) Ci (L.drop (i+1)) nx X):=Hd λ W C2 hs h9=>⟨C2,HM.out C2 hs,by rw [hLD];exact ER.old h9⟩
   have blk:Hid ((wr.alloc (.cells #[.string (zbY en.n),.string en.id,.int .i64 en.by] 146)).heap[wr.heap.size]?=some (.cells #[.string (zbY en.n),.string en.id,.int .i64 en.by] 146 (0,0))):=Hd (heap_alloc_new _ _)
   have CY:Hid (∀ W C2 L2 a2,ChE bse w1 (wr.alloc (.cells #[.string (zbY en.n),.string en.id,.int .i64 en.by] 146)) w.heap.size 0 W (λ k=>(K k\/(Value.slice (some ⟨g,0,none⟩) T.length vc).ownBlock=some k)\/k=wr.heap.size) sb rb ti tl n N a2 C2 L2 nx X->(W.cell? ⟨sb,2,none⟩=some (.pointer (some ⟨tl,0,none⟩))/\W.cell? ⟨wr.heap.size,0,none⟩=some (.string (zbY en.n)))/\W.cell? ⟨wr.heap.size,1,none⟩=some (.string en.id)/\W.cell? ⟨wr.heap.size,2,none⟩=some (.int .i64 en.by)/\wr.heap.size<W.heap.size/\sb<W.heap.size):=Hd λ W C2 L2 a2 h9=>by
    have hb:=(h9.kp wr.heap.size (.inr rfl)).trans blk.out
    exact ⟨⟨h9.st.sbk.cells.2.2,zaa hb rfl⟩,zaa hb rfl,zaa hb rfl,zab hb,zab h9.st.sbk.1⟩
   have DL:Hid (∀ W C2 a2,a2<=a+2*i+1->Hid (ChE bse w1 (wr.alloc (.cells #[.string (zbY en.n),.string en.id,.int .i64 en.by] 146)) w.heap.size 0 W (λ k=>(K k\/(Value.slice (some ⟨g,0,none⟩) T.length vc).ownBlock=some k)\/k=wr.heap.size) sb rb ti tl n N a2 C2 (en::LD) nx X)->Calls Tryz.prog 74 #[.pointer (some ⟨tl,0,none⟩),.string (zbY en.n)] W λ e w'=>e=.returned (.tuple #[.bool true,.int .i64 0])/\(w'.cell? ⟨sb,2,none⟩=some (.pointer (some ⟨tl,0,none⟩))/\w'.cell? ⟨wr.heap.size,0,none⟩=some (.string (zbY en.n)))/\Hid (ChE bse w1 (wr.alloc (.cells #[.string (zbY en.n),.string en.id,.int .i64 en.by] 146)) w.heap.size 0 w' (λ k=>(K k\/(Value.slice (some ⟨g,0,none⟩) T.length vc).ownBlock=some k)\/k=wr.heap.size) sb rb ti tl n N (a+2*i+2) C2 LD nx X)):=Hd λ W C2 a2 ha hW=>by
    refine (zqw en (Hd hW.out.st) (by have:=HIN.out;have:=HN.out;omega)).mono ?_
    rintro e w' ⟨rfl,hE⟩
    have h9:=(hW.out.step hE.out).more (a':=a+2*i+2) (by omega)
    exact ⟨rfl,(CY.out _ _ _ _ h9).1,Hd h9⟩
   cases hf:cAt Ci en.id with
   | none =>
     have FN:=zg4 en.id (Hd E6.out.st) (by have:=HN.out;omega) (by omega) hf
     rw [show ck0=.agg #[.int .i64 0,.int .i64 0,.int .i64 0] from rfl] at FN
     have HS0:Hid (zfR Ci en Ci):=Hd (.inl ⟨hf,rfl⟩)
     have HF:=Hd hf
     clear hf hcnt htl hby hiN hm ER hcell hdrop htk hid hi hLD
     generalize en.id=id at *
     generalize en.by=by_ at *
     generalize zbY en.n=ky at *
     clear hlt
     go_wp2_with fail
     refine FN.mono ?_
     rintro e w6 ⟨rfl,G6⟩
     have E7:=Hd (E6.out.step G6.out)
     obtain ⟨⟨d0,d1⟩,d2,d3,d4,d5⟩:=CY.out _ _ _ _ E7.out
     have E8:Hid (∀ o,ChE bse w1 _ w.heap.size 0 (w6.alloc o).drew _ sb rb ti tl n N (a+2*i) Ci (en::LD) nx X):=Hd λ o=>E7.out.below ((zBr w6.heap.size w6).alloc (zNr _) o).drew
     clear FN G6
     go_wp2_with fail
     go_region_held3 (λ w'=>w'.cell? ⟨sb,2,none⟩=some (.pointer (some ⟨tl,0,none⟩))/\w'.cell? ⟨wr.heap.size,0,none⟩=some (.string ky)) (go_keep) ((first
      | (go_at_call 74
         refine Calls.at_args (DL.out _ Ci (a+2*i) (by omega) (Hd (E8.out _))) (by with_reducible rfl) ?_
         rintro e w9 ⟨rfl,hk9,H9⟩)))
     all_goals go_wp2_with fail
     all_goals go_roundg (T.length-(i+1))
     all_goals (first
      | (case measure=>have:=HLT.out;omega)
      | (case rel=>exact ⟨i+1,rfl,HLT.out,by congr 1,Hd (HNX.out _ _ HS0.out H9.out)⟩))
   | some c =>
     obtain ⟨hmem,hcid⟩:=zaQ hf
     have hok:=E6.out.st.ok.1 c hmem
     have hcb:=hcnt c hmem
     have FY:=zcW en.id c (Hd E6.out.st) (by have:=HN.out;omega) (by omega) hf
     rw [show c.v=.agg #[.int .i64 (c.page:Int),.int .i64 (c.text.size:Int),.int .i64 c.cnt] from rfl] at FY
     have KP:Hid (∀ W,Hid (ChE bse w1 (wr.alloc (.cells #[.string (zbY en.n),.string en.id,.int .i64 en.by] 146)) w.heap.size 0 W (λ k=>(K k\/(Value.slice (some ⟨g,0,none⟩) T.length vc).ownBlock=some k)\/k=wr.heap.size) sb rb ti tl n N (a+2*i) Ci (en::LD) nx X)->Calls Tryz.prog 68 #[.pointer (some ⟨sb,0,none⟩),.string en.id,.agg #[.int .i64 (c.page:Int),.int .i64 (c.text.size:Int),.int .i64 (c.cnt+en.by)]] W λ e w'=>e=.returned (.int .i64 0)/\Hid (∃ C2,zfR Ci en C2/\ChE bse w1 (wr.alloc (.cells #[.string (zbY en.n),.string en.id,.int .i64 en.by] 146)) w.heap.size 0 w' (λ k=>(K k\/(Value.slice (some ⟨g,0,none⟩) T.length vc).ownBlock=some k)\/k=wr.heap.size) sb rb ti tl n N (a+2*i+1) C2 (en::LD) nx X)):=Hd λ W hW=>by
      have hk:=zh3 (c.add en.by) c (Ck.add_ok hok (by omega) (by omega)) (by show cAt Ci c.id=some c;rw [hcid];exact hf) (Hd hW.out.st) (by have:=HIN.out;have:=HN.out;omega)
      rw [show (c.add en.by).id=en.id from hcid] at hk
      refine hk.mono ?_
      rintro e w' ⟨rfl,hE⟩
      obtain ⟨C2,h1,h2⟩:=hE.out
      exact ⟨rfl,Hd ⟨C2,.inr ⟨c,hf,h2⟩,hW.out.step h1⟩⟩
     have kw:IntKind.i64.wrap (c.cnt+en.by)=c.cnt+en.by:=zcX (by omega) (by omega)
     clear hf hcnt htl hby hiN hm ER hcell hdrop htk hid hi hLD hmem hok hcb hcid
     generalize c.page=z0 at *
     generalize (c.text.size:Int)=z1 at *
     generalize c.cnt=z2 at *
     generalize en.id=id at *
     generalize en.by=by_ at *
     generalize zbY en.n=ky at *
     clear hlt
     go_wp2_with fail
     refine FY.mono ?_
     rintro e w6 ⟨rfl,G6⟩
     have E7:=Hd (E6.out.step G6.out)
     obtain ⟨⟨d0,d1⟩,d2,d3,d4,d5⟩:=CY.out _ _ _ _ E7.out
     have E8:Hid (∀ o,ChE bse w1 _ w.heap.size 0 (w6.alloc o) _ sb rb ti tl n N (a+2*i) Ci (en::LD) nx X):=Hd λ o=>E7.out.below ((zBr w6.heap.size w6).alloc (zNr _) o)
     clear FY G6
     go_wp2_with fail
     refine (KP.out _ (Hd (E8.out _))).mono ?_
     rintro e w7 ⟨rfl,H7⟩
     obtain ⟨C2,HS2,H8⟩:=H7.out
     have HS3:=Hd HS2
     have H9:=Hd H8
     have H10:=Hd (H8.below (zBr w7.heap.size w7).drew)
     clear HS2 d0 d1 d2 d3 d4 d5
     obtain ⟨⟨d0,d1⟩,d2,d3,d4,d5⟩:=CY.out _ _ _ _ H8
     clear H8 KP E8
     go_wp2_with fail
     go_region_held3 (λ w'=>w'.cell? ⟨sb,2,none⟩=some (.pointer (some ⟨tl,0,none⟩))/\w'.cell? ⟨wr.heap.size,0,none⟩=some (.string ky)) (go_keep) ((first
      | (go_at_call 74
         refine Calls.at_args (DL.out _ C2 (a+2*i+1) (zNr _) H10) (by with_reducible rfl) ?_
         rintro e w9 ⟨rfl,hk9,H11⟩)))
     all_goals go_wp2_with fail
     all_goals go_roundg (T.length-(i+1))
     all_goals (first
      | (case measure=>have:=HLT.out;omega)
      | (case rel=>exact ⟨i+1,rfl,HLT.out,by congr 1,Hd (HNX.out _ _ HS3.out H11.out)⟩))
  ·obtain rfl:i=T.length:=by omega
   obtain ⟨Ci,hm,hE⟩:=HR.out
   rw [List.take_length] at hm
   have hE8:=Hd (hE.set 0)
   have hfin:=hE8.out.cell.1
   obtain ⟨cx,fx,lx⟩:=hE.cell
   have HD:Hid (L.drop T.length=L.drop limit):=Hd (by
    have h1:=HTL.out.2
    rw [<-HT.out,List.length_take]
    by_cases hc:limit<=L.length
    ·rw [Nat.min_eq_left hc]
    ·rw [Nat.min_eq_right (by omega),List.drop_length,List.drop_eq_nil_of_le (by omega)])
   have HG:Hid (∃ C',Mg C T C'/\Chs bse w1 w0 (wr.setCell ⟨w.heap.size,0,none⟩ (.int .i64 0)) K sb rb ti tl n N (a+2*T.length) C' (L.drop limit) nx X):=Hd ⟨Ci,hm,by rw [<-HD.out];exact hend.out _ _ _ _ _ _ _ hE8.out⟩
   clear hlt hi hm hE
   go_wp2_with fail
   refine leaves_cons (f:=60) (args:=#[.pointer (some ⟨sb,0,none⟩),.int .i64 (k:Int),.pointer (some ⟨w.heap.size,0,none⟩)]) (by simp) (by simp [go_sem]) ?_
   refine (zev _ _ _ _ _ hfin).mono ?_
   rintro e u' w9 ⟨rfl,rfl,rfl⟩
   simp [Leaves,settle,results,Tryz.results20,go_sem,hfin]
   exact HG.out
end
variable {bse:List (Int × ByteArray)}
theorem zh7 (p a b:List UInt8):Op.bytesLess (p++a) (p++b)=Op.bytesLess a b:=by
 induction p with
 | nil=>rfl
 | cons c p ih =>
   show (decide (c<c) || (c == c && Op.bytesLess (p++a) (p++b)))=_
   rw [ih];simp
theorem zkX (p:ByteArray) {j k:Nat} (hj:j<256) (hk:k<256):zah (zas p j) (zas p k)=decide (j<k):=by
 unfold zah
 rw [Lib.toList_data,Lib.toList_data,zdB,zdB,zh7]
 show (decide (UInt8.ofNat j<UInt8.ofNat k) || (UInt8.ofNat j == UInt8.ofNat k && false))=_
 rw [Bool.and_false,Bool.or_false]
 apply decide_eq_decide.2
 rw [UInt8.lt_iff_toNat_lt,UInt8.toNat_ofNat',UInt8.toNat_ofNat']
 omega
theorem zou (p:ByteArray) (j:Nat):zah (zas p j) (p++ffB)=true:=by
 unfold zah
 rw [Lib.toList_data,Lib.toList_data,zdB,show (p++ffB).data.toList=p.data.toList++[255,255] by simp [ffB],zh7]
 show (decide (UInt8.ofNat j<255) || (UInt8.ofNat j == 255 && true))=true
 generalize UInt8.ofNat j=x
 by_cases h:x<255
 ·simp [h]
 ·have:x=255:=by
   apply UInt8.toNat_inj.1
   rw [UInt8.lt_iff_toNat_lt] at h
   have:=x.toNat_lt
   have e:(255:UInt8).toNat=255:=rfl
   omega
  subst this;rfl
theorem NoC.none {C:List Ck} {p:ByteArray} {k:Nat} (h:NoC C (zas p k) (p++ffB)) (hk:k<256) (j:Nat) (h1:k<=j) (h2:j<256):cAt C (zas p j)=none :=
 zmt λ c hc e=>by
  have:=h c hc (by rw [e,zkX p h2 hk];simp;omega)
  rw [e,zou] at this
  cases this
theorem zfS {C:List Ck} {p:ByteArray} {k:Nat} (hk:k<=256) (h:∀ j,j<k->cAt C (zas p j)≠none):k<=C.length:=by
 refine Nat.le_of_not_lt λ hlt=>?_
 obtain ⟨q,q1,q2⟩:=zjz k (C.map λ c=>(c.id.data.toList.getLast?.getD 0).toNat) (by rw [zLm];exact hlt)
 cases hf:cAt C (zas p q) with
 | none=>exact h q q1 hf
 | some c =>
   obtain ⟨h1,h2⟩:=zaQ hf
   refine q2 (List.mem_map.2 ⟨c,h1,?_⟩)
   rw [h2,zdB]
   simp
   omega
def zcp (C:List Ck) (p t:ByteArray) (i:Nat):Prop:=∀ j,j<i->∀ c,cAt C (zas p j)=some c->c.text≠t
def zbN (C:List Ck) (p:ByteArray) (i:Nat) (f:Int):Prop:=(f=-1/\∀ j,j<i->cAt C (zas p j)≠none)\/∃ k:Nat,f=(k:Int)/\k<i/\cAt C (zas p k)=none/\∀ j,j<k->cAt C (zas p j)≠none
theorem zbN.zero (C:List Ck) (p:ByteArray):zbN C p 0 (-1):=.inl ⟨rfl,λ j hj=>absurd hj (by omega)⟩
theorem zbN.yes {C:List Ck} {p:ByteArray} {i:Nat} {f:Int} {c:Ck} (h:zbN C p i f) (hc:cAt C (zas p i)=some c):zbN C p (i+1) f:=by
 rcases h with ⟨h1,h2⟩|⟨k,h1,h2,h3⟩
 ·refine .inl ⟨h1,λ j hj=>?_⟩
  by_cases e:j=i
  ·subst e;rw [hc];simp
  ·exact h2 j (by omega)
 ·exact .inr ⟨k,h1,by omega,h3⟩
theorem zbN.no {C:List Ck} {p:ByteArray} {i:Nat} {f:Int} (h:zbN C p i f) (hc:cAt C (zas p i)=none) (hf:f<0):zbN C p (i+1) (i:Int):=by
 rcases h with ⟨h1,h2⟩|⟨k,h1,h2,h3⟩
 ·exact .inr ⟨i,rfl,by omega,hc,h2⟩
 ·omega
theorem zbN.no' {C:List Ck} {p:ByteArray} {i:Nat} {f:Int} (h:zbN C p i f) (hf:¬f<0):zbN C p (i+1) f:=by
 rcases h with ⟨h1,h2⟩|⟨k,h1,h2,h3⟩
 ·omega
 ·exact .inr ⟨k,h1,by omega,h3⟩
theorem zbN.fin {C:List Ck} {p:ByteArray} {f:Int} (h:zbN C p 256 f) (hC:C.length<256):∃ k:Nat,f=(k:Int)/\k<256/\cAt C (zas p k)=none/\∀ j,j<k->cAt C (zas p j)≠none:=by
 rcases h with ⟨h1,h2⟩|⟨k,h1,h2,h3⟩
 ·have:=zfS (by omega) h2;omega
 ·exact ⟨k,h1,h2,h3⟩
theorem zbN.pos {C:List Ck} {p:ByteArray} {f:Int} {i:Nat} (h:zbN C p i f) (hi:i<=256) (hf:¬f<0):∃ k:Nat,f=(k:Int)/\k<256/\cAt C (zas p k)=none/\∀ j,j<k->cAt C (zas p j)≠none:=by
 rcases h with ⟨h1,h2⟩|⟨k,h1,h2,h3⟩
 ·omega
 ·exact ⟨k,h1,by omega,h3⟩
theorem zcp.zero (C:List Ck) (p t:ByteArray):zcp C p t 0:=λ j hj=>absurd hj (by omega)
theorem zcp.yes {C:List Ck} {p t:ByteArray} {i:Nat} {c:Ck} (h:zcp C p t i) (hc:cAt C (zas p i)=some c) (ht:c.text≠t):zcp C p t (i+1):=λ j hj d hd=>by
 by_cases e:j=i
 ·subst e;rw [hc] at hd;cases hd;exact ht
 ·exact h j (by omega) d hd
theorem zcp.no {C:List Ck} {p t:ByteArray} {i:Nat} (h:zcp C p t i) (hc:cAt C (zas p i)=none):zcp C p t (i+1):=λ j hj d hd=>by
 by_cases e:j=i
 ·subst e;rw [hc] at hd;cases hd
 ·exact h j (by omega) d hd
theorem zcp.all {C:List Ck} {p t:ByteArray} {i:Nat} (h:zcp C p t i) (hi:i<256) (hn:NoC C (zas p i) (p++ffB)):zcp C p t 256:=λ j hj d hd=>by
 by_cases e:j<i
 ·exact h j e d hd
 ·rw [hn.none hi j (by omega) hj] at hd;cases hd
def zfd (bse:List (Int × ByteArray)) (w1 w0 w:World) (K:Nat->Prop) (sb rb ti tl n N a:Nat) (C:List Ck) (L:List Lg) (nx:Nat) (X:List (Nat × ByteArray)) (p t:ByteArray) (id:ByteArray) (fresh:Bool):Prop :=
 (fresh=false/\∃ k c,k<256/\id=zas p k/\cAt C id=some c/\c.text=t/\zcp C p t k/\Chs bse w1 w0 w K sb rb ti tl n N a C L nx X) \/
 (fresh=true/\∃ k page C',k<256/\id=zas p k/\cAt C id=none/\(∀ j,j<k->cAt C (zas p j)≠none)/\zcp C p t 256/\zeC ⟨id,page,0,t⟩ C C'/\Chs bse w1 w0 w K sb rb ti tl n N (a+2) C' L nx ((page,t)::X))
variable {bse:List (Int × ByteArray)}
theorem CGo.base {w1 w0 w:World} {K:Nat->Prop} {sb rb ti tl n m:Nat} {S:RS} (h:CGo w1 w0 w K sb rb ti tl n m S) {P:List (Int × ByteArray)} (hp:P <+: S.base):CGo w1 w0 w K sb rb ti tl n m ⟨S.root,S.used,S.cont,P⟩:=by
 obtain ⟨⟨⟨G,⟨puts,x1,x2,x3⟩,x4,x5,x6⟩,x7⟩,x8⟩:=h
 exact ⟨⟨⟨G,⟨puts,x1,x2,⟨x3.r0,x3.rb,x3.bits,x3.lim,x3.page,hp.trans x3.base⟩⟩,x4,x5,x6⟩,x7⟩,x8⟩
theorem zcV.base {S:RS} {n c a0 a1:Nat} {o0 o1:Option TT} {X:List (Nat × ByteArray)} (h:zcV S n c o0 o1 a0 a1 X) (P:List (Int × ByteArray)):zcV ⟨S.root,S.used,S.cont,P⟩ n c o0 o1 a0 a1 X :=
 ⟨h.t0.keep rfl λ q hq=>⟨rfl,rfl⟩,h.t1.keep rfl λ q hq=>⟨rfl,rfl⟩,h.sp,h.w0,h.w1,h.pg,h.nd,h.al⟩
theorem Chs.rebase {P:List (Int × ByteArray)} {w1 w0 w:World} {K:Nat->Prop} {sb rb ti tl n N a nx:Nat} {C:List Ck} {L:List Lg} {X:List (Nat × ByteArray)} (h:Chs bse w1 w0 w K sb rb ti tl n N a C L nx X) (hp:P <+: bse):Chs P w1 w0 w K sb rb ti tl n N a C L nx X:=by
 obtain ⟨S,o0,o1,h1,h2,h3,h4,h5,h6,h7⟩:=h
 exact ⟨_,o0,o1,h1.base (by rw [h7];exact hp),h2.base P,h3,h4,h5,h6,rfl⟩
structure zq7 (bse:List (Int × ByteArray)) (w1 w0 w:World) (K:Nat->Prop) (sb rb ti tl n N a:Nat) (C:List Ck) (L:List Lg) (nx:Nat) (X:List (Nat × ByteArray)) (puts:List (Int × ByteArray)) (S:RS) (o0 o1:Option TT):Prop where
 go:CGo w1 w0 w K sb rb ti tl n (300*a) S
 base:S.base=puts
 rep:Rep n puts S
 len:puts.length<=300*a
 pre:bse <+: puts
 two:zcV S n (spc N a) o0 o1 a a X
 c:zh0 (zbh o0) C
 g:znp (zbh o1) L nx
 rt:S.root 2=nx
 nx:nx<=a
section
variable {w1 w0 w W w':World} {K:Nat->Prop} {sb rb ti tl n N a m nx:Nat} {C:List Ck} {L:List Lg} {X:List (Nat × ByteArray)} {puts:List (Int × ByteArray)} {S:RS} {o0 o1:Option TT}
theorem Chs.mark (h:Chs bse w1 w0 w K sb rb ti tl n N a C L nx X):∃ puts S o0 o1,zq7 bse w1 w0 w K sb rb ti tl n N a C L nx X puts S o0 o1/\Calls Tryz.prog 61 #[.pointer (some ⟨sb,0,none⟩)] w λ e w'=>e=.returned (.int .i64 (puts.length:Int))/\w=w':=by
 obtain ⟨S0,o0,o1,h1,h2,h3,h4,h5,h6,h7⟩:=h
 obtain ⟨⟨⟨G,⟨puts,x1,x2,x3⟩,x4,x5,x6⟩,x7⟩,x8⟩:=h1
 have r3:Rep n puts ⟨S0.root,S0.used,S0.cont,puts⟩:=⟨x3.r0,x3.rb,x3.bits,x3.lim,x3.page,List.prefix_refl _⟩
 refine ⟨puts,⟨S0.root,S0.used,S0.cont,puts⟩,o0,o1,⟨⟨⟨⟨G,⟨puts,x1,x2,r3⟩,x4,x5,x6⟩,x7⟩,x8⟩,rfl,r3,x1,by rw [<-h7];exact x3.base,⟨h2.t0.keep rfl λ q hq=>⟨rfl,rfl⟩,h2.t1.keep rfl λ q hq=>⟨rfl,rfl⟩,h2.sp,h2.w0,h2.w1,h2.pg,h2.nd,h2.al⟩,h3,h4,h5,h6⟩,?_⟩
 have MK:=zdR G rb n puts w x2
 obtain ⟨s0,s1,s2⟩:=x7.cells
 go_enter Tryz.func61,Tryz.ntmps61
 go_wp2_with fail
 refine MK.mono ?_
 rintro e w2 ⟨rfl,rfl⟩
 go_wp2_with fail
 go_ret
 exact ⟨rfl,rfl⟩
theorem zq7.chs (h:zq7 bse w1 w0 w K sb rb ti tl n N a C L nx X puts S o0 o1) (g:CGo w1 W w' K sb rb ti tl n (300*a) S):Chs bse w1 W w' K sb rb ti tl n N a C L nx X :=
 Chs.rebase (bse:=puts) ⟨S,o0,o1,g,h.two,h.c,h.g,h.rt,h.nx,h.base⟩ h.pre
theorem zpl {S3:RS} (h:CGo w1 w0 W K sb rb ti tl n m S3) (hm:m<=4000000) (hb:S3.base=puts) (hr:Rep n puts S) (hl:puts.length<=300*a) :
 Calls Tryz.prog 77 #[.pointer (some ⟨sb,0,none⟩),.int .i64 (puts.length:Int)] W λ e w'=>e=.returned (.tuple #[])/\Hid (CGo w1 W w' K sb rb ti tl n (300*a) S):=by
 obtain ⟨h1,h2⟩:=h
 obtain ⟨⟨G,⟨puts3,x1,x2,x3⟩,x4,x5,x6⟩,x7⟩:=id h1
 have hpre:=x3.base
 rw [hb] at hpre
 obtain ⟨tail,rfl⟩:=hpre
 have BK:=ziN G rb n puts tail W x2 (by omega)
 have HE:Hid (∀ w',(∃ G',Rm w' G' rb n puts/\zdb G G' W w')->CGo w1 W w' K sb rb ti tl n (300*a) S):=Hd λ w' ⟨G2,c1,c2⟩=>by
  have hg:=RSt.of x4 x5 x6 (S':=S) (m':=300*a) ⟨G2,⟨puts,hl,c1,hr⟩,c2⟩
  exact h1.of hg.1 hg.2
 obtain ⟨s0,s1,s2⟩:=x7.cells
 have hk:Hid (∀ w',zdb G G w' w'->True):=Hd λ _ _=>trivial
 generalize (puts.length:Int)=pl at *
 clear h1 h2 x1 x2 x3 x4 x5 x6 x7 hb hr hl hm hk
 go_enter Tryz.func77,Tryz.ntmps77
 go_wp2_with fail
 refine BK.mono ?_
 rintro e w1 ⟨rfl,HB⟩
 have HF:=Hd (HE.out _ HB.out)
 go_wp2_with fail
 go_end0
 exact ⟨rfl,HF⟩
theorem Chs.markB (h:Chs bse w1 w0 w K sb rb ti tl n N a C L nx X):∃ puts:List (Int × ByteArray),bse <+: puts/\Chs puts w1 w0 w K sb rb ti tl n N a C L nx X/\(Calls Tryz.prog 61 #[.pointer (some ⟨sb,0,none⟩)] w λ e w'=>e=.returned (.int .i64 (puts.length:Int))/\w=w') /\
 Hid (∀ (W W0:World) (K2:Nat->Prop) (N2 a2 nx2:Nat) (C2:List Ck) (L2:List Lg) (X2:List (Nat × ByteArray)),Chs puts w1 W0 W K2 sb rb ti tl n N2 a2 C2 L2 nx2 X2->a2<=1000->Calls Tryz.prog 77 #[.pointer (some ⟨sb,0,none⟩),.int .i64 (puts.length:Int)] W λ e w'=>e=.returned (.tuple #[])/\Hid (Chs puts w1 W w' K2 sb rb ti tl n N a C L nx X)):=by
 obtain ⟨puts,S,o0,o1,M,MK⟩:=h.mark
 refine ⟨puts,M.pre,⟨S,o0,o1,M.go,M.two,M.c,M.g,M.rt,M.nx,M.base⟩,MK,Hd λ W W0 K2 N2 a2 nx2 C2 L2 X2 h2 ha=>?_⟩
 obtain ⟨S3,p0,p1,g1,-,-,-,-,-,g7⟩:=h2
 refine (zpl (a:=a) g1 (by omega) g7 M.rep M.len).mono ?_
 rintro e w' ⟨rfl,hE⟩
 exact ⟨rfl,Hd ⟨S,o0,o1,hE.out,M.two,M.c,M.g,M.rt,M.nx,M.base⟩⟩
theorem zbb (eb:Nat) (er k:Int) (u:FrameMode) (w:World) {Q:World->Prop} (he:w.cell? ⟨eb,0,none⟩=some (.int .i64 er)) (h0:er≠0)
 (BK:Calls Tryz.prog 77 #[.pointer (some ⟨sb,0,none⟩),.int .i64 k] w λ e w'=>e=.returned (.tuple #[])/\Hid (Q w')) :
 CallsD Tryz.prog 60 #[.pointer (some ⟨sb,0,none⟩),.int .i64 k,.pointer (some ⟨eb,0,none⟩)] u w λ e u' w'=>u'=u/\(e=.returned (.tuple #[])/\Hid (Q w')):=by
 have hne:(er != 0)=true:=by simp [h0]
 clear h0
 go_enter_d Tryz.func60,Tryz.ntmps60
 go_wp2_with fail
 refine BK.mono ?_
 rintro e w1 ⟨rfl,HB⟩
 go_wp2_with fail
 go_end0
 exact ⟨rfl,HB⟩
end
end Go.Proofs.YtdcjhpafipbpkaaGreatDoor
