/- Parts of the proof of ChunksFull,joined: RcpM,RfsQ,RfsA,RfsB,SumQ,RprA,RprB,RprC,RdA,RprD,RfsC,RfsD,RfsE. No condition. -/
import Derived.Test.YtdcjhpafipbpkaaGreatDoorCf7
import Derived.Lib.Strings
import Derived.Deep.RegionHeld3
import Derived.Deep.AppendSrc
import Derived.Laws.ResultCell
set_option maxRecDepth 100000
set_option maxHeartbeats 8000000
set_option linter.unusedSimpArgs false
set_option linter.unusedVariables false
set_option linter.unusedSectionVars false
namespace Go.Proofs.YtdcjhpafipbpkaaGreatDoor
open Go.RowKit
def ckC (C:List RCk):List Value:=C.flatMap λ c=>[.string c.1,.string c.2.1,.int .i64 c.2.2]
def enC (L:List REn):List Value:=L.flatMap λ e=>[.string e.1,.int .i64 e.2]
theorem zi2 (C:List RCk):(ckC C).length=C.length*3:=by
 induction C with
 | nil=>rfl
 | cons c C ih =>
   simp only [ckC,List.flatMap_cons,zLa,zLc,List.length_nil] at ih ⊢
   rw [ih];omega
theorem zmV (L:List REn):(enC L).length=L.length*2:=by
 induction L with
 | nil=>rfl
 | cons c C ih =>
   simp only [enC,List.flatMap_cons,zLa,zLc,List.length_nil] at ih ⊢
   rw [ih];omega
theorem zkc (C:List RCk) (c:RCk):ckC (C++[c])=ckC C++[.string c.1,.string c.2.1,.int .i64 c.2.2]:=by simp [ckC]
theorem zox (L:List REn) (e:REn):enC (L++[e])=enC L++[.string e.1,.int .i64 e.2]:=by simp [enC]
theorem zcm:∀ {C:List RCk} {k:Nat} (h:k<C.length),(ckC C)[k*3]?=some (.string C[k].1)/\(ckC C)[k*3+1]?=some (.string C[k].2.1)/\(ckC C)[k*3+2]?=some (.int .i64 C[k].2.2)
 | [],k,h=>by simp at h
 | c::C,0,h=>⟨rfl,rfl,rfl⟩
 | c::C,k+1,h=>by
   have ih:=zcm (C:=C) (k:=k) (by simpa using h)
   have e:ckC (c::C)=.string c.1::.string c.2.1::.int .i64 c.2.2::ckC C:=rfl
   rw [e,show (k+1)*3=k*3+1+1+1 by omega]
   simp only [List.getElem?_cons_succ,List.getElem_cons_succ]
   exact ih
theorem zi3:∀ {L:List REn} {k:Nat} (h:k<L.length),(enC L)[k*2]?=some (.string L[k].1)/\(enC L)[k*2+1]?=some (.int .i64 L[k].2)
 | [],k,h=>by simp at h
 | c::C,0,h=>⟨rfl,rfl⟩
 | c::C,k+1,h=>by
   have ih:=zi3 (L:=C) (k:=k) (by simpa using h)
   have e:enC (c::C)=.string c.1::.int .i64 c.2::enC C:=rfl
   rw [e,show (k+1)*2=k*2+1+1 by omega]
   simp only [List.getElem?_cons_succ,List.getElem_cons_succ]
   exact ih
def StR (w:World) (v:Value) (C:List RCk) (L:List REn):Prop :=
 ∃ va vl,v=.agg #[va,vl]/\zaB w va C.length 3 (ckC C)/\zaB w vl L.length 2 (enC L)
theorem StR.below {w w':World} {v:Value} {C:List RCk} {L:List REn} (h:StR w v C L) (hb:Below w.heap.size w w'):StR w' v C L:=by
 obtain ⟨va,vl,rfl,h1,h2⟩:=h
 exact ⟨va,vl,rfl,h1.below hb,h2.below hb⟩
theorem StR.nil (w:World):StR w (.agg #[.slice none 0 0,.slice none 0 0]) [] []:=⟨_,_,rfl,zaB.nil w 3,zaB.nil w 2⟩
theorem zsm {C:List RCk} {id:ByteArray} {k:Nat} (hk:k<C.length) (e:C[k].1=id) (hno:∀ j (hj:j<k),(C[j]'(Nat.lt_trans hj hk)).1≠id):ixR C id=(k:Int):=by
 have:C.findIdx? (λ c=>decide (c.1=id))=some k:=by
  rw [List.findIdx?_eq_some_iff_getElem]
  exact ⟨hk,by simp [e],λ j hj=>by simpa using hno j hj⟩
 unfold ixR;rw [this]
theorem zoy {C:List RCk} {id:ByteArray} (hno:∀ j (hj:j<C.length),C[j].1≠id):ixR C id=-1:=by
 have:C.findIdx? (λ c=>decide (c.1=id))=none:=by
  rw [List.findIdx?_eq_none_iff]
  intro c hc
  obtain ⟨j,hj,rfl⟩:=List.mem_iff_getElem.1 hc
  simpa using hno j hj
 unfold ixR;rw [this]
theorem zmW {a b:ByteArray} (h:a≠b):(a.toList == b.toList)=false:=by
 rw [beq_eq_false_iff_ne]
 intro e
 rw [Lib.toList_data,Lib.toList_data] at e
 exact h (ByteArray.ext (Array.toList_inj.1 e))
theorem zib (v:Value) (C:List RCk) (L:List REn) (id:ByteArray) (w:World) (h:StR w v C L) (hC:C.length<=1000000) :
 Calls Tryz.prog 102 #[v,.string id] w λ e w'=>e=.returned (.int .i64 (ixR C id))/\Hid (Below w.heap.size w w'):=by
 obtain ⟨va,vl,rfl,h1,-⟩:=h
 obtain ⟨wb,hwb⟩:=exE (w.alloc (.cells #[va,vl] 52))
 have HB:Hid (Below w.heap.size w wb):=Hd (by rw [<-hwb];exact (zBr _ _).alloc (zNr _) _)
 have HR:=Hd (h1.below HB.out)
 have cb:wb.cell? ⟨w.heap.size,0,none⟩=some va:=by rw [<-hwb];exact zaa (heap_alloc_new _ _) rfl
 obtain ⟨a,cap,rfl,hcap⟩:=h1.form
 have HCL:=Hd hC
 clear h1 hcap hC
 go_enter Tryz.func102,Tryz.ntmps102
 go_wp2_with fail
 clear hwb
 go_loopg [5] C.length (λ g s5 wr=>∃ (k:Nat),g=C.length-k/\k<=C.length/\s5=.int .i64 (k:Int)/\Hid (∀ j (hj:j<k) (hk:j<C.length),C[j].1≠id)/\wb=wr)
 case atStart=>exact ⟨0,rfl,zNz _,rfl,Hd λ j hj=>absurd hj (by omega),rfl⟩
 case round =>
  obtain ⟨k,rfl,hk,rfl,HN,rfl⟩:=hrel
  by_cases hlt:k<C.length
  ·obtain ⟨c1,-,-⟩:=zcm hlt
   obtain ⟨b,off,rfl,hb,hc⟩:=HR.out.get c1
   have ck:=hc _ _ c1
   have HLT:=Hd hlt
   have hsm:C.length<=1000000:=HCL.out
   by_cases he:C[k].1=id
   ·have HE:=Hd (zsm hlt he λ j hj=>HN.out j hj _)
    have heq:(C[k].1.toList == id.toList)=true:=by rw [he];simp
    clear HN hc he
    generalize C[k].1=i at *
    go_wp2_with fail
    go_ret
    exact ⟨congrArg (λ z=>Ending.returned (.int .i64 z)) HE.out.symm,HB⟩
   ·have HN2:Hid (∀ j (hj:j<k+1) (hk:j<C.length),C[j].1≠id):=Hd λ j hj hk'=>by
     by_cases e:j=k
     ·subst e;exact he
     ·exact HN.out j (by omega) hk'
    have heq:(C[k].1.toList == id.toList)=false:=by
     exact zmW he
    clear HN hc he
    generalize C[k].1=i at *
    go_wp2_with fail
    go_roundg (C.length-(k+1))
    case measure=>have:=HLT.out;omega
    case rel=>exact ⟨k+1,rfl,HLT.out,by congr 1,HN2,rfl⟩
  ·obtain rfl:k=C.length:=by omega
   have HE:=Hd (zoy λ j hj=>HN.out j hj hj)
   clear HN hk hlt
   go_wp2_with fail
   go_ret
   exact ⟨congrArg (λ z=>Ending.returned (.int .i64 z)) HE.out.symm,HB⟩
def znq (C:List RCk) (id:ByteArray):ByteArray × Int:=match zhj C id with
 | some c=>(c.2.1,0)
 | none=>(⟨#[]⟩,6)
theorem zpn (v:Value) (C:List RCk) (L:List REn) (id:ByteArray) (w:World) (h:StR w v C L) (hC:C.length<=1000000) :
 Calls Tryz.prog 86 #[v,.string id] w λ e w'=>e=.returned (.tuple #[.string (znq C id).1,.int .i64 (znq C id).2])/\Hid (Below w.heap.size w w'):=by
 obtain ⟨va,vl,rfl,h1,h2⟩:=h
 obtain ⟨wb,hwb⟩:=exE (w.alloc (.cells #[va,vl] 52))
 have HB:Hid (Below w.heap.size w wb):=Hd (by rw [<-hwb];exact (zBr _ _).alloc (zNr _) _)
 have AT:=zib (.agg #[va,vl]) C L id wb ⟨va,vl,rfl,h1.below HB.out,h2.below HB.out⟩ hC
 have hbl:wb.heap[w.heap.size]?=some (.cells #[va,vl] 52 (0,0)):=by rw [<-hwb];exact heap_alloc_new _ _
 have HBL:=Hd hbl
 have cb:=zaa hbl (i:=0) rfl
 have cb1:=zaa hbl (i:=1) rfl
 have HR:=Hd (h1.below HB.out)
 obtain ⟨a,cap,rfl,hcap⟩:=h1.form
 clear h1 h2 hbl hcap
 cases hf:zhj C id with
 | none =>
   have hx:=(zdD hf).1
   have HE:=Hd (show znq C id=(⟨#[]⟩,6) by unfold znq;rw [hf])
   rw [hx] at AT
   clear hx hf HR
   go_enter Tryz.func86,Tryz.ntmps86
   go_wp2_with fail
   refine AT.mono ?_
   rintro e w2 ⟨rfl,H2⟩
   have HG:=Hd (HB.out.trans (H2.out.mono HB.out.size))
   clear AT H2 hwb
   go_wp2_with fail
   go_ret2
   rw [HE.out]
   exact ⟨rfl,HG⟩
 | some c =>
   obtain ⟨i,hi,hc,hx,-⟩:=zcY hf
   have HE:=Hd (show znq C id=(c.2.1,0) by unfold znq;rw [hf])
   rw [hx] at AT
   obtain ⟨-,c1,-⟩:=zcm hi
   obtain ⟨b,off,rfl,hb,hcell⟩:=HR.out.get c1
   have ck:=hcell _ _ c1
   rw [hc] at ck
   have HCK:Hid (∀ w2,Below wb.heap.size wb w2->w2.cell? ⟨w.heap.size,0,none⟩=some (.slice (some ⟨b,off,none⟩) C.length cap)/\w2.cell? ⟨b,off+i*3+1,none⟩=some (.string c.2.1)):=Hd λ w2 h=>⟨(h.cell (p:=⟨w.heap.size,0,none⟩) (zab HBL.out)).trans cb,(h.cell (p:=⟨b,off+i*3+1,none⟩) hb).trans ck⟩
   have hi0:((i:Int)<0)=False:=eq_false (by omega)
   clear hx hf HR hcell ck c1 hc hb
   go_enter Tryz.func86,Tryz.ntmps86
   go_wp2_with fail
   refine AT.mono ?_
   rintro e w2 ⟨rfl,H2⟩
   obtain ⟨d0,d1⟩:=HCK.out w2 H2.out
   have HG:=Hd (HB.out.trans (H2.out.mono HB.out.size))
   clear AT H2 hwb cb cb1 HCK
   go_wp2_with fail
   go_ret2
   rw [HE.out]
   exact ⟨rfl,HG⟩
theorem zsR (e f g:Nat) (he:e<4294967296) (hf:f<4294967296) (hg:g<4294967296):g ^^^ (e &&& (f ^^^ g))=(e &&& f)+((4294967295-e) &&& g):=by
 have hz:(BitVec.ofNat 32 e &&& BitVec.ofNat 32 f) &&& (~~~(BitVec.ofNat 32 e) &&& BitVec.ofNat 32 g)=0#32:=by
  ext i hi
  simp
  intro h1 _ h2;rw [h1] at h2;cases h2
 have h1:=congrArg BitVec.toNat (BitVec.add_eq_or_of_and_eq_zero _ _ hz)
 have hx:BitVec.ofNat 32 g ^^^ (BitVec.ofNat 32 e &&& (BitVec.ofNat 32 f ^^^ BitVec.ofNat 32 g))=(BitVec.ofNat 32 e &&& BitVec.ofNat 32 f) ||| (~~~(BitVec.ofNat 32 e) &&& BitVec.ofNat 32 g):=by
  ext i hi
  simp
  cases (BitVec.ofNat 32 e)[i] <;> cases (BitVec.ofNat 32 f)[i] <;> cases (BitVec.ofNat 32 g)[i] <;> rfl
 have h2:=congrArg BitVec.toNat hx
 simp only [BitVec.toNat_add,BitVec.toNat_and,BitVec.toNat_or,BitVec.toNat_xor,BitVec.toNat_not,BitVec.toNat_ofNat] at h1 h2
 rw [Nat.mod_eq_of_lt he,Nat.mod_eq_of_lt hf,Nat.mod_eq_of_lt hg] at h1 h2
 have hs:(e &&& f)+((2 ^ 32-1-e) &&& g)<2 ^ 32:=by
  have a1:e &&& f<=e:=Nat.and_le_left
  have a2:(2 ^ 32-1-e) &&& g<=2 ^ 32-1-e:=Nat.and_le_left
  have a3:(2:Nat) ^ 32=4294967296:=by decide
  omega
 rw [Nat.mod_eq_of_lt hs] at h1
 rw [h2,<-h1]
theorem zsn (a b c:Nat):(a &&& b) ||| (c &&& (a ||| b))=((a &&& b) ||| (a &&& c)) ||| (b &&& c):=by
 apply Nat.eq_of_testBit_eq
 intro i
 simp only [Nat.testBit_or,Nat.testBit_and]
 cases a.testBit i <;> cases b.testBit i <;> cases c.testBit i <;> rfl
def zic (v:V8) (k w:Nat):Nat:=v.h+zbL v.e 6 11 25+((v.e &&& v.f)+((4294967295-v.e) &&& v.g))+k+w
def zkd (v:V8):Nat:=zbL v.a 2 13 22+(((v.a &&& v.b) ||| (v.a &&& v.c)) ||| (v.b &&& v.c))
def zd3 (v:V8) (k w:Nat):V8:=⟨(zic v k w+zkd v)%4294967296,v.a,v.b,v.c,(v.d+zic v k w)%4294967296,v.e,v.f,v.g⟩
theorem zqL {v:V8} (h:v.Ok) (k w:Nat):v.next k w=zd3 v k w:=by
 have hu:v.up k w=zic v k w%4294967296:=by
  unfold V8.up zic zaC
  rw [zsR _ _ _ h.e h.f h.g]
  omega
 have ho:v.over=zkd v%4294967296:=by
  unfold V8.over zkd zaC
  rw [zsn]
 unfold V8.next zd3
 rw [hu,ho]
 unfold zaC
 congr 1 <;> omega
def nxW (w:List Nat) (t:Nat):Nat:=(w.getD (t-16) 0+zbS (w.getD (t-15) 0) 7 18 3+w.getD (t-7) 0+zbS (w.getD (t-2) 0) 17 19 10)%4294967296
def zfg (b:List Nat):Nat->List Nat
 | 0=>b
 | j+1=>zfg b j++[nxW (zfg b j) (16+j)]
theorem zey (b:List Nat):∀ j,(zfg b j).length=b.length+j
 | 0=>rfl
 | j+1=>by simp only [zfg,zLa,List.length_singleton,zey b j];omega
theorem zoz {l m:List Nat} {i:Nat} (h:i<l.length):(l++m).getD i 0=l.getD i 0:=by
 unfold List.getD;rw [List.getElem?_append_left h]
theorem zmX (l:List Nat) (x:Nat):(l++[x]).getD l.length 0=x:=by
 unfold List.getD;simp
theorem zfv (b:List Nat) (j:Nat):∀ d i,i<b.length+j->(zfg b (j+d)).getD i 0=(zfg b j).getD i 0
 | 0,_,_=>rfl
 | d+1,i,hi=>by
   rw [<-Nat.add_assoc]
   show (zfg b (j+d)++_).getD i 0=_
   rw [zoz (by rw [zey];omega)]
   exact zfv b j d i hi
def zim (b:List Nat) (i:Nat):Nat:=(zfg b 48).getD i 0
theorem zqM {b:List Nat} (hb:b.length=16) {i:Nat} (hi:i<16):zim b i=b.getD i 0:=zfv b 0 48 i (by omega)
theorem zqN {b:List Nat} (hb:b.length=16) {t:Nat} (h1:16<=t) (h2:t<64):zim b t=(zim b (t-16)+zbS (zim b (t-15)) 7 18 3+zim b (t-7)+zbS (zim b (t-2)) 17 19 10)%4294967296:=by
 have e:∀ i,i<t->zim b i=(zfg b (t-16)).getD i 0:=λ i hi=>by
  unfold zim
  have:=zfv b (t-16) (48-(t-16)) i (by omega)
  rwa [show t-16+(48-(t-16))=48 by omega] at this
 have e2:zim b t=(zfg b (t-16+1)).getD t 0:=by
  unfold zim
  have:=zfv b (t-16+1) (48-(t-16+1)) t (by omega)
  rwa [show t-16+1+(48-(t-16+1))=48 by omega] at this
 rw [e2]
 show (zfg b (t-16)++[nxW (zfg b (t-16)) (16+(t-16))]).getD t 0=_
 have hl:t=(zfg b (t-16)).length:=by rw [zey,hb];omega
 rw [show ((zfg b (t-16)++[nxW (zfg b (t-16)) (16+(t-16))]).getD t 0)=nxW (zfg b (t-16)) (16+(t-16)) by
  conv=>lhs;arg 2;rw [hl]
  exact zmX _ _]
 unfold nxW
 rw [show 16+(t-16)=t by omega,<-e (t-16) (by omega),<-e (t-15) (by omega),<-e (t-7) (by omega),<-e (t-2) (by omega)]
def zi4 (v:V8) (b:List Nat):Nat->V8
 | 0=>v
 | t+1=>zd3 (zi4 v b t) (kN t) (zim b t)
theorem zc0 {l:List Nat} {i x:Nat} (h:i<l.length):(l.set i x).getD i 0=x:=by
 unfold List.getD;rw [List.getElem?_set_self h];rfl
theorem zi5 {l:List Nat} {i j x:Nat} (h:i≠j):(l.set i x).getD j 0=l.getD j 0:=by
 unfold List.getD;rw [List.getElem?_set_ne h]
theorem zpo {v:V8} {b:List Nat} (hv:v.Ok) (hb:b.length=16) (h32:za1 b):∀ t,t<=64->(zgh v b t).1=zi4 v b t/\∀ i,t<=i+16->i<max t 16->(zgh v b t).2.getD (i%16) 0=zim b i
 | 0,_=>⟨rfl,λ i _ hi=>by
    have:i<16:=by omega
    rw [Nat.mod_eq_of_lt this]
    exact (zqM hb this).symm⟩
 | t+1,ht=>by
   obtain ⟨h1,h2⟩:=zpo hv hb h32 t (by omega)
   obtain ⟨o1,o2,o3⟩:=zgP hv h32 t
   have hw:wAt (zgh v b t).2 t=zim b t:=by
    unfold wAt
    by_cases h16:t<16
    ·rw [if_pos h16];exact h2 t (by omega) (by omega)
    ·rw [if_neg h16,zqN hb (by omega) (by omega)]
     have x0:=h2 (t-16) (by omega) (by omega)
     have x1:=h2 (t-15) (by omega) (by omega)
     have x2:=h2 (t-7) (by omega) (by omega)
     have x3:=h2 (t-2) (by omega) (by omega)
     rw [show (t-16)%16=t%16 by omega] at x0
     rw [show (t-15)%16=(t+1)%16 by omega] at x1
     rw [show (t-7)%16=(t+9)%16 by omega] at x2
     rw [show (t-2)%16=(t+14)%16 by omega] at x3
     unfold zfH zl9 zaC
     rw [x0,x1,x2,x3]
     omega
   refine ⟨?_,λ i hi1 hi2=>?_⟩
   ·show (zgh v b t).1.next (kN t) (wAt (zgh v b t).2 t)=zd3 (zi4 v b t) (kN t) (zim b t)
    rw [hw,zqL o1,h1]
   ·show (zc9 (zgh v b t).2 t).getD (i%16) 0=_
    unfold zc9
    by_cases h16:t<16
    ·rw [if_pos h16];exact h2 i (by omega) (by omega)
    ·rw [if_neg h16]
     by_cases hit:i=t
     ·subst hit
      rw [zc0 (by rw [o3,hb];exact Nat.mod_lt _ (by decide))]
      unfold wAt at hw
      rwa [if_neg h16] at hw
     ·rw [zi5 (by omega)]
      exact h2 i (by omega) (by omega)
def zf0 (h b:List Nat):List Nat:=zco h (zi4 (V8.of h) b 64).list 8
theorem zqO {h b:List Nat} {n:Nat} (hh:za1 h) (hb:b.length=16) (h32:za1 b):(Pn.stir ⟨h,b,n⟩).h=zf0 h b:=by
 unfold Pn.stir Pn.stirM zf0
 rw [(zpo (V8.of_ok hh) hb h32 64 (by decide)).1]
def w4 (c0 c1 c2 c3:Nat):Nat:=c0*16777216+c1*65536+c2*256+c3
def zaG:List Nat->List Nat
 | c0::c1::c2::c3::l=>w4 c0 c1 c2 c3::zaG l
 | _=>[]
def Pn.word (p:Pn) (x:Nat):Pn:=if p.n+4=64 then (Pn.stir ⟨p.h,p.W.set (p.n / 4) x,p.n+4⟩).zero else ⟨p.h,p.W.set (p.n / 4) x,p.n+4⟩
theorem zso (q:Pn):q.zero.h=q.h:=rfl
theorem zhd (l:List Nat) (i x y:Nat):(l.set i x).set i y=l.set i y:=by simp
theorem zk3 (x c0 c1 c2 c3:Nat) (h0:c0<256) (h1:c1<256) (h2:c2<256) (h3:c3<256):zda (zda (zda (zda x c0) c1) c2) c3=w4 c0 c1 c2 c3:=by
 unfold zda w4;omega
theorem zoA {p:Pn} (h:p.Ok) (hn:p.n%4=0) (c0 c1 c2 c3:Nat) (h0:c0<256) (h1:c1<256) (h2:c2<256) (h3:c3<256):(((p.put c0).put c1).put c2).put c3=p.word (w4 c0 c1 c2 c3):=by
 have hlt:=h.n
 have hl:=h.W
 obtain ⟨hh,W,n⟩:=p
 simp only at hn hlt hl
 obtain ⟨i,rfl⟩:∃ i,n=4*i:=⟨n / 4,by omega⟩
 have e0:(Pn.mk hh W (4*i)).put c0=⟨hh,W.set i (zda (W.getD i 0) c0),4*i+1⟩:=by
  unfold Pn.put
  rw [if_neg (by show ¬4*i+1=64;omega)]
  simp only [Pn.fed,show 4*i / 4=i by omega]
 have e1:∀ x,(Pn.mk hh (W.set i x) (4*i+1)).put c1=⟨hh,W.set i (zda x c1),4*i+2⟩:=λ x=>by
  unfold Pn.put
  rw [if_neg (by show ¬4*i+1+1=64;omega)]
  simp only [Pn.fed,show (4*i+1) / 4=i by omega,zhd,zc0 (show i<W.length by omega)]
 have e2:∀ x,(Pn.mk hh (W.set i x) (4*i+2)).put c2=⟨hh,W.set i (zda x c2),4*i+3⟩:=λ x=>by
  unfold Pn.put
  rw [if_neg (by show ¬4*i+2+1=64;omega)]
  simp only [Pn.fed,show (4*i+2) / 4=i by omega,zhd,zc0 (show i<W.length by omega)]
 rw [e0,e1,e2]
 unfold Pn.put Pn.word
 simp only [Pn.fed,show (4*i+3) / 4=i by omega,show 4*i / 4=i by omega,zhd,zc0 (show i<W.length by omega),zk3 _ _ _ _ _ h0 h1 h2 h3]
theorem zi6 {p:Pn} (h:p.Ok) {x:Nat} (hx:x<4294967296) (hn:p.n%4=0):(p.word x).Ok/\(p.word x).n%4=0/\(p.word x).n=(p.n+4)%64:=by
 have hW:za1 (p.W.set (p.n / 4) x):=h.W32.set _ hx
 have hlt:=h.n
 unfold Pn.word
 split
 ·next hq=>exact ⟨Pn.stir_ok (p:=⟨p.h,p.W.set (p.n / 4) x,p.n+4⟩) h.h (by rw [List.length_set];exact h.W) h.h32 hW,rfl,by show 0=_;omega⟩
 ·next hq =>
  exact ⟨⟨h.h,by rw [List.length_set];exact h.W,h.h32,hW,by show p.n+4<64;omega⟩,by show (p.n+4)%4=0;omega,by show p.n+4=_;omega⟩
theorem zsp {c0 c1 c2 c3:Nat} (h0:c0<256) (h1:c1<256) (h2:c2<256) (h3:c3<256):w4 c0 c1 c2 c3<4294967296:=by unfold w4;omega
theorem zgt:∀ (m:Nat) (l:List Nat) (p:Pn),l.length=4*m->p.Ok->p.n%4=0->(∀ c∈l,c<256)->p.puts l=(zaG l).foldl Pn.word p
 | 0,l,p,hl,_,_,_=>by
   have:l=[]:=List.length_eq_zero_iff.1 (by omega)
   subst this;rfl
 | m+1,c0::c1::c2::c3::l,p,hl,hp,hn,hc=>by
   have h0:=hc c0 (by simp)
   have h1:=hc c1 (by simp)
   have h2:=hc c2 (by simp)
   have h3:=hc c3 (by simp)
   obtain ⟨k1,k2,-⟩:=zi6 hp (zsp h0 h1 h2 h3) hn
   show ((((p.put c0).put c1).put c2).put c3).puts l=_
   rw [zoA hp hn _ _ _ _ h0 h1 h2 h3]
   simp only [zLc] at hl
   exact zgt m l (p.word (w4 c0 c1 c2 c3)) (by omega) k1 k2 λ c hc'=>hc c (by simp [hc'])
 | m+1,[],_,hl,_,_,_=>by simp at hl
 | m+1,[_],_,hl,_,_,_=>by simp at hl;omega
 | m+1,[_,_],_,hl,_,_,_=>by simp at hl;omega
 | m+1,[_,_,_],_,hl,_,_,_=>by simp at hl;omega
theorem zf1:∀ (m:Nat) (l:List Nat),l.length=4*m->(∀ c∈l,c<256)->(zaG l).length=m/\za1 (zaG l)
 | 0,l,hl,_=>by
   have:l=[]:=List.length_eq_zero_iff.1 (by omega)
   subst this;exact ⟨rfl,λ x hx=>by cases hx⟩
 | m+1,c0::c1::c2::c3::l,hl,hc=>by
   simp only [zLc] at hl
   obtain ⟨h1,h2⟩:=zf1 m l (by omega) λ c hc'=>hc c (by simp [hc'])
   refine ⟨by simp [zaG,h1],λ x hx=>?_⟩
   simp only [zaG,List.mem_cons] at hx
   rcases hx with rfl|hx
   ·exact zsp (hc c0 (by simp)) (hc c1 (by simp)) (hc c2 (by simp)) (hc c3 (by simp))
   ·exact h2 x hx
 | m+1,[],hl,_=>by simp at hl
 | m+1,[_],hl,_=>by simp at hl;omega
 | m+1,[_,_],hl,_=>by simp at hl;omega
 | m+1,[_,_,_],hl,_=>by simp at hl;omega
theorem zgu:∀ (b:List Nat) (p:Pn),p.Ok->za1 b->b≠[]->p.n+4*b.length=64->(b.foldl Pn.word p).Ok/\(b.foldl Pn.word p).n=0/\(b.foldl Pn.word p).h=(Pn.stir ⟨p.h,p.W.take (p.n / 4)++b,64⟩).h
 | [],_,_,_,h,_=>absurd rfl h
 | [x],p,hp,hb,_,hn=>by
   simp only [List.length_singleton] at hn
   obtain ⟨k1,-,k3⟩:=zi6 hp (hb x (by simp)) (by omega)
   refine ⟨k1,by rw [List.foldl_cons,List.foldl_nil,k3];omega,?_⟩
   show (p.word x).h=_
   unfold Pn.word
   rw [if_pos (by omega)]
   have:p.W.set (p.n / 4) x=p.W.take (p.n / 4)++[x]:=by
    have hl:=hp.W
    have hi:p.n / 4=15:=by omega
    rw [hi]
    apply List.ext_getElem?
    intro j
    by_cases hj:j=15
    ·subst hj
     rw [List.getElem?_set_self (by omega),List.getElem?_append_right (by simp;omega)]
     simp [hl]
    ·rw [List.getElem?_set_ne (by omega)]
     by_cases hj2:j<15
     ·rw [List.getElem?_append_left (by simp;omega),List.getElem?_take_of_lt hj2]
     ·rw [List.getElem?_eq_none (by omega),List.getElem?_eq_none (by simp;omega)]
   rw [this,zso,show p.n+4=64 by omega]
 | x::y::b,p,hp,hb,_,hn=>by
   simp only [zLc] at hn
   obtain ⟨k1,k2,k3⟩:=zi6 hp (hb x (by simp)) (by omega)
   have hlt:=hp.n
   have e:p.word x=⟨p.h,p.W.set (p.n / 4) x,p.n+4⟩:=by unfold Pn.word;rw [if_neg (by omega)]
   obtain ⟨r1,r2,r3⟩:=zgu (y::b) (p.word x) k1 (λ z hz=>hb z (by simp at hz ⊢;right;exact hz)) (by simp) (by rw [e];simp only [zLc];omega)
   refine ⟨r1,r2,?_⟩
   rw [List.foldl_cons,r3,e]
   have:(p.W.set (p.n / 4) x).take ((p.n+4) / 4)++y::b=p.W.take (p.n / 4)++x::y::b:=by
    have hl:=hp.W
    rw [show (p.n+4) / 4=p.n / 4+1 by omega]
    have h1:p.n / 4<p.W.length:=by omega
    rw [List.take_set]
    apply List.ext_getElem?
    intro j
    by_cases hj:j<p.n / 4
    ·rw [List.getElem?_append_left (by simp;omega),List.getElem?_append_left (by simp;omega),List.getElem?_set_ne (by omega),List.getElem?_take_of_lt (by omega),List.getElem?_take_of_lt hj]
    ·by_cases hj2:j=p.n / 4
     ·subst hj2
      rw [List.getElem?_append_left (by simp;omega),List.getElem?_set_self (by simp;omega),List.getElem?_append_right (by simp;omega)]
      simp [Nat.min_eq_left (Nat.le_of_lt h1)]
     ·rw [List.getElem?_append_right (by simp;omega),List.getElem?_append_right (by simp;omega)]
      simp only [List.length_set,List.length_take]
      rw [show j-min (p.n / 4) p.W.length=(j-min (p.n / 4+1) p.W.length)+1 by omega,List.getElem?_cons_succ]
   show (Pn.stir ⟨p.h,(p.W.set (p.n / 4) x).take ((p.n+4) / 4)++y::b,64⟩).h=_
   rw [this]
def zb3 (h:List Nat) (ws:List Nat):Nat->List Nat
 | 0=>h
 | m+1=>zf0 (zb3 h ws m) ((ws.drop (16*m)).take 16)
theorem zmY {h b:List Nat} (hh:za1 h) (hl:h.length=8):za1 (zf0 h b)/\(zf0 h b).length=8:=⟨zfr hh _ _,(zdq _ _ _).trans hl⟩
theorem zez {h ws:List Nat} (hh:za1 h) (hl:h.length=8):∀ m,za1 (zb3 h ws m)/\(zb3 h ws m).length=8
 | 0=>⟨hh,hl⟩
 | m+1=>zmY (zez hh hl m).1 (zez hh hl m).2
theorem zgv {ws:List Nat} (hw:za1 ws) {p:Pn} (hp:p.Ok) (hn:p.n=0):∀ m,16*m<=ws.length->((ws.take (16*m)).foldl Pn.word p).Ok/\((ws.take (16*m)).foldl Pn.word p).n=0/\((ws.take (16*m)).foldl Pn.word p).h=zb3 p.h ws m
 | 0,_=>⟨hp,hn,rfl⟩
 | m+1,hm=>by
   obtain ⟨h1,h2,h3⟩:=zgv hw hp hn m (by omega)
   have e:ws.take (16*(m+1))=ws.take (16*m)++(ws.drop (16*m)).take 16:=by
    rw [show 16*(m+1)=16*m+16 by omega,List.take_add]
   have hbl:((ws.drop (16*m)).take 16).length=16:=by rw [List.length_take,List.length_drop];omega
   have hb32:za1 ((ws.drop (16*m)).take 16):=λ x hx=>hw x (List.mem_of_mem_drop (List.mem_of_mem_take hx))
   rw [e,List.foldl_append]
   generalize (ws.take (16*m)).foldl Pn.word p=q at *
   obtain ⟨r1,r2,r3⟩:=zgu _ q h1 hb32 (by intro h0;rw [h0] at hbl;cases hbl) (by rw [hbl,h2])
   refine ⟨r1,r2,?_⟩
   rw [r3,h2]
   simp only [Nat.zero_div,List.take_zero,List.nil_append]
   rw [zqO h1.h32 hbl hb32,h3]
   rfl
theorem zpp:∀ (l:List Nat) (p:Pn),p.n<64->(p.puts l).n=(p.n+l.length)%64
 | [],p,h=>by show p.n=_;rw [List.length_nil,Nat.add_zero,Nat.mod_eq_of_lt h]
 | c::l,p,h=>by
   have e:=Pn.put_n p c
   show ((p.put c).puts l).n=_
   rw [zpp l (p.put c) (by rw [e];split <;> omega),e,zLc]
   split <;> omega
theorem zfw (p:Pn) (l m:List Nat):p.puts (l++m)=(p.puts l).puts m:=by simp [Pn.puts]
theorem zke (p:Pn) (c:Nat):p.puts [c]=p.put c:=rfl
def zk4 (s:ByteArray):List Nat:=zdV s++128::List.replicate (zdr ((s.size+1)%64)) 0
def zcr (s:ByteArray):List Nat:=zk4 s++zdI s.size
theorem zf2 (s:ByteArray):(zdV s).length=s.size:=by unfold zdV;rw [zLm,Lib.size_eq]
theorem zkf (s:ByteArray):(zk4 s).length%64=56:=by
 unfold zk4 zdr
 simp only [zLa,zLc,List.length_replicate,zf2]
 omega
theorem zid (s:ByteArray):(zcr s).length%64=0:=by
 have:=zkf s
 unfold zcr
 rw [zLa,show (zdI s.size).length=8 by simp [zdI]]
 omega
theorem zhe (s:ByteArray):∀ c∈zcr s,c<256:=by
 intro c hc
 unfold zcr zk4 at hc
 rcases List.mem_append.1 hc with hc|hc
 ·rcases List.mem_append.1 hc with hc|hc
  ·exact zjJ s c hc
  ·rcases List.mem_cons.1 hc with rfl|hc
   ·decide
   ·rw [List.eq_of_mem_replicate hc];decide
 ·exact zjK _ c hc
theorem zsS (s:ByteArray):(pnA s).n=(s.size+1)%64:=by
 unfold pnA
 rw [<-zke,<-zfw,zpp _ _ (by decide),zLa,zf2]
 show (0+(s.size+1))%64=_
 rw [Nat.zero_add]
theorem zoB (s:ByteArray):pnC s=pn0.puts (zcr s):=by
 unfold pnC pnB zcr zk4
 rw [zsS]
 unfold pnA
 rw [<-zke,<-zfw,<-zfw,<-zfw]
 simp
theorem zeX:∀ (m:Nat) (l r:List Nat),l.length=4*m->zaG (l++r)=zaG l++zaG r
 | 0,l,r,hl=>by
   have:l=[]:=List.length_eq_zero_iff.1 (by omega)
   subst this;rfl
 | m+1,c0::c1::c2::c3::l,r,hl=>by
   simp only [zLc] at hl
   show w4 c0 c1 c2 c3::zaG (l++r)=_
   rw [zeX m l r (by omega)];rfl
 | m+1,[],_,hl=>by simp at hl
 | m+1,[_],_,hl=>by simp at hl;omega
 | m+1,[_,_],_,hl=>by simp at hl;omega
 | m+1,[_,_,_],_,hl=>by simp at hl;omega
theorem zi7 (n:Nat) (h:n*8<18446744073709551616):zaG (zdI n)=[n*8 / 4294967296,n*8%4294967296]:=by
 show zaG [n*8 / 2 ^ 56%256,n*8 / 2 ^ 48%256,n*8 / 2 ^ 40%256,n*8 / 2 ^ 32%256,n*8 / 2 ^ 24%256,n*8 / 2 ^ 16%256,n*8 / 2 ^ 8%256,n*8 / 2 ^ 0%256]=_
 simp only [zaG,w4,List.cons.injEq,and_true]
 omega
def zbv (s:ByteArray):List Nat:=zaG (zk4 s)++[s.size*8 / 4294967296,s.size*8%4294967296]
theorem zgw (s:ByteArray) (h:s.size*8<18446744073709551616):zaG (zcr s)=zbv s:=by
 have:=zkf s
 unfold zcr zbv
 rw [zeX ((zk4 s).length / 4) _ _ (by omega),zi7 _ h]
theorem zsq (s:ByteArray) (h:s.size*8<18446744073709551616):prB s=⟨(zhJ (zb3 pn0.h (zbv s) ((zbv s).length / 16))).toArray⟩:=by
 have h0:=zid s
 obtain ⟨q1,q2⟩:=zf1 ((zcr s).length / 4) (zcr s) (by omega) (zhe s)
 obtain ⟨-,-,r3⟩:=zgv q2 zgi rfl ((zaG (zcr s)).length / 16) (by omega)
 have e:(zaG (zcr s)).take (16*((zaG (zcr s)).length / 16))=zaG (zcr s):=List.take_of_length_le (by rw [q1];omega)
 rw [e,<-zgt ((zcr s).length / 4) (zcr s) pn0 (by omega) zgi rfl (zhe s),<-zoB,zgw s h] at r3
 unfold prB
 rw [r3]
theorem zk5 (x:Nat) (w:World):Calls Tryz.prog 231 #[.int .u64 (x:Int)] w λ e w'=>e=.returned (.int .u64 ((x%4294967296:Nat):Int))/\w=w':=by
 go_enter Tryz.func231,Tryz.ntmps231
 go_wp2_with fail
 go_ret
 exact ⟨by simp,rfl⟩
theorem zoC (x n:Nat) (hx:x<4294967296):za6 x n<8589934592:=by
 unfold za6
 have h1:x*2 ^ (32-n)%4294967296<4294967296:=Nat.mod_lt _ (by decide)
 have h2:x / 2 ^ n<=x:=Nat.div_le_self _ _
 omega
theorem zf3 (x n:Nat) (w:World) (hx:x<4294967296) (hn:n<=31):Calls Tryz.prog 264 #[.int .u64 (x:Int),.int .u64 (n:Int)] w λ e w'=>e=.returned (.int .u64 ((za6 x n:Nat):Int))/\w=w':=by
 have hp:x*2 ^ (32-n)<18446744073709551616:=by
  have h1:(2:Nat) ^ (32-n)<=2 ^ 32:=Nat.pow_le_pow_right (by decide) (by omega)
  have h2:x*2 ^ (32-n)<=x*4294967296:=Nat.mul_le_mul_left _ h1
  omega
 have e1:IntKind.u64.wrap ((x:Int)*2 ^ (32-n))=((x*2 ^ (32-n):Nat):Int):=by
  have:=zcs (v:=x*2 ^ (32-n)) hp
  rw [<-this];push_cast;rfl
 have LW:=zk5 (x*2 ^ (32-n)) w
 have e0:((x*2 ^ (32-n):Nat):Int)=(x:Int)*2 ^ (32-n):=by push_cast;rfl
 rw [e0] at LW e1
 have hr:=zoC x n hx
 have e3:((x:Int)*2 ^ (32-n))%4294967296+(x:Int) / 2 ^ n=((za6 x n:Nat):Int):=by
  rw [<-e0]
  unfold za6
  rw [Int.natCast_add,Int.natCast_emod,Int.natCast_ediv,Int.natCast_pow]
  rfl
 have e2:IntKind.u64.wrap (((x:Int)*2 ^ (32-n))%4294967296+(x:Int) / 2 ^ n)=((za6 x n:Nat):Int):=by
  rw [e3]
  exact zcs (by omega)
 have HE2:=Hd e2
 clear hp hr e2 e3
 go_enter Tryz.func264,Tryz.ntmps264
 go_wp2_with fail
 refine LW.mono ?_
 rintro e w1 ⟨rfl,rfl⟩
 clear LW
 go_wp2_with fail
 go_ret
 exact ⟨congrArg (λ z=>Ending.returned (.int .u64 z)) HE2.out,rfl⟩
theorem zoD (x y:Nat) (hx:x<4294967296) (hy:y<4294967296):bits .xor .u64 (x:Int) (y:Int)=((x ^^^ y:Nat):Int):=bits_xor_u64_nat x y (by omega) (by omega)
theorem zmZ (x a b c:Nat) (w:World) (hx:x<4294967296) (ha:1<=a/\a<=31) (hb:1<=b/\b<=31) (hc:c<=31):Calls Tryz.prog 232 #[.int .u64 (x:Int),.int .u64 (a:Int),.int .u64 (b:Int),.int .u64 (c:Int)] w λ e w'=>e=.returned (.int .u64 ((zbS x a b c:Nat):Int))/\w=w':=by
 have R1:=zf3 x a w hx ha.2
 have R2:=zf3 x b w hx hb.2
 have e1:=zbC x a ha.1 ha.2 hx
 have e2:=zbC x b hb.1 hb.2 hx
 have e3:x / 2 ^ c<4294967296:=Nat.lt_of_le_of_lt (Nat.div_le_self _ _) hx
 have v1:=zoD _ _ e1 e2
 have v2:=zoD _ _ (zdp e1 e2) e3
 have hm:min c 64=c:=by omega
 have e4:((x / 2 ^ c:Nat):Int)=(x:Int) / 2 ^ c:=by rw [Int.natCast_ediv,Int.natCast_pow];rfl
 rw [e4] at v2
 have HE:Hid (zbS x a b c=(za6 x a ^^^ za6 x b) ^^^ (x / 2 ^ c)):=Hd rfl
 clear hx ha hb hc e1 e2 e3 e4
 generalize za6 x a=ra at *
 generalize za6 x b=rb at *
 generalize ra ^^^ rb=rab at *
 go_enter Tryz.func232,Tryz.ntmps232
 go_wp2_with fail
 refine R1.mono ?_
 rintro e w1 ⟨rfl,rfl⟩
 go_wp2_with fail
 refine R2.mono ?_
 rintro e w1 ⟨rfl,rfl⟩
 go_wp2_with fail
 go_ret
 exact ⟨by rw [HE.out,<-v2];rfl,rfl⟩
theorem zm0 (x a b c:Nat) (w:World) (hx:x<4294967296) (ha:1<=a/\a<=31) (hb:1<=b/\b<=31) (hc:1<=c/\c<=31):Calls Tryz.prog 233 #[.int .u64 (x:Int),.int .u64 (a:Int),.int .u64 (b:Int),.int .u64 (c:Int)] w λ e w'=>e=.returned (.int .u64 ((zbL x a b c:Nat):Int))/\w=w':=by
 have R1:=zf3 x a w hx ha.2
 have R2:=zf3 x b w hx hb.2
 have R3:=zf3 x c w hx hc.2
 have e1:=zbC x a ha.1 ha.2 hx
 have e2:=zbC x b hb.1 hb.2 hx
 have e3:=zbC x c hc.1 hc.2 hx
 have v1:=zoD _ _ e1 e2
 have v2:=zoD _ _ (zdp e1 e2) e3
 have HE:Hid (zbL x a b c=(za6 x a ^^^ za6 x b) ^^^ za6 x c):=Hd rfl
 clear hx ha hb hc e1 e2 e3
 generalize za6 x a=ra at *
 generalize za6 x b=rb at *
 generalize za6 x c=rc at *
 generalize ra ^^^ rb=rab at *
 go_enter Tryz.func233,Tryz.ntmps233
 go_wp2_with fail
 refine R1.mono ?_
 rintro e w1 ⟨rfl,rfl⟩
 go_wp2_with fail
 refine R2.mono ?_
 rintro e w1 ⟨rfl,rfl⟩
 go_wp2_with fail
 refine R3.mono ?_
 rintro e w1 ⟨rfl,rfl⟩
 go_wp2_with fail
 go_ret
 exact ⟨by rw [HE.out,<-v2];rfl,rfl⟩
def zgc (c:Nat):Int:=if 48<=c/\c<=57 then (c:Int)-48 else if 97<=c/\c<=102 then (c:Int)-87 else -1
theorem zm1 (c:Nat):-1<=zgc c/\zgc c<=15:=by unfold zgc;split <;> (try split) <;> omega
theorem zqP (c:Nat) (w:World) (hc:c<256):Calls Tryz.prog 265 #[.int .u8 (c:Int)] w λ e w'=>e=.returned (.int .i64 (zgc c))/\w=w':=by
 by_cases h1:48<=c
 ·have d1:decide ((c:Int) >= 48)=true:=decide_eq_true (by omega)
  by_cases h2:c<=57
  ·have d2:decide ((c:Int)<=57)=true:=decide_eq_true (by omega)
   have hv:zgc c=(c:Int)-48:=by unfold zgc;rw [if_pos ⟨h1,h2⟩]
   have w1:IntKind.i64.wrap (c:Int)=(c:Int):=zaz (x:=(c:Int)) (by omega) (by omega)
   have w2:wrap64 ((c:Int)-48)=(c:Int)-48:=by unfold wrap64;omega
   rw [hv]
   clear h1 h2 hc hv
   go_enter Tryz.func265,Tryz.ntmps265
   go_wp2_with fail
   go_ret
   exact ⟨congrArg (λ z=>Ending.returned (.int .i64 z)) w2,rfl⟩
  ·have d2:decide ((c:Int)<=57)=false:=decide_eq_false (by omega)
   by_cases h3:97<=c
   ·have d3:decide ((c:Int) >= 97)=true:=decide_eq_true (by omega)
    by_cases h4:c<=102
    ·have d4:decide ((c:Int)<=102)=true:=decide_eq_true (by omega)
     have hv:zgc c=(c:Int)-87:=by unfold zgc;rw [if_neg (by omega),if_pos ⟨h3,h4⟩]
     have w1:IntKind.i64.wrap (c:Int)=(c:Int):=zaz (x:=(c:Int)) (by omega) (by omega)
     have w2:wrap64 ((c:Int)-87)=(c:Int)-87:=by unfold wrap64;omega
     rw [hv]
     clear h1 h2 h3 h4 hc hv
     go_enter Tryz.func265,Tryz.ntmps265
     go_wp2_with fail
     go_ret
     exact ⟨congrArg (λ z=>Ending.returned (.int .i64 z)) w2,rfl⟩
    ·have d4:decide ((c:Int)<=102)=false:=decide_eq_false (by omega)
     have hv:zgc c=-1:=by unfold zgc;rw [if_neg (by omega),if_neg (by omega)]
     rw [hv]
     clear h1 h2 h3 h4 hc hv
     go_enter Tryz.func265,Tryz.ntmps265
     go_wp2_with fail
     go_ret
     exact ⟨rfl,rfl⟩
   ·have d3:decide ((c:Int) >= 97)=false:=decide_eq_false (by omega)
    have hv:zgc c=-1:=by unfold zgc;rw [if_neg (by omega),if_neg (by omega)]
    rw [hv]
    clear h1 h2 h3 hc hv
    go_enter Tryz.func265,Tryz.ntmps265
    go_wp2_with fail
    go_ret
    exact ⟨rfl,rfl⟩
 ·have d1:decide ((c:Int) >= 48)=false:=decide_eq_false (by omega)
  have d3:decide ((c:Int) >= 97)=false:=decide_eq_false (by omega)
  have hv:zgc c=-1:=by unfold zgc;rw [if_neg (by omega),if_neg (by omega)]
  rw [hv]
  clear h1 hc hv
  go_enter Tryz.func265,Tryz.ntmps265
  go_wp2_with fail
  go_ret
  exact ⟨rfl,rfl⟩
def zq8 (s:List Nat × Nat × Nat) (c:UInt8):List Nat × Nat × Nat :=
 if zgc c.toNat<0 then s else if s.2.2+1=8 then (s.1++[16*s.2.1+(zgc c.toNat).toNat],0,0) else (s.1,16*s.2.1+(zgc c.toNat).toNat,s.2.2+1)
def zie (l:List UInt8):List Nat × Nat × Nat:=l.foldl zq8 ([],0,0)
def zsZ (l:List UInt8):List Nat:=(zie l).1
structure zoE (s:List Nat × Nat × Nat) (k:Nat):Prop where
 dg:s.2.2<=7
 n:s.2.1<16 ^ s.2.2
 len:s.1.length<=k
theorem zoE.step {s:List Nat × Nat × Nat} {k:Nat} (h:zoE s k) (c:UInt8):zoE (zq8 s c) (k+1):=by
 obtain ⟨h1,h2,h3⟩:=h
 have hv:=zm1 c.toNat
 unfold zq8
 split
 ·exact ⟨h1,h2,by omega⟩
 ·split
  ·exact ⟨by simp,by simp,by simp;omega⟩
  ·rename_i hn h8
   refine ⟨by simp only;omega,?_,by simp only;omega⟩
   simp only
   rw [Nat.pow_succ]
   omega
theorem zif (l:List UInt8) (c:UInt8):zie (l++[c])=zq8 (zie l) c:=by unfold zie;rw [List.foldl_append];rfl
theorem zm2 (l:List UInt8):∀ k,k<=l.length->zoE (zie (l.take k)) k
 | 0,_=>⟨by simp [zie],by simp [zie],by simp [zie]⟩
 | k+1,h=>by
   rw [zTs h,zif]
   exact (zm2 l k (by omega)).step _
theorem zi8:(Tryz.prog.info? 134).map (λ i=>(i.zero,i.size,i.bytes))=some (some (.int .u64 0),1,8):=by kernel_rfl
def NmO (w:World) (o:List Nat) (v:Value) (wr:World):Prop:=wr.ownsRow w.heap.size 134 1 v o.length (zb8 o)/\Below w.heap.size w wr
theorem NmO.nil (w wr:World) (h:Below w.heap.size w wr):NmO w [] (.slice none 0 0) wr:=⟨World.ownsRow_nil _ _ _ _,h⟩
theorem NmO.snoc {w W W5:World} {o:List Nat} {v v5:Value} {x:Nat} (h:NmO w o v W) (ob:Obj) (hg:(W.alloc ob).grownBy W5 v.ownBlock) (h5:W5.ownsRow w.heap.size 134 1 v5 (o.length+1) (zb8 o++[.int .u64 (x:Int)])):NmO w (o++[x]) v5 W5 :=
 ⟨by rw [zLa,List.length_singleton,zia];exact h5,(h.2.alloc h.2.size ob).grown hg (by have:=h.2.size;simp;omega) λ j e=>(h.1.lt j e).1⟩
theorem zig (s:ByteArray) (w:World) (hs:s.size<=1000000):Calls Tryz.prog 234 #[.string s] w λ e w'=>∃ v,e=.returned v/\Hid (NmO w (zsZ s.data.toList) v w'):=by
 obtain ⟨jU,hjU,hU0,hU1,hU2⟩:=info_parts zi8
 have HSL:=Hd hs
 have hl:=Lib.size_eq s
 have R0:Hid (NmO w (zie (s.data.toList.take 0)).1 (.slice none 0 0) w):=Hd (NmO.nil _ _ (zBr _ _))
 go_enter Tryz.func234,Tryz.ntmps234
 go_wp2_with fail
 go_loopg [3,4,5,6] s.size (λ g s3 s4 s5 s6 wr=>∃ (k:Nat) (v:Value),g=s.size-k/\k<=s.size/\s6=.int .i64 (k:Int)/\v=s3/\s4=.int .u64 ((zie (s.data.toList.take k)).2.1:Nat)/\s5=.int .i64 ((zie (s.data.toList.take k)).2.2:Nat)/\Hid (NmO w (zie (s.data.toList.take k)).1 v wr))
 case atStart=>exact ⟨0,_,rfl,zNz _,rfl,rfl,rfl,rfl,R0⟩
 case round =>
  obtain ⟨k,v,rfl,hk,rfl,rfl,rfl,rfl,HR⟩:=hrel
  clear R0
  have hok:=zm2 s.data.toList k (by omega)
  by_cases hlt:k<s.size
  ·obtain ⟨c,hc,-⟩:=zjL hlt
   have hidx:=λ W=>zgj (P:=Tryz.prog) 9 s k c Tryz.underlying9 hc W
   have hce:s.data.toList[k]'(by omega)=c:=by
    rw [getElem?_pos _ k hlt] at hc
    exact Option.some.inj hc
   have HT:Hid (zie (s.data.toList.take (k+1))=zq8 (zie (s.data.toList.take k)) c):=Hd (by
    rw [zTs (by omega),zif,hce])
   have HLT:=Hd hlt
   have hsm:k<=1000000:=by have:=HSL.out;omega
   have VC:=λ W=>zqP c.toNat W c.toNat_lt
   have hv:=zm1 c.toNat
   obtain ⟨h7,hn,hlen⟩:=hok
   obtain ⟨ST,hST⟩:=exE (zie (s.data.toList.take k))
   rw [hST] at HT HR h7 hn hlen
   have hn2:ST.2.1<268435456:=Nat.lt_of_lt_of_le hn (by
    have:(16:Nat) ^ ST.2.2<=16 ^ 7:=Nat.pow_le_pow_right (by decide) h7
    omega)
   rw [hST]
   obtain ⟨NX,hNX⟩:=exE (zie (s.data.toList.take (k+1)))
   have HNX:=Hd hNX
   rw [hNX] at HT
   have HNS:Hid (zq8 ST c=if zgc c.toNat<0 then ST else if ST.2.2+1=8 then (ST.1++[16*ST.2.1+(zgc c.toNat).toNat],0,0) else (ST.1,16*ST.2.1+(zgc c.toNat).toNat,ST.2.2+1)):=Hd rfl
   obtain ⟨d,hd⟩:=exE (zgc c.toNat)
   rw [hd] at HNS VC hv
   obtain ⟨o,n,dg⟩:=ST
   simp only at HNS HR h7 hn2 hlen HT ⊢
   clear hST hNX hd hc hce hn hk hl
   by_cases hd0:d<0
   ·have d0:decide (d<0)=true:=decide_eq_true hd0
    have HN2:Hid (NX=(o,n,dg)):=Hd (by rw [HT.out,HNS.out,if_pos hd0])
    clear hd0 hv HNS HT h7 hn2 hlen
    go_wp2_with fail
    refine (VC _).mono ?_
    rintro e wa ⟨rfl,rfl⟩
    clear VC hidx hlt
    go_wp2_with fail
    go_roundg (s.size-(k+1))
    case measure=>have:=HLT.out;omega
    case rel=>exact ⟨k+1,_,rfl,HLT.out,by congr 1,rfl,by rw [HNX.out,HN2.out],by rw [HNX.out,HN2.out],by rw [HNX.out,HN2.out];exact HR⟩
   ·obtain ⟨m,rfl⟩:∃ m:Nat,d=(m:Int):=⟨d.toNat,by omega⟩
    have d0:decide ((m:Int)<0)=false:=decide_eq_false hd0
    have hm:m<=15:=by omega
    rw [Int.toNat_natCast] at HNS
    have hW:Hid ((16*(n:Int))%18446744073709551616=16*(n:Int)/\(m:Int)%18446744073709551616=(m:Int)/\(16*(n:Int)+(m:Int))%18446744073709551616=16*(n:Int)+(m:Int)):=Hd (by omega)
    clear hd0 hv
    by_cases h8:dg+1=8
    ·obtain rfl:dg=7:=by omega
     have HN2:Hid (NX=(o++[16*n+m],0,0)):=Hd (by rw [HT.out,HNS.out,if_neg (by omega),if_pos h8])
     have L1:=Hd (show o.length+1<=maxLen/\(o.length+1)*8<=140737488355328 from ⟨by unfold maxLen;omega,by omega⟩)
     clear h8 HNS HT h7 hn2 hlen hm
     go_wp2_with fail
     refine (VC _).mono ?_
     rintro e wa ⟨rfl,rfl⟩
     clear VC hidx hlt
     have HO:=Hd HR.out.1
     have HZ:=Hd HR.out.2.size
     have HAZ:Hid (∀ o:Obj,w.heap.size<=(wr.alloc o).heap.size):=Hd λ o=>by have:=HZ.out;simp;omega
     have HST:Hid (∀ ob W5 v5,(wr.alloc ob).grownBy W5 v.ownBlock->W5.ownsRow w.heap.size 134 1 v5 (o.length+1) (zb8 o++[.int .u64 (16*(n:Int)+(m:Int))])->NmO w (o++[16*n+m]) v5 W5):=Hd λ ob W5 v5 hg h5=>HR.out.snoc ob hg (by push_cast;exact h5)
     obtain ⟨w16,wm,ws⟩:=hW.out
     clear HR hW
     go_wp2_with (first
      | (refine zeA 277 277 ⟨_,_,by with_reducible rfl⟩ ?_
         refine zag (by rfl) _ _ _ rfl w.heap.size 134 jU _ 1 8 Tryz.underlying277 hjU hU0 hU1 hU2 rfl (by decide) _ _ _ (by rfl) (HO.out.alloc _) _ 1 _ (by rfl) (zai _ #[.int .u64 (16*(n:Int)+(m:Int))] _ 1 1) rfl (zkk _ rfl) L1.out.1 L1.out.2 (HAZ.out _) ?_
         intro v5 W5 ho5 hg5 ha5
         have HN5:=Hd (HST.out _ W5 v5 hg5 ho5)
         clear ho5 hg5 ha5))
     go_roundg (s.size-(k+1))
     case measure=>have:=HLT.out;omega
     case rel=>exact ⟨k+1,_,rfl,HLT.out,by congr 1,rfl,by rw [HNX.out,HN2.out];rfl,by rw [HNX.out,HN2.out];rfl,by rw [HNX.out,HN2.out];exact HN5⟩
    ·have HN2:Hid (NX=(o,16*n+m,dg+1)):=Hd (by rw [HT.out,HNS.out,if_neg (by omega),if_neg h8])
     have d8:((dg:Int)+1 == 8)=false:=by simp only [beq_eq_false_iff_ne,ne_eq];omega
     have hdg:dg<=6:=by omega
     clear h8 HNS HT h7 hn2 hlen hm
     go_wp2_with fail
     refine (VC _).mono ?_
     rintro e wa ⟨rfl,rfl⟩
     clear VC hidx hlt
     obtain ⟨w16,wm,ws⟩:=hW.out
     clear hW
     go_wp2_with fail
     go_roundg (s.size-(k+1))
     case measure=>have:=HLT.out;omega
     case rel=>exact ⟨k+1,_,rfl,HLT.out,by congr 1,rfl,by rw [HNX.out,HN2.out];push_cast;rfl,by rw [HNX.out,HN2.out];push_cast;rfl,by rw [HNX.out,HN2.out];exact HR⟩
  ·obtain rfl:k=s.size:=by omega
   have HG:Hid (NmO w (zsZ s.data.toList) v wr):=by
    rw [List.take_of_length_le (by omega)] at HR
    exact HR
   generalize zie (s.data.toList.take s.size)=ST at *
   clear HR hok hlt hk hl
   go_wp2_with fail
   go_ret
   exact ⟨_,rfl,HG⟩
theorem zm3 (w:World):Calls Tryz.prog 194 #[] w λ e w'=>∃ v,e=.returned v/\Hid (NmO w pn0.h v w'):=by
 go_enter Tryz.func194,Tryz.ntmps194
 go_wp2_with fail
 refine (zig _ _ (by decide +kernel)).mono ?_
 rintro e w1 ⟨v,rfl,HE⟩
 have HG:Hid (NmO w pn0.h v w1):=HE
 clear HE
 go_wp2_with fail
 go_ret
 exact ⟨_,rfl,HG⟩
def kL:List Nat:=(List.range 64).map kN
theorem zoF (w:World):Calls Tryz.prog 195 #[] w λ e w'=>∃ v,e=.returned v/\Hid (NmO w kL v w'):=by
 go_enter Tryz.func195,Tryz.ntmps195
 go_wp2_with fail
 refine (zig _ _ (by decide +kernel)).mono ?_
 rintro e w1 ⟨v,rfl,HE⟩
 have HG:Hid (NmO w kL v w1):=HE
 clear HE
 go_wp2_with fail
 go_ret
 exact ⟨_,rfl,HG⟩
def zle (s:ByteArray) (j:Nat):List UInt8:=s.data.toList++128::List.replicate j 0
theorem zoG (s:ByteArray) (j:Nat):(zle s j).length=s.size+1+j:=by
 unfold zle
 rw [zLa,zLc,List.length_replicate,<-Lib.size_eq];omega
theorem zoH (s:ByteArray):(zle s (zdr ((s.size+1)%64))).map (λ c=>c.toNat)=zk4 s:=by
 unfold zle zk4 zdV
 rw [List.map_append,List.map_cons,List.map_replicate];rfl
theorem zm4 (s:ByteArray) (j:Nat):zle s (j+1)=zle s j++[0]:=by
 unfold zle
 rw [List.replicate_succ'];simp
theorem zi9 {l:List Nat} {m:Nat} (h:4*m+3<l.length):zaG (l.take (4*(m+1)))=zaG (l.take (4*m))++[w4 (l.getD (4*m) 0) (l.getD (4*m+1) 0) (l.getD (4*m+2) 0) (l.getD (4*m+3) 0)]:=by
 have e:l.take (4*(m+1))=l.take (4*m)++[l.getD (4*m) 0,l.getD (4*m+1) 0,l.getD (4*m+2) 0,l.getD (4*m+3) 0]:=by
  have g:∀ i,i<l.length->l.take (i+1)=l.take i++[l.getD i 0]:=λ i hi=>by
   rw [zTs hi];unfold List.getD;rw [List.getElem?_eq_getElem hi];rfl
  rw [show 4*(m+1)=4*m+3+1 by omega,g _ h,g (4*m+2) (by omega),g (4*m+1) (by omega),g (4*m) (by omega)]
  simp
 rw [e,zeX m _ _ (by rw [List.length_take];omega)]
 rfl
theorem zhf {t:ByteArray} {i:Nat} (h:i<t.size):∃ c:UInt8,t[i]?=some c/\(t.data.toList.map λ c=>c.toNat).getD i 0=c.toNat:=by
 have hl:i<t.data.toList.length:=by rw [<-Lib.size_eq];exact h
 refine ⟨t.data.toList[i],by rw [getElem?_pos _ i h];rfl,?_⟩
 unfold List.getD
 rw [List.getElem?_map,List.getElem?_eq_getElem hl];rfl
theorem zqQ (s:ByteArray) (w:World) (hs:s.size<=100000):Calls Tryz.prog 230 #[.string s] w λ e w'=>∃ v,e=.returned v/\Hid (NmO w (zbv s) v w'):=by
 obtain ⟨jU,hjU,hU0,hU1,hU2⟩:=info_parts zi8
 have HSL:=Hd hs
 obtain ⟨z,hz⟩:=exE (zdr ((s.size+1)%64))
 have hz2:z<64/\∀ j,j<=z->((s.size+1+j)%64=56 ↔ j=z):=by
  rw [<-hz];unfold zdr
  refine ⟨by omega,λ j hj=>?_⟩
  omega
 have HZ:=Hd hz
 have HZ2:=Hd hz2
 have hp:(s++(⟨#[128]⟩:ByteArray)).data.toList=zle s 0:=by unfold zle;simp
 have R0:Hid ((s++(⟨#[128]⟩:ByteArray)).data.toList=zle s 0):=Hd hp
 have hps:(s++(⟨#[128]⟩:ByteArray)).size=s.size+1:=by rw [ByteArray.size_append];rfl
 have hb1:(s.size+1 > 9223372036854775807)=False:=by simp;omega
 have hb2:¬(9223372036854775807<s.size+1):=by omega
 clear hz hz2 hp
 go_enter Tryz.func230,Tryz.ntmps230
 go_wp2_with fail
 go_loopg [0] z (λ g s0 wr=>∃ (j:Nat) (cur:ByteArray),g=z-j/\j<=z/\s0=.string cur/\Hid (cur.data.toList=zle s j)/\w=wr)
 case atStart=>exact ⟨0,_,rfl,zNz _,rfl,R0,rfl⟩
 case round =>
  obtain ⟨j,cur,rfl,hj,rfl,HC,rfl⟩:=hrel
  have hcs:cur.size=s.size+1+j:=by
   have:=congrArg List.length HC.out
   rw [<-Lib.size_eq,zoG] at this;exact this
  have h56:=HZ2.out.2 j hj
  by_cases hlt:j<z
  ·have d56:((cur.size:Int)%64 != 56)=true:=by
    simp only [bne_iff_ne,ne_eq];omega
   have hq1:(cur.size+1 > 9223372036854775807)=False:=by have:=HSL.out;have:=HZ2.out.1;simp;omega
   have hq2:¬(9223372036854775807<cur.size+1):=by have:=HSL.out;have:=HZ2.out.1;omega
   have HN:Hid ((cur++(⟨#[0]⟩:ByteArray)).data.toList=zle s (j+1)):=Hd (by rw [zm4,<-HC.out];simp)
   have HLT:=Hd hlt
   clear hcs h56 hlt hj HC R0
   go_wp2_with fail
   go_roundg (z-(j+1))
   case measure=>have:=HLT.out;omega
   case rel=>exact ⟨j+1,_,rfl,HLT.out,rfl,HN,rfl⟩
  ·obtain rfl:j=z:=by omega
   have d56:((cur.size:Int)%64 != 56)=false:=by
    have:=h56.2 rfl
    simp only [bne_eq_false_iff_eq];omega
   clear h56 hlt hj R0
   go_wp2_with fail
   have hpl:cur.data.toList.map (λ c=>c.toNat)=zk4 s:=by rw [HC.out,<-HZ.out];exact zoH s
   have hM:∃ M,cur.size=4*M:=⟨cur.size / 4,by have:=HZ2.out.2 j (zNr _);have:=this.2 rfl;omega⟩
   obtain ⟨M,hM⟩:=hM
   have hcl:cur.size<=100100:=by have:=HSL.out;have:=HZ2.out.1;omega
   have HFIN:Hid (zbv s=zaG ((zk4 s).take (4*M))++[s.size*8 / 4294967296,s.size*8%4294967296]):=Hd (by
    unfold zbv
    rw [List.take_of_length_le]
    rw [<-hpl,zLm,<-Lib.size_eq,hM];exact zNr _)
   have HPL:=Hd hpl
   have HM:=Hd hM
   have HCL:=Hd hcl
   obtain ⟨P,hP⟩:=exE (zk4 s)
   rw [hP] at HFIN HPL
   have R2:Hid (NmO w (zaG (P.take (4*0))) (.slice none 0 0) w):=Hd (NmO.nil _ _ (zBr _ _))
   clear hpl hM hcl hcs HC hps hb1 hb2 d56 HZ HZ2 hP
   generalize (((s.size:Int)+1+(j:Int))%64 != 56)=bq
   go_loopg [4,5] M (λ g s4 s5 wr=>∃ (m i:Nat) (v:Value),g=M-m/\m<=M/\i=4*m/\s5=.int .i64 (i:Int)/\v=s4/\Hid (NmO w (zaG (P.take (4*m))) v wr))
   case atStart=>exact ⟨0,0,_,rfl,zNz _,rfl,rfl,rfl,R2⟩
   case round =>
    obtain ⟨m,i,v,rfl,hm,hi,rfl,rfl,HR⟩:=hrel
    clear R2
    have hsz:=HM.out
    have hszl:=HCL.out
    by_cases hlt:m<M
    ·obtain ⟨c0,e0,f0⟩:=zhf (t:=cur) (i:=i) (by omega)
     obtain ⟨c1,e1,f1⟩:=zhf (t:=cur) (i:=i+1) (by omega)
     obtain ⟨c2,e2,f2⟩:=zhf (t:=cur) (i:=i+2) (by omega)
     obtain ⟨c3,e3,f3⟩:=zhf (t:=cur) (i:=i+3) (by omega)
     rw [HPL.out] at f0 f1 f2 f3
     have hx0:∀ W,(Instr.index 9 (.string cur) (.int .i64 (i:Int))).run Tryz.prog W=.ok (.int .u8 (c0.toNat:Int)) W:=λ W=>zgj (P:=Tryz.prog) 9 cur i c0 Tryz.underlying9 e0 W
     have hx1:∀ W,(Instr.index 9 (.string cur) (.int .i64 ((i:Int)+1))).run Tryz.prog W=.ok (.int .u8 (c1.toNat:Int)) W:=λ W=>zgj (P:=Tryz.prog) 9 cur (i+1) c1 Tryz.underlying9 e1 W
     have hx2:∀ W,(Instr.index 9 (.string cur) (.int .i64 ((i:Int)+2))).run Tryz.prog W=.ok (.int .u8 (c2.toNat:Int)) W:=λ W=>zgj (P:=Tryz.prog) 9 cur (i+2) c2 Tryz.underlying9 e2 W
     have hx3:∀ W,(Instr.index 9 (.string cur) (.int .i64 ((i:Int)+3))).run Tryz.prog W=.ok (.int .u8 (c3.toNat:Int)) W:=λ W=>zgj (P:=Tryz.prog) 9 cur (i+3) c3 Tryz.underlying9 e3 W
     have hstep:zaG (P.take (4*(m+1)))=zaG (P.take (4*m))++[w4 c0.toNat c1.toNat c2.toNat c3.toNat]:=by
      rw [zi9 (by have:=congrArg List.length HPL.out;rw [zLm,<-Lib.size_eq] at this;omega),<-hi,f0,f1,f2,f3]
     have HSTEP:=Hd hstep
     have HI:=Hd hi
     have HLT:=Hd hlt
     have hil:i+3<cur.size:=by omega
     have hsm:i<=100100:=by omega
     have hl0:i<cur.size:=by omega
     have hl1:i+1<cur.size:=by omega
     have hl2:i+2<cur.size:=by omega
     have z1:(0<=(i:Int)+1)=True:=eq_true (by omega)
     have z2:(0<=(i:Int)+2)=True:=eq_true (by omega)
     have z3:(0<=(i:Int)+3)=True:=eq_true (by omega)
     have b0:=c0.toNat_lt
     have b1:=c1.toNat_lt
     have b2:=c2.toNat_lt
     have b3:=c3.toNat_lt
     have hwl:(zaG (P.take (4*m))).length<=100100:=by
      have h1:((P.take (4*m))).length<=100100:=by rw [List.length_take,<-HPL.out,zLm,<-Lib.size_eq];omega
      have h2:∀ (l:List Nat),(zaG l).length<=l.length:=by
       intro l
       fun_induction zaG l with
       | case1=>simp only [zLc];omega
       | case2=>simp
      exact Nat.le_trans (h2 _) h1
     clear hstep hi hlt e0 e1 e2 e3 f0 f1 f2 f3 hm hsz
     generalize c0.toNat=n0 at *
     generalize c1.toNat=n1 at *
     generalize c2.toNat=n2 at *
     generalize c3.toNat=n3 at *
     have HW4:Hid (((w4 n0 n1 n2 n3:Nat):Int)=(n0:Int)*16777216+(n1:Int)*65536+(n2:Int)*256+(n3:Int)):=Hd (by unfold w4;omega)
     generalize w4 n0 n1 n2 n3=w44 at *
     obtain ⟨o,ho⟩:=exE (zaG (P.take (4*m)))
     rw [ho] at HSTEP HR hwl
     clear ho
     have L1:=Hd (show o.length+1<=maxLen/\(o.length+1)*8<=140737488355328 from ⟨by unfold maxLen;omega,by omega⟩)
     have HO:=Hd HR.out.1
     have HZ:=Hd HR.out.2.size
     have HP:Hid (IntKind.i64.wrap ((i:Int)+1)=(i:Int)+1/\IntKind.i64.wrap ((i:Int)+2)=(i:Int)+2/\IntKind.i64.wrap ((i:Int)+3)=(i:Int)+3):=Hd ⟨zaz (x:=(i:Int)+1) (by omega) (by omega),zaz (x:=(i:Int)+2) (by omega) (by omega),zaz (x:=(i:Int)+3) (by omega) (by omega)⟩
     have HQ:Hid ((IntKind.u64.wrap (n0:Int)=n0/\IntKind.u64.wrap (n1:Int)=n1/\IntKind.u64.wrap (n2:Int)=n2/\IntKind.u64.wrap (n3:Int)=n3)/\(IntKind.u64.wrap ((n0:Int)*16777216)=(n0:Int)*16777216/\IntKind.u64.wrap ((n1:Int)*65536)=(n1:Int)*65536/\IntKind.u64.wrap ((n2:Int)*256)=(n2:Int)*256)/\(IntKind.u64.wrap ((n0:Int)*16777216+(n1:Int)*65536)=(n0:Int)*16777216+(n1:Int)*65536/\IntKind.u64.wrap ((n0:Int)*16777216+(n1:Int)*65536+(n2:Int)*256)=(n0:Int)*16777216+(n1:Int)*65536+(n2:Int)*256/\IntKind.u64.wrap ((n0:Int)*16777216+(n1:Int)*65536+(n2:Int)*256+(n3:Int))=(n0:Int)*16777216+(n1:Int)*65536+(n2:Int)*256+(n3:Int))):=Hd ⟨⟨zbJ _ (by omega) (by omega),zbJ _ (by omega) (by omega),zbJ _ (by omega) (by omega),zbJ _ (by omega) (by omega)⟩,⟨zbJ _ (by omega) (by omega),zbJ _ (by omega) (by omega),zbJ _ (by omega) (by omega)⟩,zbJ _ (by omega) (by omega),zbJ _ (by omega) (by omega),zbJ _ (by omega) (by omega)⟩
     have HOD:Hid (∀ o1,(wr.drew.alloc o1).ownsRow w.heap.size 134 1 v o.length (zb8 o)):=Hd λ o1=>(show wr.drew.ownsRow w.heap.size 134 1 v o.length (zb8 o) from HO.out).alloc o1
     have HBX:Hid (∀ o1,w.heap.size<=(wr.drew.alloc o1).heap.size):=Hd λ o1=>by have:=HZ.out;simp;omega
     have HST:Hid (∀ ob W5 v5,(wr.drew.alloc ob).grownBy W5 v.ownBlock->W5.ownsRow w.heap.size 134 1 v5 (o.length+1) (zb8 o++[.int .u64 ((n0:Int)*16777216+(n1:Int)*65536+(n2:Int)*256+(n3:Int))])->NmO w (zaG (P.take (4*(m+1)))) v5 W5):=Hd λ ob W5 v5 hg h5=>by
      rw [HSTEP.out]
      refine NmO.snoc (W:=wr.drew) ⟨HO.out,HR.out.2.drew⟩ ob hg ?_
      rw [HW4.out];exact h5
     clear HR HSTEP
     obtain ⟨p1,p2,p3⟩:=HP.out
     obtain ⟨⟨q0,q1,q2,q3⟩,⟨r0,r1,r2⟩,r3,r4,r5⟩:=HQ.out
     clear HP HQ b0 b1 b2 b3
     go_wp2_with fail
     refine wp_region_noPanic ?_
     refine wp_region_held_drew (S:=λ _=>True) (by kernel_rfl) ?_ (λ hHeld=>?_)
     ·exact trivial
     refine' tkH 0 rfl ?_
     try simp only [Act.put,List.setIfInBounds_toArray,List.set_cons_zero,List.set_cons_succ,List.getElem_toArray,List.getElem_cons_zero]
     refine' tkH 1 rfl ?_;try simp only [Act.put,awL]
     refine' tkH 2 rfl ?_;try simp only [Act.put,awL]
     refine' tkH 3 rfl ?_;try simp only [Act.put,awL]
     refine' tkH 4 rfl ?_;try simp only [Act.put,awL]
     refine' tkH 5 rfl ?_;try simp only [Act.put,awL]
     refine' tkH 6 rfl ?_;try simp only [Act.put,awL]
     refine' tkH 7 rfl ?_;try simp only [Act.put,awL]
     refine' tkH 8 rfl ?_;try simp only [Act.put,awL]
     refine' tkH 9 rfl ?_;try simp only [Act.put,awL]
     refine' tkH 10 rfl ?_;try simp only [Act.put,awL]
     refine' tkH 11 rfl ?_;try simp only [Act.put,awL]
     refine' tkH 12 rfl ?_;try simp only [Act.put,awL]
     refine' tkH 13 rfl ?_;try simp only [Act.put,awL]
     refine' tkH 14 rfl ?_;try simp only [Act.put,awL]
     refine' tkH 15 rfl ?_;try simp only [Act.put,awL]
     refine' tkH 16 rfl ?_;try simp only [Act.put,awL]
     refine' tkH 17 rfl ?_;try simp only [Act.put,awL]
     refine' tkH 18 rfl ?_;try simp only [Act.put,awL]
     refine' tkH 19 rfl ?_;try simp only [Act.put,awL]
     refine' tkH 20 rfl ?_;try simp only [Act.put,awL]
     refine' tkH 21 rfl ?_;try simp only [Act.put,awL]
     refine' tkH 22 rfl ?_;try simp only [Act.put,awL]
     refine' tkH 23 rfl ?_;try simp only [Act.put,awL]
     refine' tkH 24 rfl ?_;try simp only [Act.put,awL]
     refine' tkH 25 rfl ?_;try simp only [Act.put,awL]
     refine wpAnyH_ready (rs:=[26]) (by kernel_rfl) (by simp) ?_
     refine AllReadyH.cons rfl (λ K hK=>?_) AllReadyH.nil
     go_simp
     refine hK.out _ _ ?_ (λ hHeld=>?_)
     ·exact trivial
     clear hK K
     try simp only [Act.put,awL]
     refine wpAnyH_ready (rs:=[27]) (by kernel_rfl) (by simp) ?_
     refine AllReadyH.cons rfl (λ K hK=>?_) AllReadyH.nil
     refine zat (by rfl) _ _ _ (by rfl) w.heap.size 134 jU _ 1 8 Tryz.underlying277 hjU hU0 hU1 hU2 rfl (by decide) _ _ _ (by rfl) (HOD.out _) _ 1 _ (by rfl) (zai _ #[.int .u64 ((n0:Int)*16777216+(n1:Int)*65536+(n2:Int)*256+(n3:Int))] _ 1 1) rfl (zkk _ rfl) L1.out.1 L1.out.2 (HBX.out _) ?_
     intro v5 W5 ho5 hg5 ha5
     have HN5:=Hd (HST.out _ W5 v5 hg5 ho5)
     clear ho5 hg5 ha5
     refine hK.out _ _ ?_ (λ hHeld=>?_)
     ·exact trivial
     clear hK K
     try simp only [Act.put,awL]
     refine' tkH 28 rfl ?_;try simp only [Act.put,awL]
     refine wpAnyH_done (by kernel_rfl) ?_ _
     refine NoPanic.normal ?_
     go_wp2_with fail
     go_roundg (M-(m+1))
     case measure=>have:=HLT.out;omega
     case rel=>exact ⟨m+1,i+4,_,rfl,HLT.out,by have:=HI.out;omega,rfl,rfl,HN5⟩
    ·obtain rfl:m=M:=by omega
     obtain ⟨o,ho⟩:=exE (zaG (P.take (4*m)))
     rw [ho] at HR HFIN
     have hol:o.length<=100100:=by
      have h1:((P.take (4*m))).length<=100100:=by rw [List.length_take,<-HPL.out,zLm,<-Lib.size_eq];omega
      have h2:∀ (l:List Nat),(zaG l).length<=l.length:=by
       intro l
       fun_induction zaG l with
       | case1=>simp only [zLc];omega
       | case2=>simp
      rw [<-ho]
      exact Nat.le_trans (h2 _) h1
     have LW:∀ W,Calls Tryz.prog 231 #[.int .u64 (8*(s.size:Int))] W λ e w'=>e=.returned (.int .u64 ((8*s.size%4294967296:Nat):Int))/\W=w':=λ W=>zk5 (8*s.size) W
     have L1:=Hd (show o.length+2<=maxLen/\(o.length+2)*8<=140737488355328 from ⟨by unfold maxLen;omega,by omega⟩)
     have HO:=Hd HR.out.1
     have HZ:=Hd HR.out.2.size
     have HAZ:Hid (∀ o1:Obj,w.heap.size<=(wr.alloc o1).heap.size):=Hd λ o1=>by have:=HZ.out;simp;omega
     have HST:Hid (∀ ob W5 v5,(wr.alloc ob).grownBy W5 v.ownBlock->W5.ownsRow w.heap.size 134 1 v5 (o.length+2) (zb8 o++[.int .u64 (8*(s.size:Int) / 4294967296),.int .u64 ((8*s.size%4294967296:Nat):Int)])->NmO w (zbv s) v5 W5):=Hd λ ob W5 v5 hg h5=>by
      rw [HFIN.out]
      have e1:zb8 (o++[s.size*8 / 4294967296,s.size*8%4294967296])=zb8 o++[.int .u64 (8*(s.size:Int) / 4294967296),.int .u64 ((8*s.size%4294967296:Nat):Int)]:=by
       unfold zb8
       rw [List.map_append,List.map_cons,List.map_cons,List.map_nil,Nat.mul_comm s.size 8]
       rfl
      exact ⟨by rw [e1,zLa];exact h5,(HR.out.2.alloc HZ.out ob).grown hg (by have:=HZ.out;simp;omega) λ j e=>(HR.out.1.lt j e).1⟩
     have hge:¬i<cur.size:=by omega
     clear HR HFIN hlt hm hi ho HPL hsz
     generalize (8*s.size%4294967296)=lo at *
     go_wp2_with fail
     refine (LW _).mono ?_
     rintro e wa ⟨rfl,rfl⟩
     clear LW
     go_wp2_with (first
      | (refine zeA 277 277 ⟨_,_,by with_reducible rfl⟩ ?_
         refine zag (by rfl) _ _ _ rfl w.heap.size 134 jU _ 1 8 Tryz.underlying277 hjU hU0 hU1 hU2 rfl (by decide) _ _ _ (by rfl) (HO.out.alloc _) _ 2 _ (by rfl) (zai _ #[.int .u64 (8*(s.size:Int) / 4294967296),.int .u64 (lo:Int)] _ 2 2) rfl (znn _ _ rfl rfl) L1.out.1 L1.out.2 (HAZ.out _) ?_
         intro v5 W5 ho5 hg5 ha5
         have HN5:=Hd (HST.out _ W5 v5 hg5 ho5)
         clear ho5 hg5 ha5))
     go_ret
     exact ⟨_,rfl,HN5⟩
section
variable {P:Program} {w:World}
theorem zih (t ty:TypeId) (base:Nat) (e:TypeId) (i:TypeInfo) (z:Value) (size bytes:Nat) (ht:P.underlying t=some (.slice e)) (hi:P.info? e=some i) (hz:i.zero=some z)
 (hsize:i.size=size) (hby:i.bytes=bytes) (hzs:z.cells.size=size) (hsz:0<size)
 (v:Value) (n:Nat) (xs:List Value) (hown:w.ownsRow base e size v n xs)
 (x:Value) (m:Nat) (news:List Value) (hx:zbV w x m news) (hl:news.length=m*size) (h1:∀ u∈news,u.oneCell'=true)
 (h63:n+m<=maxLen) (hbytes:(n+m)*bytes<=140737488355328) (hbase:base<=w.heap.size) :
 ∃ v' w',(Builtin.append_ #[t,t] ty #[v,x]).run P w=.ok v' w'/\w'.ownsRow base e size v' (n+m) (xs++news)/\w.grownBy w' v.ownBlock/\(v'.ownBlock=v.ownBlock\/v'.ownBlock=some w.heap.size) /\
  ∀ g,v.ownBlock=some g->∀ j u,xs[j]?=some u->w'.cell? ⟨g,j,none⟩=some u:=by
 obtain ⟨v',w',hr,h2,h3,h4⟩:=ze0 (P:=P) (w:=w) t ty base e i z size bytes ht hi hz hsize hby hzs hsz v n xs hown x m news hx hl h1 h63 hbytes hbase
 refine ⟨v',w',hr,h2,h3,h4,λ g hg j u hu=>?_⟩
 have same:v'.ownBlock=some g->w'.cell? ⟨g,j,none⟩=some u:=λ hv=>by
  have:=h2.cells hv j u (by rw [List.getElem?_append_left (List.getElem?_eq_some_iff.1 hu).1];exact hu)
  rwa [zbk,Nat.zero_add] at this
 rcases hown.2 with ⟨rfl,_⟩|⟨g',cap,cur,rfl,a1,a2,a3,a4,a5,a6⟩
 ·cases hg
 ·obtain rfl:g'=g:=Option.some.inj hg
  by_cases hroom:n+m<=cap
  ·rcases h4 with h4|h4
   ·exact same h4
   ·exfalso
    obtain ⟨o,c,rfl,ho,hc⟩:=hx
    cases o with
    | none =>
      obtain rfl:m=0:=ho rfl
      rw [zdL base t ty e i size ht hi _ n c xs hown] at hr
      injection hr with e1 e2
      subst e1;subst e2
      have:=(hown.lt g' rfl).2
      rw [show (Value.slice (some ⟨g',0,none⟩) n cap).ownBlock=some g' from rfl] at h4
      injection h4 with h4
      omega
    | some ad =>
      have hsrc:Src P i.size t (.slice (some ad) m c) m news w:=Src.ofSlice w ht _ m c _ (by rw [hsize];exact hl) (hc ad rfl) h1
      have hlen:∀ j,j<news.length->0+n*i.size+j<cur.size:=λ j hj=>by
       rw [a5,hsize,Nat.zero_add,<-Nat.sub_add_cancel hroom]
       have:n*size+j<(n+m)*size:=by rw [Nat.add_mul];omega
       rw [Nat.sub_add_cancel hroom]
       exact Nat.lt_of_lt_of_le this (Nat.mul_le_mul_right _ hroom)
      have hrun:=run_append_room_src (P:=P) w t t ty e i ht hi g' 0 n cap _ m _ hsrc hroom
       (λ j hj=>by
         have h:=hlen j hj
         rw [cell_of_row w g' (0+n*i.size+j) cur e (0,0) a2,Array.getElem?_eq_getElem h];rfl)
       (λ j hj=>by simp [World.frozen?,a2])
      rw [hr] at hrun
      injection hrun with e1 e2
      rw [e1] at h4
      have:=(hown.lt g' rfl).2
      rw [show (Value.slice (some ⟨g',0,none⟩) (n+m) cap).ownBlock=some g' from rfl] at h4
      injection h4 with h4
      omega
  ·obtain ⟨o,c,rfl,ho,hc⟩:=hx
   cases o with
   | none =>
     obtain rfl:m=0:=ho rfl
     omega
   | some ad =>
     have hsrc:Src P i.size t (.slice (some ad) m c) m news w:=Src.ofSlice w ht _ m c _ (by rw [hsize];exact hl) (hc ad rfl) h1
     have hfirst:(Builtin.firstCells i.size n (.slice (some ⟨g',0,none⟩) n cap)).run P w.drew=.ok xs.toArray w.drew:=by
      rw [hsize]
      refine run_firstCells_some w.drew size n _ n cap _ hown.1 ?_
      intro j u hu
      rw [World.cell?_drew]
      exact hown.cells rfl j u hu
     have hrun:=run_append_grow_src (P:=P) w t t ty e i z ht hi hz (some ⟨g',0,none⟩) n cap _ hfirst _ m _ hsrc (by omega) (by unfold maxLen at h63;omega)
      (growslice_fits (by omega) (by rw [hby];exact hbytes))
     rw [hr] at hrun
     injection hrun with e1 e2
     subst e2
     have hlt:=(hown.lt g' rfl).2
     have hb:(w.drew.alloc (.cells ((xs++news).toArray++Builtin.zeroCells z.cells (grownCap w (n+m) cap e-(n+m))) e)).heap[g']?=w.heap[g']?:=zao (w:=w.drew) _ hlt
     have hcell:=hown.cells rfl j u hu
     rw [zbk,Nat.zero_add] at hcell
     rw [<-hcell]
     simp only [World.cell?,hb]
theorem zhg {ops:Array Oper} {o:Oper} {a:Act} {K:Act->World->Prop} {Q:Exit->Act->World->Prop} {E:Prop} (hgd:o.guard=none) (s x:Operand) (t:TypeId)
 (ho:o.op=.call { callee:=.builtin .append,args:=#[s,x],argTypes:=#[t,t] })
 (base:Nat) (e:TypeId) (i:TypeInfo) (z:Value) (size bytes:Nat) (ht:P.underlying t=some (.slice e)) (hi:P.info? e=some i) (hz:i.zero=some z)
 (hsize:i.size=size) (hby:i.bytes=bytes) (hzs:z.cells.size=size) (hsz:0<size)
 (v:Value) (n:Nat) (xs:List Value) (hs:a.eval s=v) (hown:w.ownsRow base e size v n xs)
 (y:Value) (m:Nat) (news:List Value) (hx:a.eval x=y) (hy:zbV w y m news) (hl:news.length=m*size) (h1:∀ u∈news,u.oneCell'=true)
 (h63:n+m<=maxLen) (hbytes:(n+m)*bytes<=140737488355328) (hbase:base<=w.heap.size)
 (h:∀ v' w',w'.ownsRow base e size v' (n+m) (xs++news)->w.grownBy w' v.ownBlock->(∀ g,v.ownBlock=some g->∀ j u,xs[j]?=some u->w'.cell? ⟨g,j,none⟩=some u)->K (a.put o.dst v') w') :
 if Region.wanted o (yielded ops a.tmps)=true then Oper.wp P o a w K Q else E:=by
 have hw:Region.wanted o (yielded ops a.tmps)=true:=by simp [Region.wanted,hgd]
 rw [if_pos hw]
 obtain ⟨v',w',hr,h2,h3,-,h4⟩:=zih (P:=P) (w:=w) t o.type base e i z size bytes ht hi hz hsize hby hzs hsz v n xs hown y m news hy hl h1 h63 hbytes hbase
 unfold Oper.wp execOp
 simp only [ho,resolve,invoke,builtin,Sem.run_bind,Sem.run_pure,Result.andThen_ok,List.map_toArray,List.map_cons,List.map_nil,hs,hx,hr]
 exact h v' w' h2 h3 h4
end
theorem zii (s:ByteArray) (h:s.size*8<18446744073709551616):∃ M,(zbv s).length=16*M/\(1<=M/\M<=s.size / 64+2)/\za1 (zbv s):=by
 have h0:=zid s
 obtain ⟨q1,q2⟩:=zf1 ((zcr s).length / 4) (zcr s) (by omega) (zhe s)
 rw [zgw s h] at q1 q2
 have h1:s.size+9<=(zcr s).length/\(zcr s).length<=s.size+73:=by
  unfold zcr zk4 zdr
  simp only [zLa,zLc,List.length_replicate,zf2]
  have:(zdI s.size).length=8:=by simp [zdI]
  omega
 exact ⟨(zcr s).length / 64,by omega,⟨by omega,by omega⟩,q2⟩
theorem NmO.form {w wr:World} {o:List Nat} {v:Value} (h:NmO w o v wr) (ho:0<o.length):∃ g cap,v=.slice (some ⟨g,0,none⟩) o.length cap/\w.heap.size<=g/\g<wr.heap.size/\o.length<=cap:=by
 rcases h.1.2 with ⟨rfl,h0⟩|⟨g,cap,cur,rfl,h1,h2,h3,-⟩
 ·omega
 ·exact ⟨g,cap,rfl,h1,(h.1.lt g rfl).2,h3⟩
theorem NmO.rd {w wr:World} {o:List Nat} {v:Value} (h:NmO w o v wr):zaB wr v o.length 1 (zb8 o):=zaB.own h.1
structure ByO (w:World) (g7 c7 g8 c8:Nat) (ws:List Nat) (H:List Nat) (wr:World):Prop where
 sums:wr.ownsRow w.heap.size 134 1 (.slice (some ⟨g7,0,none⟩) 8 c7) 8 (zb8 H)
 all:zaB wr (.slice (some ⟨g8,0,none⟩) ws.length c8) ws.length 1 (zb8 ws)
 ne:g7≠g8
 bel:Below w.heap.size w wr
theorem zkg (l:List Nat):∀ u∈zb8 l,u.oneCell'=true:=by
 intro u hu
 obtain ⟨x,-,rfl⟩:=List.mem_map.1 hu
 rfl
theorem zja {b:List Nat} (h:za1 b):∀ j,za1 (zfg b j)
 | 0=>h
 | j+1=>λ x hx=>by
   rcases List.mem_append.1 hx with hx|hx
   ·exact zja h j x hx
   ·rw [List.mem_singleton.1 hx];exact Nat.mod_lt _ (by decide)
structure ByA (w:World) (g7 c7 g8 c8 g12 c12:Nat) (ws:List Nat) (H L:List Nat) (wr:World):Prop where
 sums:wr.ownsRow w.heap.size 134 1 (.slice (some ⟨g7,0,none⟩) 8 c7) 8 (zb8 H)
 all:zaB wr (.slice (some ⟨g8,0,none⟩) ws.length c8) ws.length 1 (zb8 ws)
 vv:zaB wr (.slice (some ⟨g12,0,none⟩) 8 c12) 8 1 (zb8 L)
 ne:g7≠g8
 nv:g7≠g12
 bel:Below w.heap.size w wr
theorem zqR {w:World} {base n g cap:Nat} {e:TypeId} {xs:List Value} (h:w.ownsRow base e 1 (.slice (some ⟨g,0,none⟩) n cap) n xs) (i:Nat) (hi:i<n) (u:Value):(w.setCell ⟨g,i,none⟩ u).ownsRow base e 1 (.slice (some ⟨g,0,none⟩) n cap) n (xs.set i u):=by
 refine ⟨by rw [List.length_set];exact h.1,?_⟩
 rcases h.2 with ⟨h0,-⟩|⟨g',cap',cur,e',a1,a2,a3,a4,a5,a6⟩
 ·cases h0
 ·cases e'
  refine .inr ⟨g,cap,_,rfl,a1,zac (i:=i) a2 u,a3,a4,by rw [Array.size_setIfInBounds];exact a5,?_⟩
  rw [<-a6,Array.toList_setIfInBounds,List.take_set]
theorem zaB.setNe {w:World} {b off n cap sz:Nat} {m:Nat} {xs:List Value} (h:zaB w (.slice (some ⟨b,off,none⟩) m cap) n sz xs) {x i:Nat} (hx:b≠x) (u:Value):zaB (w.setCell ⟨x,i,none⟩ u) (.slice (some ⟨b,off,none⟩) m cap) n sz xs:=by
 obtain ⟨a,c,e,h1,h2,h3,h4⟩:=h
 cases e
 obtain ⟨b',o',e',h5,h6⟩:=h4 _ rfl
 cases e'
 refine ⟨_,_,rfl,h1,h2,h3,λ ad e=>?_⟩
 cases e
 refine ⟨b,off,rfl,by simpa using h5,λ j v hv=>?_⟩
 have:=h6 j v hv
 rw [<-this]
 simp only [World.cell?,zae _ hx]
theorem ByA.set {w wr:World} {g7 c7 g8 c8 g12 c12:Nat} {ws H L:List Nat} (h:ByA w g7 c7 g8 c8 g12 c12 ws H L wr) {i:Nat} (hi:i<8) (z:Nat):ByA w g7 c7 g8 c8 g12 c12 ws (H.set i z) L (wr.setCell ⟨g7,i,none⟩ (.int .u64 (z:Int))):=by
 have hl:=h.sums.lt g7 rfl
 refine ⟨?_,h.all.setNe h.ne.symm _,h.vv.setNe h.nv.symm _,h.ne,h.nv,h.bel.setCell hl.1 _⟩
 have:=zqR h.sums i hi (.int .u64 (z:Int))
 have e:(zb8 H).set i (.int .u64 (z:Int))=zb8 (H.set i z):=by unfold zb8;rw [List.map_set]
 rwa [e] at this
theorem ByA.drew {w wr:World} {g7 c7 g8 c8 g12 c12:Nat} {ws H L:List Nat} (h:ByA w g7 c7 g8 c8 g12 c12 ws H L wr):ByA w g7 c7 g8 c8 g12 c12 ws H L wr.drew:=⟨h.sums,h.all,h.vv,h.ne,h.nv,h.bel.drew⟩
def ByF (w:World) (g7 c7:Nat) (H:List Nat) (p:Nat) (o:ByteArray) (wr:World):Prop :=
 o.data.toList=(zhJ H).take p/\wr.ownsRow w.heap.size 134 1 (.slice (some ⟨g7,0,none⟩) 8 c7) 8 (zb8 H)/\Below w.heap.size w wr
theorem V8.list_len (v:V8):v.list.length=8:=rfl
theorem V8.list_32 {v:V8} (h:v.Ok):za1 v.list:=λ x hx=>by
 simp only [V8.list,List.mem_cons,List.not_mem_nil,or_false] at hx
 rcases hx with rfl|rfl|rfl|rfl|rfl|rfl|rfl|rfl
 ·exact h.a
 ·exact h.b
 ·exact h.c
 ·exact h.d
 ·exact h.e
 ·exact h.f
 ·exact h.g
 ·exact h.h
theorem zjb (h ws:List Nat) (m:Nat):zb3 h ws (m+1)=zf0 (zb3 h ws m) ((ws.drop (16*m)).take 16):=rfl
theorem zm5 (h b:List Nat):zf0 h b=zco h (zi4 (V8.of h) b 64).list 8:=rfl
theorem V8.of_list {h:List Nat} (hl:h.length=8):(V8.of h).list=h:=by
 match h,hl with
 | [a,b,c,d,e,f,g,i],_=>rfl
theorem zk6 {v:V8} (h:v.Ok) (k w:Nat):(zd3 v k w).Ok :=
 ⟨Nat.mod_lt _ (by decide),h.a,h.b,h.c,Nat.mod_lt _ (by decide),h.e,h.f,h.g⟩
theorem zjc {v:V8} (h:v.Ok) (b:List Nat):∀ t,(zi4 v b t).Ok
 | 0=>h
 | t+1=>zk6 (zjc h b t) _ _
theorem zs6 (s:ByteArray) (v1 v2:Value) (w:World) (hs:s.size<=100000) (h1:zaB w v1 8 1 (zb8 pn0.h)) (h2:zaB w v2 64 1 (zb8 kL)) :
 Calls Tryz.prog 193 #[.string s,v1,v2] w λ e w'=>e=.returned (.string (prB s))/\Hid (Below w.heap.size w w'):=by
 obtain ⟨jU,hjU,hU0,hU1,hU2⟩:=info_parts zi8
 obtain ⟨M,hM1,hM2,hM3⟩:=zii s (by omega)
 have HPR:=Hd (zsq s (by omega))
 have WC:Hid (∀ W,Calls Tryz.prog 230 #[.string s] W λ e w'=>∃ v,e=.returned v/\Hid (NmO W (zbv s) v w')):=Hd λ W=>zqQ s W hs
 obtain ⟨ws,hws⟩:=exE (zbv s)
 rw [hws] at hM1 hM3 HPR WC
 have HMS:=Hd (show 1<=M/\M<=2000 by omega)
 have HM1:=Hd hM1
 have H32:=Hd hM3
 have HK:=Hd h2
 have HY:=Hd h1.yields
 obtain ⟨a2,c2,rfl,hc2⟩:=h2.form
 obtain ⟨bk,ok,rfl,-,-⟩:=h2.get (zbf (l:=kL) (i:=0) (by decide))
 obtain ⟨a1,c1,rfl,hc1⟩:=h1.form
 clear h1 h2 hM1 hM2 hM3 hs hws hc1 hc2
 go_enter Tryz.func193,Tryz.ntmps193
 go_wp2_with (first
  | (refine zeA 277 277 ⟨_,_,by with_reducible rfl⟩ ?_
     refine zag (by rfl) _ _ _ rfl w.heap.size 134 jU _ 1 8 Tryz.underlying277 hjU hU0 hU1 hU2 rfl (by decide) (.slice none 0 0) 0 [] (by rfl) (World.ownsRow_nil _ _ _ _) _ 8 _ (by rfl) HY.out rfl (by decide) (by decide) (by decide) (zNr _) ?_
     intro v7 W1 ho7 hg7 ha7
     have H7:Hid (NmO w pn0.h v7 W1):=Hd ⟨ho7,(zBr _ _).grown hg7 (zNr _) λ j e=>(by cases e)⟩
     clear ho7 hg7 ha7))
 refine (WC.out W1).mono ?_
 rintro e W2 ⟨v8,rfl,H8⟩
 clear WC HY
 obtain ⟨g7,c7,rfl,k1,k2,k3⟩:=H7.out.form (by decide)
 obtain ⟨g8,c8,rfl,l1,l2,l3⟩:=H8.out.form (by have:=HM1.out;have:=HMS.out;omega)
 have R0:Hid (ByO w g7 c7 g8 c8 ws (zb3 pn0.h ws 0) W2):=Hd
  ⟨za0 H7.out.1 λ j e=>by cases e;exact H8.out.2.block g7 k2,H8.out.rd,by omega,H7.out.2.trans (H8.out.2.mono H7.out.2.size)⟩
 have HC8:=Hd l3
 rw [show pn0.h.length=8 from rfl]
 clear H7 H8 k1 k2 k3 l1 l2 l3
 go_wp2_with fail
 go_loopg [9] M (λ g s9 wr=>∃ (m at_:Nat),g=M-m/\m<=M/\at_=16*m/\s9=.int .i64 (at_:Int)/\Hid (ByO w g7 c7 g8 c8 ws (zb3 pn0.h ws m) wr))
 case atStart=>exact ⟨0,0,rfl,zNz _,rfl,rfl,R0⟩
 case round =>
  obtain ⟨wo,rfl⟩:∃ x,x=wr:=⟨_,rfl⟩
  obtain ⟨m,at_,rfl,hm,hat,rfl,HR⟩:=hrel
  clear R0
  by_cases hlt:m<M
  ·-- part 5 begins
   have hl1:at_+16<=ws.length:=by rw [HM1.out];omega
   have HAT:=Hd hat
   have HLT:=Hd hlt
   have hlc:ws.length<=c8:=HC8.out
   have hsz:ws.length<=32000:=by rw [HM1.out];have:=HMS.out;omega
   obtain ⟨b,hb⟩:=exE ((ws.drop at_).take 16)
   have hbl:b.length=16:=by rw [<-hb,List.length_take,List.length_drop];omega
   have HBL:=Hd hbl
   have HB:=Hd hb
   have hb32:Hid (za1 b):=Hd λ x hx=>by rw [<-hb] at hx;exact H32.out x (List.mem_of_mem_drop (List.mem_of_mem_take hx))
   have HYB:Hid (∀ W c,Below wo.heap.size wo W->16<=c->zbV W (.slice (some ⟨g8,at_,none⟩) (at_+16-at_) c) 16 (zb8 b)):=Hd λ W c hW hc=>by
    rw [Nat.add_sub_cancel_left]
    have:=(HR.out.all.below hW).part at_ 16 c (by omega) hc
    rw [Nat.zero_add] at this
    have e:((zb8 ws).drop at_).take 16=zb8 b:=by unfold zb8;rw [<-List.map_drop,<-List.map_take,hb]
    rw [e] at this
    exact this.yields
   have wa:IntKind.i64.wrap ((at_:Int)+16)=(at_:Int)+16:=zaz (x:=(at_:Int)+16) (by omega) (by omega)
   have q1:(at_<ws.length)=True:=eq_true (by omega)
   clear hat hlt hb hbl hm
   have HCA:=Hd (show 16<=c8-at_ by omega)
   go_wp2_with (first
    | (refine zeA 277 277 ⟨_,_,by with_reducible rfl⟩ ?_
       refine zag (by rfl) _ _ _ rfl wo.heap.size 134 jU _ 1 8 Tryz.underlying277 hjU hU0 hU1 hU2 rfl (by decide) (.slice none 0 0) 0 [] (by rfl) (World.ownsRow_nil _ _ _ _) _ 16 (zb8 b) (by rfl) (HYB.out _ _ (zBr _ _) HCA.out) ((zhc b).trans HBL.out) (zkg b) (by decide) (by decide) (zNr _) ?_
       intro v10 W3 ho10 hg10 ha10
       have H10:Hid (NmO wo (zfg b 0) v10 W3):=Hd ⟨by rw [show (zfg b 0).length=0+16 from HBL.out];exact ho10,(zBr _ _).grown hg10 (zNr _) λ j e=>(by cases e)⟩
       clear ho10 hg10 ha10))
   go_loopg [10,11] 48 (λ g s10 s11 W=>∃ (j t:Nat) (v:Value),g=48-j/\j<=48/\t=16+j/\s11=.int .i64 (t:Int)/\v=s10/\Hid (NmO wo (zfg b j) v W))
   case atStart=>exact ⟨0,16,_,rfl,zNz _,rfl,rfl,rfl,H10⟩
   case round =>
    obtain ⟨j,t,v,rfl,hj,ht,rfl,rfl,HX⟩:=hrel
    clear H10 HYB HCA
    by_cases hlt2:j<48
    ·-- part 12 begins
     have hel:(zfg b j).length=t:=by rw [zey,HBL.out,ht]
     have hE32:=zja hb32.out j
     obtain ⟨E,hE⟩:=exE (zfg b j)
     have HXN:Hid (zfg b (j+1)=E++[nxW E t]):=Hd (by rw [<-hE,ht];rfl)
     rw [hE] at HX hel hE32
     obtain ⟨g,cap,rfl,k1,k2,k3⟩:=HX.out.form (by omega)
     have HX1:=HX.out.1
     rw [hel] at HX1 k3 ⊢
     have cell:∀ i,i<t->wr.cell? ⟨g,i,none⟩=some (.int .u64 (E.getD i 0:Nat)):=λ i hi=>by
      have:=HX1.cells rfl i _ (zbf (by omega))
      rwa [zbk,Nat.zero_add] at this
     obtain ⟨i0,e0⟩:∃ i,i=t-16:=⟨_,rfl⟩
     obtain ⟨i1,e1⟩:∃ i,i=t-15:=⟨_,rfl⟩
     obtain ⟨i2,e2⟩:∃ i,i=t-7:=⟨_,rfl⟩
     obtain ⟨i3,e3⟩:∃ i,i=t-2:=⟨_,rfl⟩
     have c0:=cell i0 (by omega)
     have c1:=cell i1 (by omega)
     have c2:=cell i2 (by omega)
     have c3:=cell i3 (by omega)
     have b0:=hE32.get i0
     have b1:=hE32.get i1
     have b2:=hE32.get i2
     have b3:=hE32.get i3
     have HNX:Hid (nxW E t=(E.getD i0 0+zbS (E.getD i1 0) 7 18 3+E.getD i2 0+zbS (E.getD i3 0) 17 19 10)%4294967296):=Hd (by unfold nxW;rw [<-e0,<-e1,<-e2,<-e3])
     have d0:(zb8 E)[i0]?=some (.int .u64 (E.getD i0 0:Nat)):=zbf (by omega)
     have d1:(zb8 E)[i1]?=some (.int .u64 (E.getD i1 0:Nat)):=zbf (by omega)
     have d2:(zb8 E)[i2]?=some (.int .u64 (E.getD i2 0:Nat)):=zbf (by omega)
     have d3:(zb8 E)[i3]?=some (.int .u64 (E.getD i3 0:Nat)):=zbf (by omega)
     generalize E.getD i0 0=x0 at *
     generalize E.getD i1 0=x1 at *
     generalize E.getD i2 0=x2 at *
     generalize E.getD i3 0=x3 at *
     have SM1:∀ Y,Calls Tryz.prog 232 #[.int .u64 (x1:Int),.int .u64 7,.int .u64 18,.int .u64 3] Y λ e w'=>e=.returned (.int .u64 ((zbS x1 7 18 3:Nat):Int))/\Y=w':=λ Y=>zmZ x1 7 18 3 Y b1 (by decide) (by decide) (by decide)
     have SM2:∀ Y,Calls Tryz.prog 232 #[.int .u64 (x3:Int),.int .u64 17,.int .u64 19,.int .u64 10] Y λ e w'=>e=.returned (.int .u64 ((zbS x3 17 19 10:Nat):Int))/\Y=w':=λ Y=>zmZ x3 17 19 10 Y b3 (by decide) (by decide) (by decide)
     have y1:=zjI x1 7 18 3 (by decide) (by decide) b1
     have y2:=zjI x3 17 19 10 (by decide) (by decide) b3
     generalize zbS x1 7 18 3=s1 at *
     generalize zbS x3 17 19 10=s2 at *
     have LW:∀ Y,Calls Tryz.prog 231 #[.int .u64 ((x0:Int)+(s1:Int)+(x2:Int)+(s2:Int))] Y λ e w'=>e=.returned (.int .u64 (((x0+s1+x2+s2)%4294967296:Nat):Int))/\Y=w':=λ Y=>zk5 (x0+s1+x2+s2) Y
     rw [HNX.out] at HXN
     obtain ⟨z,hz⟩:=exE ((x0+s1+x2+s2)%4294967296)
     rw [hz] at HXN LW
     have hq:Hid ((IntKind.i64.wrap ((t:Int)-16)=(i0:Int)/\IntKind.i64.wrap ((t:Int)-15)=(i1:Int)/\IntKind.i64.wrap ((t:Int)-7)=(i2:Int)/\IntKind.i64.wrap ((t:Int)-2)=(i3:Int))/\IntKind.u64.wrap ((x0:Int)+(s1:Int))=(x0:Int)+(s1:Int)/\IntKind.u64.wrap ((x0:Int)+(s1:Int)+(x2:Int))=(x0:Int)+(s1:Int)+(x2:Int)/\IntKind.u64.wrap ((x0:Int)+(s1:Int)+(x2:Int)+(s2:Int))=(x0:Int)+(s1:Int)+(x2:Int)+(s2:Int)):=Hd (by
      have w0:∀ (a:Int),0<=a->a<1000->IntKind.i64.wrap a=a:=λ a h1 h2=>zaz (x:=a) (by omega) (by omega)
      refine ⟨⟨?_,?_,?_,?_⟩,zbJ _ (by omega) (by omega),zbJ _ (by omega) (by omega),zbJ _ (by omega) (by omega)⟩
      ·rw [w0 _ (by omega) (by omega)];omega
      ·rw [w0 _ (by omega) (by omega)];omega
      ·rw [w0 _ (by omega) (by omega)];omega
      ·rw [w0 _ (by omega) (by omega)];omega)
     have L1:=Hd (show t+1<=maxLen/\(t+1)*8<=140737488355328 from ⟨by unfold maxLen;omega,by omega⟩)
     have hi0:i0<t:=by omega
     have hi1:i1<t:=by omega
     have hi2:i2<t:=by omega
     have hi3:i3<t:=by omega
     have HT:=Hd ht
     have HJ:=Hd hlt2
     have htl:t<64:=by omega
     have HEL:=Hd hel
     have HZ2:=Hd HX.out.2.size
     have HOD:Hid (∀ o1,(wr.drew.alloc o1).ownsRow wo.heap.size 134 1 (.slice (some ⟨g,0,none⟩) t cap) t (zb8 E)):=Hd λ o1=>(show wr.drew.ownsRow wo.heap.size 134 1 (.slice (some ⟨g,0,none⟩) t cap) t (zb8 E) from HX1).alloc o1
     have HBX:Hid (∀ o1,wo.heap.size<=(wr.drew.alloc o1).heap.size):=Hd λ o1=>by have:=HZ2.out;simp;omega
     have HST:Hid (∀ ob W5 v5,(wr.drew.alloc ob).grownBy W5 (Value.slice (some ⟨g,0,none⟩) t cap).ownBlock->W5.ownsRow wo.heap.size 134 1 v5 (t+1) (zb8 E++[.int .u64 (z:Int)])->NmO wo (zfg b (j+1)) v5 W5):=Hd λ ob W5 v5 hg h5=>by
      rw [HXN.out]
      refine ⟨by rw [zLa,List.length_singleton,HEL.out,zia];exact h5,?_⟩
      exact (HX.out.2.drew.alloc HZ2.out ob).grown hg (by have:=HZ2.out;simp;omega) λ j e=>(HX1.lt j e).1
     have HS5:Hid (∀ o1,(wr.drew.alloc o1).cell? ⟨g,i0,none⟩=some (.int .u64 (x0:Int))/\(wr.drew.alloc o1).cell? ⟨g,i1,none⟩=some (.int .u64 (x1:Int))/\(wr.drew.alloc o1).cell? ⟨g,i2,none⟩=some (.int .u64 (x2:Int))/\(wr.drew.alloc o1).cell? ⟨g,i3,none⟩=some (.int .u64 (x3:Int))):=Hd λ o1=>by
      have hb:Below wr.heap.size wr (wr.drew.alloc o1):=(zBr _ _).drew.alloc (zNr _) o1
      have hl:g<wr.heap.size:=World.block_lt_of_cell? wr _ c0
      exact ⟨(hb.cell (p:=⟨g,i0,none⟩) hl).trans c0,(hb.cell (p:=⟨g,i1,none⟩) hl).trans c1,(hb.cell (p:=⟨g,i2,none⟩) hl).trans c2,(hb.cell (p:=⟨g,i3,none⟩) hl).trans c3⟩
     have HS6:Hid (∀ W5:World,(∀ g',(Value.slice (some ⟨g,0,none⟩) t cap).ownBlock=some g'->∀ j u,(zb8 E)[j]?=some u->W5.cell? ⟨g',j,none⟩=some u)->W5.cell? ⟨g,i0,none⟩=some (.int .u64 (x0:Int))/\W5.cell? ⟨g,i1,none⟩=some (.int .u64 (x1:Int))/\W5.cell? ⟨g,i2,none⟩=some (.int .u64 (x2:Int))/\W5.cell? ⟨g,i3,none⟩=some (.int .u64 (x3:Int))):=Hd λ W5 h=>⟨h g rfl i0 _ d0,h g rfl i1 _ d1,h g rfl i2 _ d2,h g rfl i3 _ d3⟩
     clear d0 d1 d2 d3
     obtain ⟨⟨q0,q1,q2,q3⟩,q4,q5,q6⟩:=hq.out
     clear HX HX1 HXN HNX b0 b1 b2 b3 y1 y2 hz hq e0 e1 e2 e3 cell hel hE hE32 ht hlt2 hj k1 k2 k3
     go_wp2_with fail
     refine wp_region_noPanic ?_
     refine wp_region_held_drew (S:=(λ (w':World)=>w'.cell? ⟨g,i0,none⟩=some (.int .u64 (x0:Int))/\w'.cell? ⟨g,i1,none⟩=some (.int .u64 (x1:Int))/\w'.cell? ⟨g,i2,none⟩=some (.int .u64 (x2:Int))/\w'.cell? ⟨g,i3,none⟩=some (.int .u64 (x3:Int)))) (by kernel_rfl) ?_ (λ hHeld=>?_)
     ·exact ⟨c0,c1,c2,c3⟩
     refine' tkH 0 rfl ?_
     try simp only [Act.put,List.setIfInBounds_toArray,List.set_cons_zero,List.set_cons_succ,List.getElem_toArray,List.getElem_cons_zero]
     refine' tkH 1 rfl ?_;try simp only [Act.put,awL]
     refine' tkH 2 rfl ?_;try simp only [Act.put,awL]
     refine' tkH 3 rfl ?_;try simp only [Act.put,awL]
     refine' tkH 4 rfl ?_;try simp only [Act.put,awL]
     refine' tkH 5 rfl ?_;try simp only [Act.put,awL]
     refine' tkH 6 rfl ?_;try simp only [Act.put,awL]
     refine' tkH 7 rfl ?_;try simp only [Act.put,awL]
     refine' tkH 8 rfl ?_;try simp only [Act.put,awL]
     refine' tkH 9 rfl ?_;try simp only [Act.put,awL]
     refine' tkH 10 rfl ?_;try simp only [Act.put,awL]
     refine' tkH 13 rfl ?_;try simp only [Act.put,awL]
     refine' tkH 14 rfl ?_;try simp only [Act.put,awL]
     refine' tkH 15 rfl ?_;try simp only [Act.put,awL]
     refine' tkH 16 rfl ?_;try simp only [Act.put,awL]
     refine' tkH 17 rfl ?_;try simp only [Act.put,awL]
     refine' tkH 19 rfl ?_;try simp only [Act.put,awL]
     refine' tkH 20 rfl ?_;try simp only [Act.put,awL]
     refine' tkH 21 rfl ?_;try simp only [Act.put,awL]
     refine' tkH 22 rfl ?_;try simp only [Act.put,awL]
     refine' tkH 23 rfl ?_;try simp only [Act.put,awL]
     refine wpAnyH_ready (rs:=[11]) (by kernel_rfl) (by simp) ?_
     refine AllReadyH.cons rfl (λ K hK=>?_) AllReadyH.nil
     go_simp
     go_at_call 232
     refine Calls.at_args (SM1 _) (by with_reducible rfl) ?_
     rintro e w5 ⟨rfl,rfl⟩
     refine hK.out _ _ ?_ (λ hHeld=>?_)
     ·exact ⟨c0,c1,c2,c3⟩
     clear hK K
     try simp only [Act.put,awL]
     refine' tkH 12 rfl ?_;try simp only [Act.put,awL]
     refine' tkH 18 rfl ?_;try simp only [Act.put,awL]
     refine wpAnyH_ready (rs:=[24]) (by kernel_rfl) (by simp) ?_
     refine AllReadyH.cons rfl (λ K hK=>?_) AllReadyH.nil
     go_simp
     go_at_call 232
     refine Calls.at_args (SM2 _) (by with_reducible rfl) ?_
     rintro e w5 ⟨rfl,rfl⟩
     refine hK.out _ _ ?_ (λ hHeld=>?_)
     ·exact ⟨c0,c1,c2,c3⟩
     clear hK K
     try simp only [Act.put,awL]
     refine' tkH 25 rfl ?_;try simp only [Act.put,awL]
     refine wpAnyH_ready (rs:=[26]) (by kernel_rfl) (by simp) ?_
     refine AllReadyH.cons rfl (λ K hK=>?_) AllReadyH.nil
     go_simp
     go_at_call 231
     refine Calls.at_args (LW _) (by with_reducible rfl) ?_
     rintro e w5 ⟨rfl,rfl⟩
     refine hK.out _ _ ?_ (λ hHeld=>?_)
     ·exact ⟨c0,c1,c2,c3⟩
     clear hK K
     try simp only [Act.put,awL]
     refine wpAnyH_ready (rs:=[27]) (by kernel_rfl) (by simp) ?_
     refine AllReadyH.cons rfl (λ K hK=>?_) AllReadyH.nil
     go_simp
     refine hK.out _ _ ?_ (λ hHeld=>?_)
     ·exact HS5.out _
     clear hK K
     try simp only [Act.put,awL]
     refine wpAnyH_ready (rs:=[28]) (by kernel_rfl) (by simp) ?_
     refine AllReadyH.cons rfl (λ K hK=>?_) AllReadyH.nil
     refine zhg (by rfl) _ _ _ (by rfl) wo.heap.size 134 jU _ 1 8 Tryz.underlying277 hjU hU0 hU1 hU2 rfl (by decide) _ _ _ (by rfl) (HOD.out _) _ 1 _ (by rfl) (zai _ #[.int .u64 (z:Int)] _ 1 1) rfl (zkk _ rfl) L1.out.1 L1.out.2 (HBX.out _) ?_
     intro v5 W5 ho5 hg5 hk5
     have HN5:=Hd (HST.out _ W5 v5 hg5 ho5)
     have hS6:=HS6.out W5 hk5
     clear ho5 hg5 hk5
     refine hK.out _ _ ?_ (λ hHeld=>?_)
     ·exact hS6
     clear hK K
     try simp only [Act.put,awL]
     refine' tkH 29 rfl ?_;try simp only [Act.put,awL]
     refine wpAnyH_done (by kernel_rfl) ?_ _
     refine NoPanic.normal ?_
     go_wp2_with fail
     go_roundg (48-(j+1))
     case measure=>have:=HJ.out;omega
     case rel=>exact ⟨j+1,t+1,_,rfl,HJ.out,by have:=HT.out;omega,rfl,rfl,HN5⟩
    ·obtain rfl:j=48:=by omega
     have hE32:=zja hb32.out 48
     have hel:(zfg b 48).length=64:=by rw [zey,HBL.out]
     obtain ⟨E,hE⟩:=exE (zfg b 48)
     have HEA:Hid (∀ i,zim b i=E.getD i 0):=Hd λ i=>by rw [<-hE];rfl
     rw [hE] at HX hE32 hel
     obtain ⟨g,cap,rfl,k1,k2,k3⟩:=HX.out.form (by omega)
     have HXR:=Hd HX.out.rd
     rw [hel] at HXR k3 ⊢
     have HBO:=Hd HX.out.2
     have HSR:Hid (zaB wr (.slice (some ⟨g7,0,none⟩) 8 c7) 8 1 (zb8 (zb3 pn0.h ws m))):=Hd ((zaB.own HR.out.sums).below HBO.out)
     have HKR:Hid (zaB wr (.slice (some ⟨bk,ok,none⟩) 64 c2) 64 1 (zb8 kL)):=Hd (HK.out.below (HR.out.bel.trans (HBO.out.mono HR.out.bel.size)))
     have HYS:=Hd HSR.out.yields
     obtain ⟨h32,hl8⟩:=zez (ws:=ws) zgi.h32 (show pn0.h.length=8 from rfl) m
     have H8:=Hd hl8
     have H832:=Hd h32
     obtain ⟨Hm,hHm⟩:=exE (zb3 pn0.h ws m)
     have HHM:=Hd hHm
     rw [hHm] at HSR HYS H8 H832 HR
     have hgge:¬t<64:=by omega
     have HE32:=Hd hE32
     have HEL:=Hd hel
     obtain ⟨w3,rfl⟩:∃ x,x=wr:=⟨_,rfl⟩
     have HX3:=HXR
     have HK3:=HKR
     have HGL:=Hd (show wo.heap.size<=g/\g<w3.heap.size from ⟨k1,k2⟩)
     clear HX hE32 hel hE ht hlt2 hj h32 hl8 hHm
     go_wp2_with (first
      | (refine zeA 277 277 ⟨_,_,by with_reducible rfl⟩ ?_
         refine zag (by rfl) _ _ _ rfl w3.heap.size 134 jU _ 1 8 Tryz.underlying277 hjU hU0 hU1 hU2 rfl (by decide) (.slice none 0 0) 0 [] (by rfl) (World.ownsRow_nil _ _ _ _) _ 8 _ (by rfl) HYS.out ((zhc Hm).trans H8.out) (zkg Hm) (by decide) (by decide) (zNr _) ?_
         intro v12 W3 ho12 hg12 ha12
         have H12:Hid (NmO w3 (zi4 (V8.of Hm) b 0).list v12 W3):=Hd ⟨by rw [show (zi4 (V8.of Hm) b 0).list=Hm from V8.of_list H8.out,H8.out];exact ho12,(zBr _ _).grown hg12 (zNr _) λ j e=>(by cases e)⟩
         clear ho12 hg12 ha12))
     go_loopg [12,13] 64 (λ g s12 s13 W=>∃ (t:Nat) (v:Value),g=64-t/\t<=64/\s13=.int .i64 (t:Int)/\v=s12/\Hid (NmO w3 (zi4 (V8.of Hm) b t).list v W))
     case atStart=>exact ⟨0,_,rfl,zNz _,rfl,rfl,H12⟩
     case round =>
      obtain ⟨t,v,rfl,ht,rfl,rfl,HV⟩:=hrel
      clear H12
      by_cases hlt3:t<64
      ·-- part 18 begins
       have hvok:=zjc (V8.of_ok H832.out) b t
       have HNX:Hid (zi4 (V8.of Hm) b (t+1)=zd3 (zi4 (V8.of Hm) b t) (kN t) (zim b t)):=Hd rfl
       obtain ⟨V,hV⟩:=exE (zi4 (V8.of Hm) b t)
       rw [hV] at HNX HV hvok
       obtain ⟨va,vb,vc,vd,ve,vf,vg,vh⟩:=V
       obtain ⟨ka,kb,kc,kd,ke,kf,kg,kh⟩:=hvok
       simp only at ka kb kc kd ke kf kg kh
       obtain ⟨g12,c12,rfl,k1,k2,k3⟩:=HV.out.form (by simp [V8.list])
       rw [show (V8.list ⟨va,vb,vc,vd,ve,vf,vg,vh⟩).length=8 from rfl] at k3 ⊢
       have cell:∀ i u,(zb8 [va,vb,vc,vd,ve,vf,vg,vh])[i]?=some u->wr.cell? ⟨g12,i,none⟩=some u:=λ i u hu=>by
        have:=HV.out.1.cells rfl i u hu
        rwa [zbk,Nat.zero_add] at this
       have d0:=cell 0 _ rfl
       have d1:=cell 1 _ rfl
       have d2:=cell 2 _ rfl
       have d3:=cell 3 _ rfl
       have d4:=cell 4 _ rfl
       have d5:=cell 5 _ rfl
       have d6:=cell 6 _ rfl
       have d7:=cell 7 _ rfl
       obtain ⟨kt,hkt⟩:=exE (kN t)
       have dk:wr.cell? ⟨bk,ok+t,none⟩=some (.int .u64 (kt:Int)):=by
        obtain ⟨b',o',e',-,hc⟩:=(HK3.out.below HV.out.2).get (zbf (l:=kL) (i:=0) (by decide))
        cases e'
        rw [<-hkt]
        refine hc t _ ?_
        rw [zbf (by rw [show kL.length=64 from by simp [kL]];exact hlt3)]
        unfold List.getD kL
        simp [hlt3]
       obtain ⟨xt,hxt⟩:=exE (E.getD t 0)
       have dw:wr.cell? ⟨g,t,none⟩=some (.int .u64 (xt:Int)):=by
        obtain ⟨b',o',e',-,hc⟩:=(HX3.out.below HV.out.2).get (zbf (l:=E) (i:=0) (by rw [HEL.out];decide))
        cases e'
        rw [<-hxt]
        have:=hc t _ (zbf (by rw [HEL.out];exact hlt3))
        rwa [Nat.zero_add] at this
       have kk:kt<4294967296:=by rw [<-hkt];exact zsD t
       have kx:xt<4294967296:=by rw [<-hxt];exact HE32.out.get t
       rw [HEA.out,hxt,hkt] at HNX
       have b1:=bits_and_u64_nat ve vf (by omega) (by omega)
       have a1:ve &&& vf<4294967296:=Nat.lt_of_le_of_lt Nat.and_le_left ke
       have b2:=bits_and_u64_nat (4294967295-ve) vg (by omega) (by omega)
       have a2:(4294967295-ve) &&& vg<4294967296:=Nat.lt_of_le_of_lt Nat.and_le_right kg
       have b3:=bits_and_u64_nat va vb (by omega) (by omega)
       have a3:va &&& vb<4294967296:=Nat.lt_of_le_of_lt Nat.and_le_left ka
       have b4:=bits_and_u64_nat va vc (by omega) (by omega)
       have a4:va &&& vc<4294967296:=Nat.lt_of_le_of_lt Nat.and_le_left ka
       have b5:=bits_or_u64_nat (va &&& vb) (va &&& vc) (by omega) (by omega)
       have a5:(va &&& vb) ||| (va &&& vc)<4294967296:=Nat.or_lt_two_pow (n:=32) a3 a4
       have b6:=bits_and_u64_nat vb vc (by omega) (by omega)
       have a6:vb &&& vc<4294967296:=Nat.lt_of_le_of_lt Nat.and_le_left kb
       have b7:=bits_or_u64_nat ((va &&& vb) ||| (va &&& vc)) (vb &&& vc) (by omega) (by omega)
       have a7:((va &&& vb) ||| (va &&& vc)) ||| (vb &&& vc)<4294967296:=Nat.or_lt_two_pow (n:=32) a5 a6
       have GR1:∀ Y,Calls Tryz.prog 233 #[.int .u64 (ve:Int),.int .u64 6,.int .u64 11,.int .u64 25] Y λ e w'=>e=.returned (.int .u64 ((zbL ve 6 11 25:Nat):Int))/\Y=w':=λ Y=>zm0 ve 6 11 25 Y ke (by decide) (by decide) (by decide)
       have GR2:∀ Y,Calls Tryz.prog 233 #[.int .u64 (va:Int),.int .u64 2,.int .u64 13,.int .u64 22] Y λ e w'=>e=.returned (.int .u64 ((zbL va 2 13 22:Nat):Int))/\Y=w':=λ Y=>zm0 va 2 13 22 Y ka (by decide) (by decide) (by decide)
       have a8:=zjH ve 6 11 25 (by decide) (by decide) (by decide) ke
       have a9:=zjH va 2 13 22 (by decide) (by decide) (by decide) ka
       have HONE:Hid (zic ⟨va,vb,vc,vd,ve,vf,vg,vh⟩ kt xt=vh+zbL ve 6 11 25+((ve &&& vf)+((4294967295-ve) &&& vg))+kt+xt):=Hd rfl
       have HTWO:Hid (zkd ⟨va,vb,vc,vd,ve,vf,vg,vh⟩=zbL va 2 13 22+(((va &&& vb) ||| (va &&& vc)) ||| (vb &&& vc))):=Hd rfl
       obtain ⟨ne,hne⟩:=exE (4294967295-ve)
       rw [hne] at b2 a2 HONE
       generalize zbL ve 6 11 25=s1 at *
       generalize zbL va 2 13 22=s2 at *
       generalize ve &&& vf=n1 at *
       generalize ne &&& vg=n2 at *
       generalize ((va &&& vb) ||| (va &&& vc)) ||| (vb &&& vc)=m5 at *
       generalize (va &&& vb) ||| (va &&& vc)=m3 at *
       generalize va &&& vb=m1 at *
       generalize va &&& vc=m2 at *
       generalize vb &&& vc=m4 at *
       obtain ⟨ch,hch⟩:=exE (n1+n2)
       obtain ⟨p1,hp1⟩:=exE (vh+s1)
       obtain ⟨p2,hp2⟩:=exE (p1+ch)
       obtain ⟨p3,hp3⟩:=exE (p2+kt)
       obtain ⟨one,hone⟩:=exE (p3+xt)
       obtain ⟨two,htwo⟩:=exE (s2+m5)
       obtain ⟨ot,hot⟩:=exE (one+two)
       obtain ⟨dn,hdn⟩:=exE (vd+one)
       have LW1:∀ Y,Calls Tryz.prog 231 #[.int .u64 (ot:Int)] Y λ e w'=>e=.returned (.int .u64 ((ot%4294967296:Nat):Int))/\Y=w':=λ Y=>zk5 ot Y
       have LW2:∀ Y,Calls Tryz.prog 231 #[.int .u64 (dn:Int)] Y λ e w'=>e=.returned (.int .u64 ((dn%4294967296:Nat):Int))/\Y=w':=λ Y=>zk5 dn Y
       have HLIST:Hid ((zi4 (V8.of Hm) b (t+1)).list=[ot%4294967296,va,vb,vc,dn%4294967296,ve,vf,vg]):=Hd (by
        rw [HNX.out]
        unfold zd3
        rw [HONE.out,HTWO.out,hch,hp1,hp2,hp3,hone,htwo,hot]
        simp only [V8.list,hdn])
       have hq:Hid (((IntKind.u64.wrap (4294967295-(ve:Int))=(ne:Int)/\IntKind.u64.wrap ((n1:Int)+(n2:Int))=(ch:Int))/\(IntKind.u64.wrap ((vh:Int)+(s1:Int))=(p1:Int)/\IntKind.u64.wrap ((p1:Int)+(ch:Int))=(p2:Int)/\IntKind.u64.wrap ((p2:Int)+(kt:Int))=(p3:Int)/\IntKind.u64.wrap ((p3:Int)+(xt:Int))=(one:Int)))/\IntKind.u64.wrap ((s2:Int)+(m5:Int))=(two:Int)/\IntKind.u64.wrap ((one:Int)+(two:Int))=(ot:Int)/\IntKind.u64.wrap ((vd:Int)+(one:Int))=(dn:Int)):=Hd (by
        have w0:∀ (a:Int) (n:Nat),a=(n:Int)->n<18446744073709551616->IntKind.u64.wrap a=(n:Int):=λ a n h1 h2=>by rw [h1];exact zcs h2
        refine ⟨⟨⟨w0 _ _ (by omega) (by omega),w0 _ _ (by omega) (by omega)⟩,w0 _ _ (by omega) (by omega),w0 _ _ (by omega) (by omega),w0 _ _ (by omega) (by omega),w0 _ _ (by omega) (by omega)⟩,w0 _ _ (by omega) (by omega),w0 _ _ (by omega) (by omega),w0 _ _ (by omega) (by omega)⟩)
       generalize ot%4294967296=z1 at *
       generalize dn%4294967296=z2 at *
       have HSA:Hid (∀ (Y:World) (o1:Obj),wr.heap=Y.heap->(Y.alloc o1).cell? ⟨g12,0,none⟩=some (.int .u64 (va:Int))/\(Y.alloc o1).cell? ⟨g12,1,none⟩=some (.int .u64 (vb:Int))/\(Y.alloc o1).cell? ⟨g12,2,none⟩=some (.int .u64 (vc:Int))/\(Y.alloc o1).cell? ⟨g12,3,none⟩=some (.int .u64 (vd:Int))/\(Y.alloc o1).cell? ⟨g12,4,none⟩=some (.int .u64 (ve:Int))/\(Y.alloc o1).cell? ⟨g12,5,none⟩=some (.int .u64 (vf:Int))/\(Y.alloc o1).cell? ⟨g12,6,none⟩=some (.int .u64 (vg:Int))/\(Y.alloc o1).cell? ⟨g12,7,none⟩=some (.int .u64 (vh:Int))/\(Y.alloc o1).cell? ⟨bk,ok+t,none⟩=some (.int .u64 (kt:Int))/\(Y.alloc o1).cell? ⟨g,t,none⟩=some (.int .u64 (xt:Int))):=Hd λ Y o1 hY=>by
        have key:∀ (p:Addr) u,wr.cell? p=some u->(Y.alloc o1).cell? p=some u:=λ p u hp=>by
         have hl:p.block<Y.heap.size:=by rw [<-hY];exact World.block_lt_of_cell? wr _ hp
         rw [World.cell?_alloc_lt _ _ _ hl,<-hp]
         simp only [World.cell?,hY]
        exact ⟨key _ _ d0,key _ _ d1,key _ _ d2,key _ _ d3,key _ _ d4,key _ _ d5,key _ _ d6,key _ _ d7,key _ _ dk,key _ _ dw⟩
       have HSTEP:Hid (∀ Y:World,Below wr.heap.size wr Y->NmO w3 (zi4 (V8.of Hm) b (t+1)).list (.slice (some ⟨Y.heap.size,0,none⟩) 8 8) (Y.alloc (.cells #[.int .u64 (z1:Int),.int .u64 (va:Int),.int .u64 (vb:Int),.int .u64 (vc:Int),.int .u64 (z2:Int),.int .u64 (ve:Int),.int .u64 (vf:Int),.int .u64 (vg:Int)] 134))):=Hd λ Y hY=>by
        have hb:=HV.out.2.trans (hY.mono HV.out.2.size)
        rw [HLIST.out]
        exact ⟨World.ownsRow_lit (base:=w3.heap.size) (e:=134) (size:=1) Y #[.int .u64 (z1:Int),.int .u64 (va:Int),.int .u64 (vb:Int),.int .u64 (vc:Int),.int .u64 (z2:Int),.int .u64 (ve:Int),.int .u64 (vf:Int),.int .u64 (vg:Int)] 8 hb.size (by decide) rfl,hb.alloc hb.size _⟩
       have HT3:=Hd hlt3
       obtain ⟨⟨⟨q1,q2⟩,q3,q4,q5,q6⟩,q7,q8,q9⟩:=hq.out
       clear HV cell hkt hxt kk kx a1 a2 a3 a4 a5 a6 a7 a8 a9 HONE HTWO HNX HLIST hne hch hp1 hp2 hp3 hone htwo hot hdn hq ka kb kc kd ke kf kg kh ht k1 k2 k3 hV
       go_wp2_with fail
       refine wp_region_noPanic ?_
       refine wp_region_held_drew (S:=(λ (w':World)=>w'.cell? ⟨g12,0,none⟩=some (.int .u64 (va:Int))/\w'.cell? ⟨g12,1,none⟩=some (.int .u64 (vb:Int))/\w'.cell? ⟨g12,2,none⟩=some (.int .u64 (vc:Int))/\w'.cell? ⟨g12,3,none⟩=some (.int .u64 (vd:Int))/\w'.cell? ⟨g12,4,none⟩=some (.int .u64 (ve:Int))/\w'.cell? ⟨g12,5,none⟩=some (.int .u64 (vf:Int))/\w'.cell? ⟨g12,6,none⟩=some (.int .u64 (vg:Int))/\w'.cell? ⟨g12,7,none⟩=some (.int .u64 (vh:Int))/\w'.cell? ⟨bk,ok+t,none⟩=some (.int .u64 (kt:Int))/\w'.cell? ⟨g,t,none⟩=some (.int .u64 (xt:Int)))) (by kernel_rfl) ?_ (λ hHeld=>?_)
       ·exact ⟨d0,d1,d2,d3,d4,d5,d6,d7,dk,dw⟩
       refine' tkH 0 rfl ?_
       try simp only [Act.put,List.setIfInBounds_toArray,List.set_cons_zero,List.set_cons_succ,List.getElem_toArray,List.getElem_cons_zero]
       refine' tkH 1 rfl ?_;try simp only [Act.put,awL]
       refine' tkH 2 rfl ?_;try simp only [Act.put,awL]
       refine' tkH 3 rfl ?_;try simp only [Act.put,awL]
       refine' tkH 4 rfl ?_;try simp only [Act.put,awL]
       refine' tkH 5 rfl ?_;try simp only [Act.put,awL]
       refine' tkH 6 rfl ?_;try simp only [Act.put,awL]
       refine' tkH 7 rfl ?_;try simp only [Act.put,awL]
       refine' tkH 8 rfl ?_;try simp only [Act.put,awL]
       refine' tkH 9 rfl ?_;try simp only [Act.put,awL]
       refine' tkH 10 rfl ?_;try simp only [Act.put,awL]
       refine' tkH 11 rfl ?_;try simp only [Act.put,awL]
       refine' tkH 12 rfl ?_;try simp only [Act.put,awL]
       refine' tkH 13 rfl ?_;try simp only [Act.put,awL]
       refine' tkH 14 rfl ?_;try simp only [Act.put,awL]
       refine' tkH 15 rfl ?_;try simp only [Act.put,awL]
       refine' tkH 16 rfl ?_;try simp only [Act.put,awL]
       refine wpAnyH_done (by kernel_rfl) ?_ _
       refine NoPanic.normal ?_
       go_wp2_with fail
       refine wp_region_noPanic ?_
       refine wp_region_held_drew (S:=(λ (w':World)=>w'.cell? ⟨g12,0,none⟩=some (.int .u64 (va:Int))/\w'.cell? ⟨g12,1,none⟩=some (.int .u64 (vb:Int))/\w'.cell? ⟨g12,2,none⟩=some (.int .u64 (vc:Int))/\w'.cell? ⟨g12,3,none⟩=some (.int .u64 (vd:Int))/\w'.cell? ⟨g12,4,none⟩=some (.int .u64 (ve:Int))/\w'.cell? ⟨g12,5,none⟩=some (.int .u64 (vf:Int))/\w'.cell? ⟨g12,6,none⟩=some (.int .u64 (vg:Int))/\w'.cell? ⟨g12,7,none⟩=some (.int .u64 (vh:Int))/\w'.cell? ⟨bk,ok+t,none⟩=some (.int .u64 (kt:Int))/\w'.cell? ⟨g,t,none⟩=some (.int .u64 (xt:Int)))) (by kernel_rfl) ?_ (λ hHeld=>?_)
       ·exact ⟨d0,d1,d2,d3,d4,d5,d6,d7,dk,dw⟩
       refine' tkH 0 rfl ?_
       try simp only [Act.put,List.setIfInBounds_toArray,List.set_cons_zero,List.set_cons_succ,List.getElem_toArray,List.getElem_cons_zero]
       refine' tkH 1 rfl ?_;try simp only [Act.put,awL]
       refine' tkH 2 rfl ?_;try simp only [Act.put,awL]
       refine' tkH 3 rfl ?_;try simp only [Act.put,awL]
       refine' tkH 4 rfl ?_;try simp only [Act.put,awL]
       refine' tkH 5 rfl ?_;try simp only [Act.put,awL]
       refine' tkH 6 rfl ?_;try simp only [Act.put,awL]
       refine' tkH 7 rfl ?_;try simp only [Act.put,awL]
       refine' tkH 8 rfl ?_;try simp only [Act.put,awL]
       refine' tkH 9 rfl ?_;try simp only [Act.put,awL]
       refine' tkH 10 rfl ?_;try simp only [Act.put,awL]
       refine' tkH 11 rfl ?_;try simp only [Act.put,awL]
       refine' tkH 12 rfl ?_;try simp only [Act.put,awL]
       refine' tkH 13 rfl ?_;try simp only [Act.put,awL]
       refine' tkH 14 rfl ?_;try simp only [Act.put,awL]
       refine' tkH 15 rfl ?_;try simp only [Act.put,awL]
       refine' tkH 16 rfl ?_;try simp only [Act.put,awL]
       refine' tkH 17 rfl ?_;try simp only [Act.put,awL]
       refine' tkH 18 rfl ?_;try simp only [Act.put,awL]
       refine' tkH 19 rfl ?_;try simp only [Act.put,awL]
       refine' tkH 20 rfl ?_;try simp only [Act.put,awL]
       refine' tkH 21 rfl ?_;try simp only [Act.put,awL]
       refine' tkH 22 rfl ?_;try simp only [Act.put,awL]
       refine' tkH 23 rfl ?_;try simp only [Act.put,awL]
       refine wpAnyH_done (by kernel_rfl) ?_ _
       refine NoPanic.normal ?_
       go_wp2_with fail
       refine wp_region_noPanic ?_
       refine wp_region_held_drew (S:=(λ (w':World)=>w'.cell? ⟨g12,0,none⟩=some (.int .u64 (va:Int))/\w'.cell? ⟨g12,1,none⟩=some (.int .u64 (vb:Int))/\w'.cell? ⟨g12,2,none⟩=some (.int .u64 (vc:Int))/\w'.cell? ⟨g12,3,none⟩=some (.int .u64 (vd:Int))/\w'.cell? ⟨g12,4,none⟩=some (.int .u64 (ve:Int))/\w'.cell? ⟨g12,5,none⟩=some (.int .u64 (vf:Int))/\w'.cell? ⟨g12,6,none⟩=some (.int .u64 (vg:Int))/\w'.cell? ⟨g12,7,none⟩=some (.int .u64 (vh:Int))/\w'.cell? ⟨bk,ok+t,none⟩=some (.int .u64 (kt:Int))/\w'.cell? ⟨g,t,none⟩=some (.int .u64 (xt:Int)))) (by kernel_rfl) ?_ (λ hHeld=>?_)
       ·exact ⟨d0,d1,d2,d3,d4,d5,d6,d7,dk,dw⟩
       refine' tkH 0 rfl ?_
       try simp only [Act.put,List.setIfInBounds_toArray,List.set_cons_zero,List.set_cons_succ,List.getElem_toArray,List.getElem_cons_zero]
       refine' tkH 1 rfl ?_;try simp only [Act.put,awL]
       refine' tkH 2 rfl ?_;try simp only [Act.put,awL]
       refine' tkH 3 rfl ?_;try simp only [Act.put,awL]
       refine' tkH 4 rfl ?_;try simp only [Act.put,awL]
       refine' tkH 5 rfl ?_;try simp only [Act.put,awL]
       refine' tkH 8 rfl ?_;try simp only [Act.put,awL]
       refine' tkH 10 rfl ?_;try simp only [Act.put,awL]
       refine' tkH 11 rfl ?_;try simp only [Act.put,awL]
       refine' tkH 12 rfl ?_;try simp only [Act.put,awL]
       refine' tkH 13 rfl ?_;try simp only [Act.put,awL]
       refine' tkH 15 rfl ?_;try simp only [Act.put,awL]
       refine' tkH 16 rfl ?_;try simp only [Act.put,awL]
       refine' tkH 17 rfl ?_;try simp only [Act.put,awL]
       refine' tkH 18 rfl ?_;try simp only [Act.put,awL]
       refine wpAnyH_ready (rs:=[6]) (by kernel_rfl) (by simp) ?_
       refine AllReadyH.cons rfl (λ K hK=>?_) AllReadyH.nil
       go_simp
       go_at_call 233
       refine Calls.at_args (GR1 _) (by with_reducible rfl) ?_
       rintro e w5 ⟨rfl,rfl⟩
       refine hK.out _ _ ?_ (λ hHeld=>?_)
       ·exact ⟨d0,d1,d2,d3,d4,d5,d6,d7,dk,dw⟩
       clear hK K
       try simp only [Act.put,awL]
       refine' tkH 7 rfl ?_;try simp only [Act.put,awL]
       refine' tkH 9 rfl ?_;try simp only [Act.put,awL]
       refine' tkH 14 rfl ?_;try simp only [Act.put,awL]
       refine' tkH 19 rfl ?_;try simp only [Act.put,awL]
       refine' tkH 20 rfl ?_;try simp only [Act.put,awL]
       refine wpAnyH_done (by kernel_rfl) ?_ _
       refine NoPanic.normal ?_
       go_wp2_with fail
       refine (GR2 _).mono ?_
       rintro e w5 ⟨rfl,rfl⟩
       go_wp2_with fail
       refine wp_region_noPanic ?_
       refine wp_region_held_drew (S:=(λ (w':World)=>w'.cell? ⟨g12,0,none⟩=some (.int .u64 (va:Int))/\w'.cell? ⟨g12,1,none⟩=some (.int .u64 (vb:Int))/\w'.cell? ⟨g12,2,none⟩=some (.int .u64 (vc:Int))/\w'.cell? ⟨g12,3,none⟩=some (.int .u64 (vd:Int))/\w'.cell? ⟨g12,4,none⟩=some (.int .u64 (ve:Int))/\w'.cell? ⟨g12,5,none⟩=some (.int .u64 (vf:Int))/\w'.cell? ⟨g12,6,none⟩=some (.int .u64 (vg:Int))/\w'.cell? ⟨g12,7,none⟩=some (.int .u64 (vh:Int))/\w'.cell? ⟨bk,ok+t,none⟩=some (.int .u64 (kt:Int))/\w'.cell? ⟨g,t,none⟩=some (.int .u64 (xt:Int)))) (by kernel_rfl) ?_ (λ hHeld=>?_)
       ·exact ⟨d0,d1,d2,d3,d4,d5,d6,d7,dk,dw⟩
       refine' tkH 0 rfl ?_
       try simp only [Act.put,List.setIfInBounds_toArray,List.set_cons_zero,List.set_cons_succ,List.getElem_toArray,List.getElem_cons_zero]
       refine' tkH 1 rfl ?_;try simp only [Act.put,awL]
       refine' tkH 2 rfl ?_;try simp only [Act.put,awL]
       refine' tkH 4 rfl ?_;try simp only [Act.put,awL]
       refine' tkH 5 rfl ?_;try simp only [Act.put,awL]
       refine' tkH 6 rfl ?_;try simp only [Act.put,awL]
       refine' tkH 7 rfl ?_;try simp only [Act.put,awL]
       refine' tkH 8 rfl ?_;try simp only [Act.put,awL]
       refine' tkH 9 rfl ?_;try simp only [Act.put,awL]
       refine' tkH 10 rfl ?_;try simp only [Act.put,awL]
       refine' tkH 11 rfl ?_;try simp only [Act.put,awL]
       refine' tkH 12 rfl ?_;try simp only [Act.put,awL]
       refine' tkH 13 rfl ?_;try simp only [Act.put,awL]
       refine' tkH 14 rfl ?_;try simp only [Act.put,awL]
       refine' tkH 15 rfl ?_;try simp only [Act.put,awL]
       refine' tkH 16 rfl ?_;try simp only [Act.put,awL]
       refine' tkH 17 rfl ?_;try simp only [Act.put,awL]
       refine' tkH 19 rfl ?_;try simp only [Act.put,awL]
       refine' tkH 20 rfl ?_;try simp only [Act.put,awL]
       refine' tkH 21 rfl ?_;try simp only [Act.put,awL]
       refine' tkH 22 rfl ?_;try simp only [Act.put,awL]
       refine' tkH 23 rfl ?_;try simp only [Act.put,awL]
       refine' tkH 24 rfl ?_;try simp only [Act.put,awL]
       refine' tkH 25 rfl ?_;try simp only [Act.put,awL]
       refine' tkH 26 rfl ?_;try simp only [Act.put,awL]
       refine' tkH 27 rfl ?_;try simp only [Act.put,awL]
       refine wpAnyH_ready (rs:=[3]) (by kernel_rfl) (by simp) ?_
       refine AllReadyH.cons rfl (λ K hK=>?_) AllReadyH.nil
       go_simp
       go_at_call 231
       refine Calls.at_args (LW1 _) (by with_reducible rfl) ?_
       rintro e w5 ⟨rfl,rfl⟩
       refine hK.out _ _ ?_ (λ hHeld=>?_)
       ·exact ⟨d0,d1,d2,d3,d4,d5,d6,d7,dk,dw⟩
       clear hK K
       try simp only [Act.put,awL]
       refine wpAnyH_ready (rs:=[18]) (by kernel_rfl) (by simp) ?_
       refine AllReadyH.cons rfl (λ K hK=>?_) AllReadyH.nil
       go_simp
       go_at_call 231
       refine Calls.at_args (LW2 _) (by with_reducible rfl) ?_
       rintro e w5 ⟨rfl,rfl⟩
       refine hK.out _ _ ?_ (λ hHeld=>?_)
       ·exact ⟨d0,d1,d2,d3,d4,d5,d6,d7,dk,dw⟩
       clear hK K
       try simp only [Act.put,awL]
       refine wpAnyH_ready (rs:=[28]) (by kernel_rfl) (by simp) ?_
       refine AllReadyH.cons rfl (λ K hK=>?_) AllReadyH.nil
       go_simp
       refine hK.out _ _ ?_ (λ hHeld=>?_)
       ·exact HSA.out wr _ rfl
       clear hK K
       try simp only [Act.put,awL]
       refine' tkH 29 rfl ?_;try simp only [Act.put,awL]
       refine wpAnyH_done (by kernel_rfl) ?_ _
       refine NoPanic.normal ?_
       go_wp2_with fail
       go_roundg (64-(t+1))
       case measure=>have:=HT3.out;omega
       case rel=>exact ⟨t+1,_,rfl,HT3.out,by congr 1,rfl,Hd (HSTEP.out _ (by first|exact (zBr _ _).drew.drew.drew.drew|exact (zBr _ _).drew.drew.drew))⟩
      ·obtain rfl:t=64:=by omega
       obtain ⟨L,hL⟩:=exE ((zi4 (V8.of Hm) b 64).list)
       have hL8:L.length=8:=by rw [<-hL,V8.list_len]
       have HL32:Hid (∀ i,L.getD i 0<4294967296):=Hd λ i=>by
        rw [<-hL]
        exact (V8.list_32 (zjc (V8.of_ok H832.out) b 64)).get i
       have HBK:Hid (zco Hm L 8=zb3 pn0.h ws (m+1)):=Hd (by
        rw [zjb,HHM.out,<-HAT.out,HB.out,zm5,hL])
       rw [hL] at HV
       obtain ⟨g12,c12,rfl,k1,k2,k3⟩:=HV.out.form (by omega)
       have hv8:zaB wr (.slice (some ⟨g12,0,none⟩) 8 c12) 8 1 (zb8 L):=by have:=HV.out.rd;rwa [hL8] at this
       rw [hL8] at k3 ⊢
       have R4:Hid (ByA w g7 c7 g8 c8 g12 c12 ws (zco Hm L 0) L wr):=Hd (by
        have hB1:Below wo.heap.size wo wr:=HBO.out.trans (HV.out.2.mono HBO.out.size)
        have h7:=HR.out.sums.lt g7 rfl
        refine ⟨za0 HR.out.sums λ j e=>by cases e;exact hB1.block g7 h7.2,HR.out.all.below hB1,hv8,HR.out.ne,?_,HR.out.bel.trans (hB1.mono HR.out.bel.size)⟩
        have:=HBO.out.size
        omega)
       have HH8:=H8
       clear HV hv8 hL hL8 HR HSR HYS HKR HXR HX3 HK3 HEL HE32 HEA HGL HBO ht k1 k2 k3 hlt3
       go_wp2_with fail
       go_loopg [18] 8 (λ g s18 W=>∃ (i:Nat),g=8-i/\i<=8/\s18=.int .i64 (i:Int)/\Hid (ByA w g7 c7 g8 c8 g12 c12 ws (zco Hm L i) L W))
       case atStart=>exact ⟨0,rfl,zNz _,rfl,R4⟩
       case round =>
        obtain ⟨i,rfl,hi,rfl,HA⟩:=hrel
        clear R4
        by_cases hlt4:i<8
        ·-- part 26 begins
         have hln:(zco Hm L i).length=8:=by rw [zdq];exact HH8.out
         obtain ⟨x,hx⟩:=exE (Hm.getD i 0)
         obtain ⟨y,hy⟩:=exE (L.getD i 0)
         have cx:wr.cell? ⟨g7,i,none⟩=some (.int .u64 (x:Int)):=by
          have:=HA.out.sums.cells rfl i _ (zbf (by omega))
          rw [zfI Hm L i i (zNr _),hx] at this
          rwa [zbk,Nat.zero_add] at this
         have dy:wr.cell? ⟨g12,i,none⟩=some (.int .u64 (y:Int)):=by
          have hl8:L.length=8:=by
           have:=HA.out.vv
           obtain ⟨_,_,e,hh,-⟩:=this
           rw [zhc] at hh;omega
          obtain ⟨b',o',e',-,hc⟩:=HA.out.vv.get (zbf (l:=L) (i:=0) (by omega))
          cases e'
          have:=hc i _ (zbf (by omega))
          rwa [Nat.zero_add,hy] at this
         have kx:x<4294967296:=by rw [<-hx];exact H832.out.get i
         have ky:y<4294967296:=by rw [<-hy];exact HL32.out i
         have fz:wr.frozen? ⟨g7,i,none⟩=false:=by
          rcases HA.out.sums.2 with ⟨h0,-⟩|⟨g',cap',cur,e',a1,a2,-⟩
          ·cases h0
          ·cases e';exact zad a2 i
         have q1:IntKind.u64.wrap ((x:Int)+(y:Int))=(x:Int)+(y:Int):=zbJ _ (by omega) (by omega)
         have LW:∀ Y,Calls Tryz.prog 231 #[.int .u64 ((x:Int)+(y:Int))] Y λ e w'=>e=.returned (.int .u64 (((x+y)%4294967296:Nat):Int))/\Y=w':=λ Y=>zk5 (x+y) Y
         have HN:Hid (ByA w g7 c7 g8 c8 g12 c12 ws (zco Hm L (i+1)) L (wr.setCell ⟨g7,i,none⟩ (.int .u64 (((x+y)%4294967296:Nat):Int)))):=Hd (by
          have:=HA.out.set hlt4 ((x+y)%4294967296)
          rw [show zco Hm L (i+1)=(zco Hm L i).set i ((x+y)%4294967296) by rw [<-hx,<-hy];rfl]
          exact this)
         have HS4:Hid ((wr.setCell ⟨g7,i,none⟩ (.int .u64 (((x+y)%4294967296:Nat):Int))).cell? ⟨g12,i,none⟩=some (.int .u64 (y:Int))):=Hd (by
          rw [<-dy]
          simp only [World.cell?,zae _ HA.out.nv.symm])
         have HT4:=Hd hlt4
         generalize (x+y)%4294967296=z at *
         clear HA hln hx hy kx ky hi
         go_wp2_with fail
         refine wp_region_noPanic ?_
         refine wp_region_held_drew (S:=(λ (w':World)=>w'.cell? ⟨g12,i,none⟩=some (.int .u64 (y:Int)))) (by kernel_rfl) ?_ (λ hHeld=>?_)
         ·exact dy
         refine' tkH 0 rfl ?_
         try simp only [Act.put,List.setIfInBounds_toArray,List.set_cons_zero,List.set_cons_succ,List.getElem_toArray,List.getElem_cons_zero]
         refine' tkH 1 rfl ?_;try simp only [Act.put,awL]
         refine' tkH 2 rfl ?_;try simp only [Act.put,awL]
         refine' tkH 3 rfl ?_;try simp only [Act.put,awL]
         refine' tkH 4 rfl ?_;try simp only [Act.put,awL]
         refine' tkH 6 rfl ?_;try simp only [Act.put,awL]
         refine' tkH 7 rfl ?_;try simp only [Act.put,awL]
         refine' tkH 8 rfl ?_;try simp only [Act.put,awL]
         refine' tkH 9 rfl ?_;try simp only [Act.put,awL]
         refine wpAnyH_ready (rs:=[5]) (by kernel_rfl) (by simp) ?_
         refine AllReadyH.cons rfl (λ K hK=>?_) AllReadyH.nil
         go_simp
         refine hK.out _ _ ?_ (λ hHeld=>?_)
         ·exact dy
         clear hK K
         try simp only [Act.put,awL]
         refine' tkH 10 rfl ?_;try simp only [Act.put,awL]
         refine wpAnyH_ready (rs:=[11]) (by kernel_rfl) (by simp) ?_
         refine AllReadyH.cons rfl (λ K hK=>?_) AllReadyH.nil
         go_simp
         go_at_call 231
         refine Calls.at_args (LW _) (by with_reducible rfl) ?_
         rintro e w5 ⟨rfl,rfl⟩
         refine hK.out _ _ ?_ (λ hHeld=>?_)
         ·exact dy
         clear hK K
         try simp only [Act.put,awL]
         refine' tkH 12 rfl ?_;try simp only [Act.put,awL]
         refine wpAnyH_ready (rs:=[13]) (by kernel_rfl) (by simp) ?_
         refine AllReadyH.cons rfl (λ K hK=>?_) AllReadyH.nil
         go_simp
         refine hK.out _ _ ?_ (λ hHeld=>?_)
         ·exact HS4.out
         clear hK K
         try simp only [Act.put,awL]
         refine wpAnyH_done (by kernel_rfl) ?_ _
         refine NoPanic.normal ?_
         go_wp2_with fail
         go_roundg (8-(i+1))
         case measure=>have:=HT4.out;omega
         case rel=>exact ⟨i+1,rfl,HT4.out,by congr 1,Hd HN.out.drew⟩
        ·obtain rfl:i=8:=by omega
         have HO8:Hid (ByO w g7 c7 g8 c8 ws (zb3 pn0.h ws (m+1)) wr):=Hd (by
          rw [<-HBK.out]
          exact ⟨HA.out.sums,HA.out.all,HA.out.ne,HA.out.bel⟩)
         clear HA HBK hi hlt4
         go_wp2_with fail
         go_roundg (M-(m+1))
         case measure=>have:=HLT.out;omega
         case rel=>exact ⟨m+1,at_+16,rfl,HLT.out,by have:=HAT.out;omega,rfl,HO8⟩
  ·obtain rfl:m=M:=by omega
   have hge5:¬at_<ws.length:=by have:=HM1.out;omega
   have HFS:Hid (wo.ownsRow w.heap.size 134 1 (.slice (some ⟨g7,0,none⟩) 8 c7) 8 (zb8 (zb3 pn0.h ws m))/\Below w.heap.size w wo):=Hd ⟨HR.out.sums,HR.out.bel⟩
   have HPF:Hid (∀ o:ByteArray,o.data.toList=(zhJ (zb3 pn0.h ws m)).take (4*8)->o=prB s):=Hd λ o ho=>by
    rw [HPR.out,show ws.length / 16=m by have:=HM1.out;omega]
    apply ByteArray.ext
    rw [List.take_of_length_le (by rw [zct];decide)] at ho
    rw [<-ho]
   obtain ⟨h32,hl8⟩:=zez (ws:=ws) zgi.h32 (show pn0.h.length=8 from rfl) m
   have H8:=Hd hl8
   have H832:=Hd h32
   obtain ⟨Hm,hHm⟩:=exE (zb3 pn0.h ws m)
   rw [hHm] at HFS HPF H8 H832
   have R5:Hid (ByF w g7 c7 Hm (4*0) ⟨#[]⟩ wo):=Hd ⟨rfl,HFS.out.1,HFS.out.2⟩
   clear HR HFS HPR HM1 HK HMS h32 hl8 hHm hm hlt hat HC8
   go_wp2_with fail
   go_loopg [19,20] 8 (λ g s19 s20 W=>∃ (i:Nat) (o:ByteArray),g=8-i/\i<=8/\s20=.int .i64 (i:Int)/\s19=.string o/\Hid (ByF w g7 c7 Hm (4*i) o W))
   case atStart=>exact ⟨0,_,rfl,zNz _,rfl,rfl,R5⟩
   case round =>
    obtain ⟨i,o,rfl,hi,rfl,rfl,HF⟩:=hrel
    clear R5
    by_cases hlt5:i<8
    ·have HI:=Hd hlt5
     have R6:Hid (ByF w g7 c7 Hm (4*i+0) o wr):=HF
     clear HF hi
     go_wp2_with fail
     go_loopg [19,21] 4 (λ g s19 s21 W=>∃ (q:Nat) (o:ByteArray),g=4-q/\q<=4/\s21=.int .i64 (24-8*(q:Int))/\s19=.string o/\Hid (ByF w g7 c7 Hm (4*i+q) o W))
     case atStart=>exact ⟨0,_,rfl,zNz _,rfl,rfl,R6⟩
     case round =>
      obtain ⟨q,o,rfl,hq,rfl,rfl,HF⟩:=hrel
      clear R6
      by_cases hlt6:q<4
      ·have hol:o.size=4*i+q:=by
        rw [Lib.size_eq,HF.out.1,List.length_take,zct];have:=HI.out;omega
       obtain ⟨x,hx⟩:=exE (Hm.getD i 0)
       have cx:wr.cell? ⟨g7,i,none⟩=some (.int .u64 (x:Int)):=by
        have:=HF.out.2.1.cells rfl i _ (zbf (by rw [H8.out];exact HI.out))
        rw [hx] at this
        rwa [zbk,Nat.zero_add] at this
       have kx:x<4294967296:=by rw [<-hx];exact H832.out.get i
       obtain ⟨k,hk⟩:=exE (x / 2 ^ (24-8*q)%256)
       have hk2:k<256:=by rw [<-hk];exact Nat.mod_lt _ (by decide)
       have cv:=zjX k hk2 (wr.alloc (.cells #[.int .u8 (k:Int)] 5)) wr.heap.size (zaa (heap_alloc_new _ _) rfl)
       obtain ⟨X,hX⟩:∃ X:ByteArray,(⟨#[UInt8.ofNat k]⟩:ByteArray)=X:=⟨_,rfl⟩
       have hxs:X.size=1:=by rw [<-hX];rfl
       have hb1:(o.size+X.size > 9223372036854775807)=False:=by have:=HI.out;simp;omega
       have hb2:¬(9223372036854775807<o.size+X.size):=by have:=HI.out;omega
       have HN:Hid (∀ W,Below wr.heap.size wr W->ByF w g7 c7 Hm (4*i+(q+1)) (o++X) W):=Hd λ W hW=>by
        refine ⟨?_,za0 HF.out.2.1 λ j e=>by cases e;exact hW.block g7 (HF.out.2.1.lt g7 rfl).2,HF.out.2.2.trans (hW.mono HF.out.2.2.size)⟩
        rw [<-Nat.add_assoc,zhL _ _ (by have:=HI.out;omega),show (4*i+q) / 4=i by omega,show (4*i+q)%4=q by omega,hx,show 24-q*8=24-8*q by omega,<-HF.out.1,<-hX,<-hk]
        have e:UInt8.ofNat (x / 2 ^ (24-8*q)%256)=UInt8.ofNat (x / 2 ^ (24-8*q)):=by
         apply UInt8.toNat_inj.1
         rw [UInt8.toNat_ofNat',UInt8.toNat_ofNat']
         omega
        rw [e];simp
       rw [hX] at cv
       have HQ:=Hd hlt6
       have HBA:Hid (∀ o1:Obj,Below wr.heap.size wr (wr.alloc o1)):=Hd λ o1=>(zBr _ _).alloc (zNr _) o1
       have w0:∀ (a:Int) (n:Nat),a%256=(n:Int)->IntKind.u8.wrap a=(n:Int):=λ a n h=>by
        simp [IntKind.wrap,IntKind.bits,IntKind.signed];omega
       have h8:q=0\/q=1\/q=2\/q=3:=by omega
       have HW8:=Hd w0
       have hil:i<8:=HI.out
       clear HF hol hx hX hxs hq hlt6 w0
       rcases h8 with rfl|rfl|rfl|rfl
       ·have c8:IntKind.u8.wrap ((x:Int) / 16777216)=(k:Int):=HW8.out _ _ (by rw [<-hk];simp only [Nat.reducePow,Nat.reduceMul,Nat.reduceSub];omega)
        clear hk hk2 kx HW8
        go_wp2_with fail
        go_roundg 3
        case measure=>omega
        case rel=>exact ⟨1,_,rfl,by decide,rfl,rfl,Hd (HN.out _ (HBA.out _))⟩
       ·have c8:IntKind.u8.wrap ((x:Int) / 65536)=(k:Int):=HW8.out _ _ (by rw [<-hk];simp only [Nat.reducePow,Nat.reduceMul,Nat.reduceSub];omega)
        clear hk hk2 kx HW8
        go_wp2_with fail
        go_roundg 2
        case measure=>omega
        case rel=>exact ⟨2,_,rfl,by decide,rfl,rfl,Hd (HN.out _ (HBA.out _))⟩
       ·have c8:IntKind.u8.wrap ((x:Int) / 256)=(k:Int):=HW8.out _ _ (by rw [<-hk];simp only [Nat.reducePow,Nat.reduceMul,Nat.reduceSub];omega)
        clear hk hk2 kx HW8
        go_wp2_with fail
        go_roundg 1
        case measure=>omega
        case rel=>exact ⟨3,_,rfl,by decide,rfl,rfl,Hd (HN.out _ (HBA.out _))⟩
       ·have c8:IntKind.u8.wrap ((x:Int))=(k:Int):=HW8.out _ _ (by rw [<-hk];simp only [Nat.reducePow,Nat.reduceMul,Nat.reduceSub];omega)
        clear hk hk2 kx HW8
        go_wp2_with fail
        go_roundg 0
        case measure=>omega
        case rel=>exact ⟨4,_,rfl,by decide,rfl,rfl,Hd (HN.out _ (HBA.out _))⟩
      ·obtain rfl:q=4:=by omega
       have HF2:Hid (ByF w g7 c7 Hm (4*(i+1)) o wr):=HF
       clear HF hq hlt6
       go_wp2_with fail
       go_roundg (8-(i+1))
       case measure=>have:=HI.out;omega
       case rel=>exact ⟨i+1,_,rfl,HI.out,by congr 1,rfl,HF2⟩
    ·obtain rfl:i=8:=by omega
     obtain rfl:=HPF.out o HF.out.1
     have HG:=Hd HF.out.2.2
     clear HF HPF hi hlt5
     go_wp2_with fail
     go_ret
     exact ⟨rfl,HG⟩
theorem zk7 (s:ByteArray) (w:World) (hs:s.size<=100000):Calls Tryz.prog 148 #[.string s] w λ e w'=>e=.returned (.string (prB s))/\Hid (Below w.heap.size w w'):=by
 have SQ:=zm3 w
 have CB:=λ W=>zoF W
 have HS:=Hd hs
 go_enter Tryz.func148,Tryz.ntmps148
 go_wp2_with fail
 refine SQ.mono ?_
 rintro e w1 ⟨v1,rfl,H1⟩
 clear SQ
 go_wp2_with fail
 refine (CB _).mono ?_
 rintro e w2 ⟨v2,rfl,H2⟩
 clear CB
 have BY:=zs6 s v1 v2 w2 HS.out (by have:=(H1.out.rd).below H2.out.2;exact this) H2.out.rd
 have HB:=Hd (H1.out.2.trans (H2.out.2.mono H1.out.2.size))
 clear H1 H2
 go_wp2_with fail
 refine BY.mono ?_
 rintro e w3 ⟨rfl,H3⟩
 clear BY
 go_wp2_with fail
 go_ret
 exact ⟨rfl,Hd (HB.out.trans (H3.out.mono HB.out.size))⟩
theorem zaO {fn:Func} {p u v x:Tmp} {ty:TypeId} (h:fn.results=#[.cell p ty,.tmp u,.tmp v,.tmp x]) (tmps:Array Value) (P:Program) (w:World) :
 (results fn tmps).run P w =
   ((asAddr (tmps.getD p undef)).run P w).andThen λ a w₁=>((loadVar ty a).run P w₁).andThen λ y w₂=>.ok (.tuple #[y,tmps.getD u undef,tmps.getD v undef,tmps.getD x undef]) w₂:=by
 simp only [results,h]
 simp [Sem.run_bind,Result.andThen]
theorem zkh:(Tryz.prog.info? 175).map (λ i=>(i.zero,i.size,i.bytes))=some (some (.agg #[.string ⟨#[]⟩,.string ⟨#[]⟩,.int .i64 0]),3,40):=by kernel_rfl
theorem zpq:(Tryz.prog.info? 188).map (λ i=>(i.zero,i.size,i.bytes))=some (some (.agg #[.string ⟨#[]⟩,.int .i64 0]),2,24):=by kernel_rfl
structure zcn (w:World) (va vl:Value) (W:World):Prop where
 b:W.heap[w.heap.size]?=some (.cells #[va,vl] 52 (0,0))
 r:W.heap[w.heap.size+1]?=some (.cells #[.slice none 0 0,.slice none 0 0] 52 (0,0))
 bel:Below w.heap.size w W
theorem zcn.start (w:World) (va vl:Value):zcn w va vl ((w.alloc (.cells #[va,vl] 52)).alloc (.cells #[.slice none 0 0,.slice none 0 0] 52)):=by
 have hb:Below w.heap.size w (w.alloc (.cells #[va,vl] 52)):=(zBr _ _).alloc (zNr _) _
 refine ⟨?_,?_,hb.alloc hb.size _⟩
 ·rw [zao _ (by simp)];exact heap_alloc_new _ _
 ·have:=heap_alloc_new (w.alloc (.cells #[va,vl] 52)) (.cells #[.slice none 0 0,.slice none 0 0] 52)
  simpa using this
theorem zcn.below {w W W':World} {va vl:Value} (h:zcn w va vl W) (hb:Below W.heap.size W W'):zcn w va vl W' :=
 ⟨(hb.block _ (zab h.b)).trans h.b,(hb.block _ (zab h.r)).trans h.r,h.bel.trans (hb.mono h.bel.size)⟩
theorem zcn.grown {w W W':World} {va vl v:Value} (h:zcn w va vl W) (hg:W.grownBy W' v.ownBlock) (hv:∀ j,v.ownBlock=some j->w.heap.size+2<=j):zcn w va vl W':=by
 refine ⟨(hg.block _ (zab h.b) λ e=>?_).trans h.b,(hg.block _ (zab h.r) λ e=>?_).trans h.r,h.bel.grown hg h.bel.size λ j e=>by have:=hv j e;omega⟩
 ·have:=hv _ e.symm;omega
 ·have:=hv _ e.symm;omega
theorem zcn.set {w W:World} {va vl:Value} (h:zcn w va vl W) (x:Value):zcn w x vl (W.setCell ⟨w.heap.size,0,none⟩ x):=by
 refine ⟨zac h.b x,(zae _ (by omega)).trans h.r,h.bel.setCell (zNr _) _⟩
theorem zcn.set1 {w W:World} {va vl:Value} (h:zcn w va vl W) (x:Value):zcn w va x (W.setCell ⟨w.heap.size,1,none⟩ x):=by
 refine ⟨zac h.b x,(zae _ (by omega)).trans h.r,h.bel.setCell (zNr _) _⟩
theorem zcn.cells {w W:World} {va vl:Value} (h:zcn w va vl W):W.cell? ⟨w.heap.size,0,none⟩=some va/\W.cell? ⟨w.heap.size,1,none⟩=some vl/\W.frozen? ⟨w.heap.size,0,none⟩=false/\W.frozen? ⟨w.heap.size,1,none⟩=false/\w.heap.size<W.heap.size :=
 ⟨zaa h.b rfl,zaa h.b rfl,zad h.b 0,zad h.b 1,zab h.b⟩
theorem zcn.res {w W:World} {va vl:Value} (h:zcn w va vl W):W.cell? ⟨w.heap.size+1,0,none⟩=some (.slice none 0 0)/\W.frozen? ⟨w.heap.size+1,0,none⟩=false/\W.frozen? ⟨w.heap.size+1,1,none⟩=false/\w.heap.size+1<W.heap.size/\W.cell? ⟨w.heap.size+1,1,none⟩=some (.slice none 0 0) :=
 ⟨zaa h.r rfl,zad h.r 0,zad h.r 1,zab h.r,zaa h.r rfl⟩
theorem zcn.out {w W:World} {va vl:Value} (h:zcn w va vl W) (x y:Value):(W.setCell ⟨w.heap.size+1,0,none⟩ x).cell? ⟨w.heap.size+1,1,none⟩=some (.slice none 0 0)/\(W.setCell ⟨w.heap.size+1,0,none⟩ x).frozen? ⟨w.heap.size+1,1,none⟩=false/\((W.setCell ⟨w.heap.size+1,0,none⟩ x).setCell ⟨w.heap.size+1,1,none⟩ y).cell? ⟨w.heap.size+1,0,none⟩=some x/\((W.setCell ⟨w.heap.size+1,0,none⟩ x).setCell ⟨w.heap.size+1,1,none⟩ y).cell? ⟨w.heap.size+1,1,none⟩=some y/\Below w.heap.size w ((W.setCell ⟨w.heap.size+1,0,none⟩ x).setCell ⟨w.heap.size+1,1,none⟩ y):=by
 have h1:=zac (i:=0) h.r x
 have h2:=zac (i:=1) h1 y
 exact ⟨zaa h1 rfl,zad h1 1,zaa h2 rfl,zaa h2 rfl,(h.bel.setCell (p:=⟨w.heap.size+1,0,none⟩) (by show w.heap.size<=w.heap.size+1;omega) _).setCell (p:=⟨w.heap.size+1,1,none⟩) (by show w.heap.size<=w.heap.size+1;omega) _⟩
def zau (D:Nat->Prop) (v:Value):Prop:=∃ va vl,v=.agg #[va,vl]/\(∀ g,va.ownBlock=some g->D g)/\∀ g,vl.ownBlock=some g->D g
theorem zau.mono {D D':Nat->Prop} {v:Value} (h:zau D v) (hD:∀ b,D b->D' b):zau D' v:=by
 obtain ⟨va,vl,e,h1,h2⟩:=h
 exact ⟨va,vl,e,λ g hg=>hD g (h1 g hg),λ g hg=>hD g (h2 g hg)⟩
theorem zau.and {D D':Nat->Prop} {v:Value} (h:zau D v) (h':zau D' v):zau (λ b=>D b/\D' b) v:=by
 obtain ⟨va,vl,rfl,h1,h2⟩:=h
 obtain ⟨va',vl',e,h3,h4⟩:=h'
 cases e
 exact ⟨va,vl,rfl,λ g hg=>⟨h1 g hg,h3 g hg⟩,λ g hg=>⟨h2 g hg,h4 g hg⟩⟩
theorem zaB.lt {w:World} {v:Value} {n sz:Nat} {xs:List Value} (h:zaB w v n sz xs):∀ g,v.ownBlock=some g->g<w.heap.size:=by
 obtain ⟨a,c,rfl,_,_,_,h4⟩:=h
 intro g hg
 cases a with
 | none=>cases hg
 | some ad =>
   obtain ⟨b,off,rfl,h5,-⟩:=h4 ad rfl
   cases hg;exact h5
theorem StR.lt {w:World} {v:Value} {C:List RCk} {L:List REn} (h:StR w v C L):zau (λ b=>b<w.heap.size) v:=by
 obtain ⟨va,vl,rfl,h1,h2⟩:=h
 exact ⟨va,vl,rfl,h1.lt,h2.lt⟩
theorem zaB.setLoc {w:World} {v:Value} {n sz:Nat} {xs:List Value} (h:zaB w v n sz xs) {D:Nat->Prop} (hD:∀ g,v.ownBlock=some g->D g) {x i:Nat} (hx:¬D x) (u:Value):zaB (w.setCell ⟨x,i,none⟩ u) v n sz xs:=by
 obtain ⟨a,c,rfl,h1,h2,h3,h4⟩:=h
 cases a with
 | none=>exact ⟨_,_,rfl,h1,h2,h3,λ ad e=>by cases e⟩
 | some ad =>
   obtain ⟨b,off,rfl,-⟩:=h4 ad rfl
   refine zaB.setNe (x:=x) ⟨_,_,rfl,h1,h2,h3,h4⟩ ?_ u
   rintro rfl
   exact hx (hD b rfl)
theorem StR.setLoc {w:World} {v:Value} {C:List RCk} {L:List REn} (h:StR w v C L) {D:Nat->Prop} (hD:zau D v) {x i:Nat} (hx:¬D x) (u:Value):StR (w.setCell ⟨x,i,none⟩ u) v C L:=by
 obtain ⟨va,vl,rfl,h1,h2⟩:=h
 obtain ⟨va',vl',e,h3,h4⟩:=hD
 cases e
 exact ⟨va,vl,rfl,h1.setLoc h3 hx u,h2.setLoc h4 hx u⟩
theorem zau.newL {D:Nat->Prop} {va vl:Value} {b g5 n c5:Nat} (h:zau D (.agg #[va,vl])) (hg:b<=g5):zau (λ x=>D x\/b<=x) (.agg #[va,.slice (some ⟨g5,0,none⟩) n c5]):=by
 obtain ⟨va',vl',e,h1,h2⟩:=h
 cases e
 exact ⟨_,_,rfl,λ g hg'=>.inl (h1 g hg'),λ g hg'=>by cases hg';exact .inr hg⟩
theorem zau.newA {D:Nat->Prop} {va vl:Value} {b g5 n c5:Nat} (h:zau D (.agg #[va,vl])) (hg:b<=g5):zau (λ x=>D x\/b<=x) (.agg #[.slice (some ⟨g5,0,none⟩) n c5,vl]):=by
 obtain ⟨va',vl',e,h1,h2⟩:=h
 cases e
 exact ⟨_,_,rfl,λ g hg'=>by cases hg';exact .inr hg,λ g hg'=>.inl (h2 g hg')⟩
theorem zdF {w:World} {base sz n:Nat} {e:TypeId} {v:Value} {xs:List Value} (h:w.ownsRow base e sz v n xs) (hn:0<n):∃ g cap,v=.slice (some ⟨g,0,none⟩) n cap/\base<=g:=by
 rcases h.2 with ⟨rfl,h0⟩|⟨g,cap,cur,rfl,h1,-⟩
 ·omega
 ·exact ⟨g,cap,rfl,h1⟩
theorem zm6 (l:List REn):∀ u∈enC l,u.oneCell'=true:=by
 intro u hu
 obtain ⟨x,-,hx⟩:=List.mem_flatMap.1 hu
 simp only [List.mem_cons,List.not_mem_nil,or_false] at hx
 rcases hx with rfl|rfl <;> rfl
theorem StR.log5 {w W:World} {va:Value} {C:List RCk} {L:List REn} {g5 c5:Nat} {x:Value} {id:ByteArray} {by_:Int} {X:Value} (ha:zaB (((W.setCell ⟨w.heap.size,1,none⟩ X).setCell ⟨w.heap.size+1,0,none⟩ va).setCell ⟨w.heap.size+1,1,none⟩ x) va C.length 3 (ckC C)) (hl:zaB W (.slice (some ⟨g5,0,none⟩) (L.length+1) c5) (L.length+1) 2 (enC L++[.string id,.int .i64 by_])) (hg:w.heap.size+2<=g5) :
 StR (((W.setCell ⟨w.heap.size,1,none⟩ X).setCell ⟨w.heap.size+1,0,none⟩ va).setCell ⟨w.heap.size+1,1,none⟩ x) (.agg #[va,.slice (some ⟨g5,0,none⟩) (L.length+1) c5]) C (L++[(id,by_)]):=by
 refine ⟨_,_,rfl,ha,?_⟩
 rw [zLa,List.length_singleton,zox]
 exact ((hl.setNe (by omega) _).setNe (by omega) _).setNe (by omega) _
theorem zm7 (v:Value) (C:List RCk) (L:List REn) (id:ByteArray) (by_:Int) (w:World) (h:StR w v C L) (hC:C.length<=1000000) (hL:L.length<=1000000) (h1:by_=1\/by_=-1) (c:RCk) (hf:zhj C id=some c) :
 Calls Tryz.prog 99 #[v,.string id,.int .i64 by_] w λ e w'=>∃ v',e=.returned (.tuple #[v',.int .i64 0])/\Hid ((StR w' v' C (L++[(id,by_)])/\Below w.heap.size w w')/\∀ D,zau D v->zau (λ b=>D b\/w.heap.size<=b) v'):=by
 obtain ⟨jE,hjE,hE0,hE1,hE2⟩:=info_parts zpq
 have HST:=Hd h
 obtain ⟨va,vl,rfl,h2,h3⟩:=h
 obtain ⟨aA,cA,rfl,-⟩:=h2.form
 obtain ⟨aL,cL,rfl,-⟩:=h3.form
 have B0:=zcn.start w (.slice aA C.length cA) (.slice aL L.length cL)
 obtain ⟨wb,hwb⟩:=exE ((w.alloc (.cells #[.slice aA C.length cA,.slice aL L.length cL] 52)).alloc (.cells #[.slice none 0 0,.slice none 0 0] 52))
 rw [hwb] at B0
 have HB0:=Hd B0
 have AT:=zib (.agg #[.slice aA C.length cA,.slice aL L.length cL]) C L id wb (HST.out.below B0.bel) hC
 obtain ⟨i,hi,-,hx,-⟩:=zcY hf
 rw [hx] at AT
 have hi0:((i:Int)<0)=False:=eq_false (by omega)
 obtain ⟨x0,x1,x2,x3,x4⟩:=B0.cells
 have HLL:=Hd hL
 have HVL:=Hd h3
 have HVA:=Hd h2
 clear B0 hx hf hi h2 h3 hL
 rcases h1 with rfl|rfl
 all_goals (
  go_enter Tryz.func99,Tryz.ntmps99
  go_wp2_with fail
  refine AT.mono ?_
  rintro e w2 ⟨rfl,H2⟩
  have HB2:=Hd (HB0.out.below H2.out)
  clear AT H2 hwb x0 x1 x2 x3 x4
  obtain ⟨x0,x1,x2,x3,x4⟩:=HB2.out.cells
  have HZ:Hid (w.heap.size+2<=w2.heap.size):=Hd (by have:=zab HB2.out.r;omega)
  have HO1:Hid ((w2.alloc (.cells #[] 188)).ownsRow (w.heap.size+2) 188 2 (.slice (some ⟨w2.heap.size,0,none⟩) 0 0) 0 []):=Hd (World.ownsRow_lit w2 #[] 0 HZ.out (by decide) rfl)
  have HBa:=Hd (HB2.out.below ((zBr _ _).alloc (zNr _) (.cells #[] 188)))
  have HY1:Hid (zbV (w2.alloc (.cells #[] 188)) (.slice aL L.length cL) L.length (enC L)):=Hd ((HVL.out.below (HBa.out.bel)).yields)
  have L1:=Hd (show 0+L.length<=maxLen/\(0+L.length)*24<=140737488355328 from ⟨by have:=HLL.out;unfold maxLen;omega,by have:=HLL.out;omega⟩)
  have L2:=Hd (show L.length+1<=maxLen/\(L.length+1)*24<=140737488355328 from ⟨by have:=HLL.out;unfold maxLen;omega,by have:=HLL.out;omega⟩)
  have HZ1:Hid (w.heap.size+2<=(w2.alloc (.cells #[] 188)).heap.size):=Hd (by have:=HZ.out;simp;omega)
  go_wp2_with (first
   | (refine zeA 50 50 ⟨_,_,by with_reducible rfl⟩ ?_
      refine zag (by rfl) _ _ _ rfl (w.heap.size+2) 188 jE _ 2 24 Tryz.underlying50 hjE hE0 hE1 hE2 rfl (by decide) _ _ _ (by rfl) (HO3.out.alloc _) _ 1 _ (by rfl) (zai _ _ _ 1 1) rfl (znn _ _ rfl rfl) L2.out.1 L2.out.2 (HZ3.out _) ?_
      intro v5 W5 ho5 hg5 ha5
      have hB5:=(HB3.out.below ((zBr _ _).alloc (zNr _) _)).grown hg5 λ j e=>(ho3.lt j e).1
      obtain ⟨g5,c5,rfl,k5⟩:=zdF ho5 (by omega)
      have hB6:=hB5.set1 (.slice (some ⟨g5,0,none⟩) (L.length+1) c5)
      obtain ⟨y0,y1,y2,y3,y4⟩:=hB5.cells
      obtain ⟨z0,z1,z2,z3,z4⟩:=hB6.cells
      obtain ⟨r0,r1,r2,r3,r4⟩:=hB6.res
      obtain ⟨o1,o2,o3,o4,o5⟩:=hB6.out (.slice aA C.length cA) (.slice (some ⟨g5,0,none⟩) (L.length+1) c5)
      have HG:=Hd (And.intro (And.intro (StR.log5 (HVA.out.below o5) (zaB.own ho5) k5) o5) (λ D (hD:zau D (.agg #[.slice aA C.length cA,.slice aL L.length cL]))=>zau.newL (n:=L.length+1) (c5:=c5) hD (Nat.le_trans (Nat.le_add_right _ 2) k5)))
      clear ho5 hg5 ha5 hB5 hB6 o5 k5)
   | (refine zeA 50 50 ⟨_,_,by with_reducible rfl⟩ ?_
      refine zag (by rfl) _ _ _ rfl (w.heap.size+2) 188 jE _ 2 24 Tryz.underlying50 hjE hE0 hE1 hE2 rfl (by decide) _ _ _ (by rfl) HO1.out _ L.length (enC L) (by rfl) HY1.out (zmV L) (zm6 L) L1.out.1 L1.out.2 HZ1.out ?_
      intro v3 W3 ho3 hg3 ha3
      rw [Nat.zero_add] at ho3
      rw [List.nil_append] at ho3
      have HO3:=Hd ho3
      have HB3:=Hd (HBa.out.grown hg3 λ j e=>(HO1.out.lt j e).1)
      have HZ3:Hid (∀ o:Obj,w.heap.size+2<=(W3.alloc o).heap.size):=Hd λ o=>by have:=zab HB3.out.r;simp;omega
      clear hg3 ha3))
  (try simp only [Exit.inBlock,Exit.then])
  refine bodyPost_ret (v:=.tuple #[.agg #[.slice aA C.length cA,.slice (some ⟨g5,0,none⟩) (L.length+1) c5],.int .i64 0]) ?_ rfl ⟨_,rfl,HG⟩
  rw [results_cell_tmp rfl]
  go_simp)
def zgx (C:List RCk) (c:RCk) (k:Nat):List RCk:=if zbI (C.take k) c then zf4 (C.take k) c else C.take k
theorem zoI {C:List RCk} {c:RCk} {k:Nat} (h:k<C.length) (hd:zbI (C.take k) c=true):zgx C c (k+1)=zgx C c k++[C[k]]/\zbI (C.take (k+1)) c=true:=by
 have h2:zbI (C.take (k+1)) c=true:=by rw [zTs h,zfU,hd];rfl
 refine ⟨?_,h2⟩
 unfold zgx
 rw [if_pos h2,if_pos hd,zTs h,zj3 hd]
theorem zoJ {C:List RCk} {c:RCk} {k:Nat} (h:k<C.length) (hd:zbI (C.take k) c=false) (hl:zah c.1 C[k].1=true):zgx C c (k+1)=zgx C c k++[c]++[C[k]]/\zbI (C.take (k+1)) c=true:=by
 have h2:zbI (C.take (k+1)) c=true:=by rw [zTs h,zfU,hd,hl];rfl
 refine ⟨?_,h2⟩
 unfold zgx
 rw [if_pos h2,if_neg (by rw [hd];simp),zTs h,zfT hd hl]
 simp
theorem zqS {C:List RCk} {c:RCk} {k:Nat} (h:k<C.length) (hd:zbI (C.take k) c=false) (hl:zah c.1 C[k].1=false):zgx C c (k+1)=zgx C c k++[C[k]]/\zbI (C.take (k+1)) c=false:=by
 have h2:zbI (C.take (k+1)) c=false:=by rw [zTs h,zfU,hd,hl];rfl
 refine ⟨?_,h2⟩
 unfold zgx
 rw [if_neg (by rw [h2];simp),if_neg (by rw [hd];simp),zTs h]
theorem zoK (C:List RCk) (c:RCk) (k:Nat):(zgx C c k).length<=k+1:=by
 unfold zgx
 split
 ·rw [zfV,List.length_take];omega
 ·rw [List.length_take];omega
theorem zoL {C:List RCk} {c:RCk}:(zbI (C.take C.length) c=true->zgx C c C.length=zf4 C c)/\(zbI (C.take C.length) c=false->zgx C c C.length++[c]=zf4 C c):=by
 unfold zgx
 rw [List.take_length]
 exact ⟨λ h=>by rw [if_pos h],λ h=>by rw [if_neg (by rw [h];simp),ziZ h]⟩
structure zdJ (w:World) (va vl:Value) (B:Nat) (C:List RCk) (v:Value) (l:List RCk) (wr:World):Prop where
 row:wr.ownsRow B 175 3 v l.length (ckC l)
 box:zcn w va vl wr
 lo:w.heap.size+2<=B/\B<=wr.heap.size
theorem zdJ.snoc {w wr W5:World} {va vl v v5:Value} {B:Nat} {C l:List RCk} {c:RCk} (h:zdJ w va vl B C v l wr) (o:Obj) (hg:(wr.alloc o).grownBy W5 v.ownBlock) (h5:W5.ownsRow B 175 3 v5 (l.length+1) (ckC l++[.string c.1,.string c.2.1,.int .i64 c.2.2])):zdJ w va vl B C v5 (l++[c]) W5:=by
 have hb:=h.box.below ((zBr _ _).alloc (zNr _) o)
 refine ⟨by rw [zLa,List.length_singleton,zkc];exact h5,hb.grown hg λ j e=>Nat.le_trans h.lo.1 (h.row.lt j e).1,h.lo.1,?_⟩
 have h1:=hg.size
 have h2:=h.lo.2
 rw [World.size_alloc] at h1
 omega
theorem zjd (l:List RCk):∀ u∈ckC l,u.oneCell'=true:=by
 intro u hu
 obtain ⟨x,-,hx⟩:=List.mem_flatMap.1 hu
 simp only [List.mem_cons,List.not_mem_nil,or_false] at hx
 rcases hx with rfl|rfl|rfl <;> rfl
theorem StR.put5 {w W:World} {vl:Value} {C:List RCk} {L:List REn} {g5 c5:Nat} {x y X:Value} (hl:zaB (((W.setCell ⟨w.heap.size,0,none⟩ X).setCell ⟨w.heap.size+1,0,none⟩ x).setCell ⟨w.heap.size+1,1,none⟩ y) vl L.length 2 (enC L)) (ha:zaB W (.slice (some ⟨g5,0,none⟩) C.length c5) C.length 3 (ckC C)) (hg:w.heap.size+2<=g5) :
 StR (((W.setCell ⟨w.heap.size,0,none⟩ X).setCell ⟨w.heap.size+1,0,none⟩ x).setCell ⟨w.heap.size+1,1,none⟩ y) (.agg #[.slice (some ⟨g5,0,none⟩) C.length c5,vl]) C L :=
 ⟨_,_,rfl,((ha.setNe (by omega) _).setNe (by omega) _).setNe (by omega) _,hl⟩
theorem zm8 {C:List RCk} {t:ByteArray} {k:Nat} (h1:1<=t.size) (h2:t.size<=128) (hno:∀ j,j<256->zg8 C (prB t) t j=false) (hk:k<256) (hf:zd1 C (prB t) k=true) (hb:∀ j,j<k->zd1 C (prB t) j=false):zew C t=(zf4 C (zas (prB t) k,t,0),zas (prB t) k,true,0):=by
 unfold zew
 rw [if_neg (by omega),zdE hno,zcZ hk hf hb]
theorem zm9 {C:List RCk} {t:ByteArray} {k:Nat} (h1:1<=t.size) (h2:t.size<=128) (hno:∀ j,j<k->zg8 C (prB t) t j=false) (hk:k<256) (hf:zg8 C (prB t) t k=true):zew C t=(C,zas (prB t) k,false,0):=by
 unfold zew
 rw [if_neg (by omega),zcZ hk hf hno]
theorem zna {C:List RCk} {t:ByteArray} (h1:1<=t.size) (h2:t.size<=128) (hno:∀ j,j<256->zg8 C (prB t) t j=false) (hb:∀ j,j<256->zd1 C (prB t) j=false):zew C t=(C,⟨#[]⟩,false,4):=by
 unfold zew
 rw [if_neg (by omega),zdE hno,zdE hb]
theorem zpr (v:Value) (C:List RCk) (L:List REn) (t:ByteArray) (w:World) (h:StR w v C L) (hC:C.length<=100000) (ht1:1<=t.size) (ht2:t.size<=128) :
 Calls Tryz.prog 97 #[v,.string t] w λ e w'=>∃ v',e=.returned (.tuple #[v',.string (zew C t).2.1,.bool (zew C t).2.2.1,.int .i64 (zew C t).2.2.2])/\Hid ((StR w' v' (zew C t).1 L/\Below w.heap.size w w')/\∀ D,zau D v->zau (λ b=>D b\/w.heap.size<=b) v'):=by
 obtain ⟨jC,hjC,hC0,hC1,hC2⟩:=info_parts zkh
 have HST:=Hd h
 obtain ⟨va,vl,rfl,h2,h3⟩:=h
 obtain ⟨aA,cA,rfl,-⟩:=h2.form
 obtain ⟨aL,cL,rfl,-⟩:=h3.form
 have B0:=zcn.start w (.slice aA C.length cA) (.slice aL L.length cL)
 obtain ⟨wb,hwb⟩:=exE ((w.alloc (.cells #[.slice aA C.length cA,.slice aL L.length cL] 52)).alloc (.cells #[.slice none 0 0,.slice none 0 0] 52))
 rw [hwb] at B0
 have HB0:=Hd B0
 have PR:=λ W=>zk7 t W (by omega)
 obtain ⟨p,hp⟩:=exE (prB t)
 have HPP:=Hd hp
 have hps:p.size=32:=by rw [<-hp,zgR]
 have HV:Hid (zaB w (.slice aA C.length cA) C.length 3 (ckC C)):=Hd h2
 have HVL:Hid (zaB w (.slice aL L.length cL) L.length 2 (enC L)):=Hd h3
 have HCL:=Hd hC
 have HT:=Hd (And.intro ht1 ht2)
 have d0:decide ((t.size:Int)<1)=false:=decide_eq_false (by omega)
 have d1:decide ((t.size:Int) > 128)=false:=decide_eq_false (by omega)
 rw [hp] at PR
 have AT:Hid (∀ nm W,zcn w (.slice aA C.length cA) (.slice aL L.length cL) W->Calls Tryz.prog 102 #[.agg #[.slice aA C.length cA,.slice aL L.length cL],.string nm] W λ e w'=>e=.returned (.int .i64 (ixR C nm))/\Hid (Below W.heap.size W w')):=Hd λ nm W hW =>
  zib (.agg #[.slice aA C.length cA,.slice aL L.length cL]) C L nm W (HST.out.below hW.bel) (by omega)
 clear B0 h2 h3 hp hC ht1 ht2
 go_enter Tryz.func97,Tryz.ntmps97
 go_wp2_with fail
 refine (PR _).mono ?_
 rintro e w2 ⟨rfl,H2⟩
 have R1:Hid ((∀ j,j<0->zg8 C p t j=false)/\zcn w (.slice aA C.length cA) (.slice aL L.length cL) w2):=Hd ⟨λ j hj=>absurd hj (by omega),HB0.out.below H2.out⟩
 clear PR H2 hwb d0 d1 HB0
 go_wp2_with fail
 go_loopg [9] 256 (λ g s9 wr=>∃ (k:Nat),g=256-k/\k<=256/\s9=.int .i64 (k:Int)/\Hid ((∀ j,j<k->zg8 C p t j=false)/\zcn w (.slice aA C.length cA) (.slice aL L.length cL) wr))
 case atStart=>exact ⟨0,rfl,zNz _,rfl,R1⟩
 case round =>
  obtain ⟨k,rfl,hk,rfl,HI⟩:=hrel
  clear R1
  by_cases hlt:k<256
  ·-- part 1 begins
   have k0:IntKind.u8.wrap (k:Int)=(k:Int):=by
    simp [IntKind.wrap,IntKind.bits,IntKind.signed];omega
   have cv:=zjX k hlt (wr.alloc (.cells #[.int .u8 (k:Int)] 5)) wr.heap.size (zaa (heap_alloc_new _ _) rfl)
   obtain ⟨X,hX⟩:∃ X:ByteArray,(⟨#[UInt8.ofNat k]⟩:ByteArray)=X:=⟨_,rfl⟩
   have hxs:X.size=1:=by rw [<-hX];rfl
   have hb1:(p.size+X.size > 9223372036854775807)=False:=by simp;omega
   have hb2:¬(9223372036854775807<p.size+X.size):=by omega
   obtain ⟨nm,hnm⟩:=exE (p++X)
   have HNM:Hid (nm=zas p k):=Hd (by rw [<-hnm,<-hX];rfl)
   rw [hX] at cv
   have HB2:=Hd (HI.out.2.below ((zBr _ _).alloc (zNr _) (.cells #[.int .u8 (k:Int)] 5)))
   have A2:=AT.out nm _ HB2.out
   obtain ⟨x0,x1,x2,x3,x4⟩:=HI.out.2.cells
   obtain ⟨y0,y1,y2,y3,y4⟩:=HB2.out.cells
   clear hX hxs
   have HLT:=Hd hlt
   cases hf:zhj C nm with
   | none =>
     rw [(zdD hf).1] at A2
     have HNX:Hid (∀ j,j<k+1->zg8 C p t j=false):=Hd λ j hj=>by
      by_cases e:j=k
      ·subst e;unfold zg8;rw [<-HNM.out,hf]
      ·exact HI.out.1 j (by omega)
     clear hf HI
     go_wp2_with fail
     refine A2.mono ?_
     rintro e w3 ⟨rfl,H3⟩
     have HB3:=Hd (HB2.out.below H3.out)
     clear A2 H3 HB2 cv x0 x1 x2 x3 x4 y0 y1 y2 y3 y4 hlt hk
     obtain ⟨x0,x1,x2,x3,x4⟩:=HB3.out.cells
     go_wp2_with fail
     go_roundg (256-(k+1))
     case measure=>have:=HLT.out;omega
     case rel=>exact ⟨k+1,rfl,HLT.out,by congr 1,Hd ⟨HNX.out,HB3.out⟩⟩
   | some c =>
     obtain ⟨i,hi,hc,hx,-⟩:=zcY hf
     rw [hx] at A2
     obtain ⟨-,c1,-⟩:=zcm hi
     obtain ⟨b,off,rfl,hb,hcell⟩:=HV.out.get c1
     have ck:=hcell _ _ c1
     rw [hc] at ck
     have HCK:Hid (∀ W,Below w.heap.size w W->W.cell? ⟨b,off+i*3+1,none⟩=some (.string c.2.1)):=Hd λ W hW=>(hW.cell (p:=⟨b,off+i*3+1,none⟩) hb).trans ck
     have hi0:decide ((i:Int) >= 0)=true:=decide_eq_true (by omega)
     have hcl:C.length<=100000:=HCL.out
     by_cases he:c.2.1=t
     ·have HE:=Hd (show zew C t=(C,nm,false,0) by
       have hh:zg8 C (prB t) t k=true:=by rw [HPP.out];unfold zg8;rw [<-HNM.out,hf];simp [he]
       rw [HNM.out,<-HPP.out]
       exact zm9 HT.out.1 HT.out.2 (by rw [HPP.out];exact HI.out.1) hlt hh)
      have heq:(c.2.1.toList == t.toList)=true:=by rw [he];simp
      clear hf hx hc c1 hcell ck hb he HI
      generalize c.2.1=ct at *
      go_wp2_with fail
      refine A2.mono ?_
      rintro e w3 ⟨rfl,H3⟩
      have HB3:=Hd (HB2.out.below H3.out)
      clear A2 H3 HB2 cv x0 x1 x2 x3 x4 y0 y1 y2 y3 y4 hlt hk
      obtain ⟨x0,x1,x2,x3,x4⟩:=HB3.out.cells
      obtain ⟨r0,r1,r2,r3,r4⟩:=HB3.out.res
      obtain ⟨o1,o2,o3,o4,o5⟩:=HB3.out.out (.slice (some ⟨b,off,none⟩) C.length cA) (.slice aL L.length cL)
      have cc:=HCK.out _ HB3.out.bel
      have HG:=Hd (And.intro (And.intro (HST.out.below o5) o5) (λ D (hD:zau D (.agg #[.slice (some ⟨b,off,none⟩) C.length cA,.slice aL L.length cL]))=>hD.mono (D':=λ b=>D b\/w.heap.size<=b) λ b hb=>Or.inl hb))
      clear o5 HCK
      go_wp2_with fail
      (try simp only [Exit.inBlock,Exit.then])
      refine bodyPost_ret (v:=.tuple #[.agg #[.slice (some ⟨b,off,none⟩) C.length cA,.slice aL L.length cL],.string nm,.bool false,.int .i64 0]) ?_ rfl ⟨_,by rw [HE.out],by rw [HE.out];exact HG⟩
      rw [zaO rfl]
      go_simp
     ·have HNX:Hid (∀ j,j<k+1->zg8 C p t j=false):=Hd λ j hj=>by
       by_cases e:j=k
       ·subst e;unfold zg8;rw [<-HNM.out,hf];simp [he]
       ·exact HI.out.1 j (by omega)
      have heq:=zmW he
      clear hf hx hc c1 hcell ck hb he HI
      generalize c.2.1=ct at *
      go_wp2_with fail
      refine A2.mono ?_
      rintro e w3 ⟨rfl,H3⟩
      have HB3:=Hd (HB2.out.below H3.out)
      clear A2 H3 HB2 cv x0 x1 x2 x3 x4 y0 y1 y2 y3 y4 hlt hk
      obtain ⟨x0,x1,x2,x3,x4⟩:=HB3.out.cells
      have cc:=HCK.out _ HB3.out.bel
      clear HCK
      go_wp2_with fail
      go_roundg (256-(k+1))
      case measure=>have:=HLT.out;omega
      case rel=>exact ⟨k+1,rfl,HLT.out,by congr 1,Hd ⟨HNX.out,HB3.out⟩⟩
  ·obtain rfl:k=256:=by omega
   have HNH:=Hd HI.out.1
   have R2:Hid ((∀ j,j<0->zd1 C p j=false)/\zcn w (.slice aA C.length cA) (.slice aL L.length cL) wr):=Hd ⟨λ j hj=>absurd hj (by omega),HI.out.2⟩
   clear HI hlt hk
   go_wp2_with fail
   go_loopg [12] 256 (λ g s12 wr=>∃ (k:Nat),g=256-k/\k<=256/\s12=.int .i64 (k:Int)/\Hid ((∀ j,j<k->zd1 C p j=false)/\zcn w (.slice aA C.length cA) (.slice aL L.length cL) wr))
   case atStart=>exact ⟨0,rfl,zNz _,rfl,R2⟩
   case round =>
    obtain ⟨k,rfl,hk,rfl,HI⟩:=hrel
    clear R2
    by_cases hlt:k<256
    ·have HLT:=Hd hlt
     have k0:IntKind.u8.wrap (k:Int)=(k:Int):=by
      simp [IntKind.wrap,IntKind.bits,IntKind.signed];omega
     have cv:=zjX k hlt (wr.alloc (.cells #[.int .u8 (k:Int)] 5)) wr.heap.size (zaa (heap_alloc_new _ _) rfl)
     obtain ⟨X,hX⟩:∃ X:ByteArray,(⟨#[UInt8.ofNat k]⟩:ByteArray)=X:=⟨_,rfl⟩
     have hxs:X.size=1:=by rw [<-hX];rfl
     have hb1:(p.size+X.size > 9223372036854775807)=False:=by simp;omega
     have hb2:¬(9223372036854775807<p.size+X.size):=by omega
     obtain ⟨nm,hnm⟩:=exE (p++X)
     have HNM:Hid (nm=zas p k):=Hd (by rw [<-hnm,<-hX];rfl)
     rw [hX] at cv
     have HB2:=Hd (HI.out.2.below ((zBr _ _).alloc (zNr _) (.cells #[.int .u8 (k:Int)] 5)))
     have A2:=AT.out nm _ HB2.out
     obtain ⟨x0,x1,x2,x3,x4⟩:=HI.out.2.cells
     obtain ⟨y0,y1,y2,y3,y4⟩:=HB2.out.cells
     clear hX hxs
     cases hf:zhj C nm with
     | some c =>
       obtain ⟨i,hi,hc,hx,-⟩:=zcY hf
       rw [hx] at A2
       have hi0:decide ((i:Int) >= 0)=true:=decide_eq_true (by omega)
       have HNX:Hid (∀ j,j<k+1->zd1 C p j=false):=Hd λ j hj=>by
        by_cases e:j=k
        ·subst e;unfold zd1;rw [<-HNM.out,hf];rfl
        ·exact HI.out.1 j (by omega)
       clear hf hx hc HI
       go_wp2_with fail
       refine A2.mono ?_
       rintro e w3 ⟨rfl,H3⟩
       have HB3:=Hd (HB2.out.below H3.out)
       clear A2 H3 HB2 cv x0 x1 x2 x3 x4 y0 y1 y2 y3 y4 hlt hk
       go_wp2_with fail
       go_roundg (256-(k+1))
       case measure=>have:=HLT.out;omega
       case rel=>exact ⟨k+1,rfl,HLT.out,by congr 1,Hd ⟨HNX.out,HB3.out⟩⟩
     | none =>
       rw [(zdD hf).1] at A2
       have HE:=Hd (show zew C t=(zf4 C (nm,t,0),nm,true,0) by
        rw [HNM.out,<-HPP.out]
        exact zm8 HT.out.1 HT.out.2 (by rw [HPP.out];exact HNH.out) hlt (by rw [HPP.out];unfold zd1;rw [<-HNM.out,hf];rfl) (by rw [HPP.out];exact HI.out.1))
       clear hf HI
       go_wp2_with fail
       refine A2.mono ?_
       rintro e w3 ⟨rfl,H3⟩
       have HB3:=Hd (HB2.out.below H3.out)
       clear A2 H3 HB2 cv x0 x1 x2 x3 x4 y0 y1 y2 y3 y4 hlt hk
       have HBz:=Hd (show w.heap.size+2<=w3.heap.size from zab HB3.out.r)
       have R3:Hid (zdJ w (.slice aA C.length cA) (.slice aL L.length cL) w3.heap.size C (.slice none 0 0) (zgx C (nm,t,0) 0) w3):=Hd ⟨World.ownsRow_nil _ _ _ _,HB3.out,HBz.out,zNr _⟩
       clear HB3
       go_wp2_with fail
       go_loopg [14,15,16] C.length (λ g s14 s15 s16 wr=>∃ (q:Nat) (v:Value),g=C.length-q/\q<=C.length/\s16=.int .i64 (q:Int)/\s15=.bool (zbI (C.take q) (nm,t,0))/\v=s14/\Hid (zdJ w (.slice aA C.length cA) (.slice aL L.length cL) w3.heap.size C v (zgx C (nm,t,0) q) wr))
       case atStart=>exact ⟨0,_,rfl,zNz _,rfl,rfl,rfl,R3⟩
       case round =>
        obtain ⟨q,v,rfl,hq,rfl,rfl,rfl,HI⟩:=hrel
        clear R3
        have hcl:C.length<=100000:=HCL.out
        obtain ⟨x0,x1,x2,x3,x4⟩:=HI.out.box.cells
        by_cases hlt3:q<C.length
        ·-- part 3 begins
         obtain ⟨e0,e1,e2⟩:=zcm hlt3
         obtain ⟨b,off,rfl,hb,hcell⟩:=HV.out.get e0
         have HCK:Hid (∀ W,Below w.heap.size w W->W.cell? ⟨b,off+q*3,none⟩=some (.string C[q].1)/\W.cell? ⟨b,off+q*3+1,none⟩=some (.string C[q].2.1)/\W.cell? ⟨b,off+q*3+2,none⟩=some (.int .i64 C[q].2.2)):=Hd λ W hW =>
          ⟨(hW.cell (p:=⟨b,off+q*3,none⟩) hb).trans (hcell _ _ e0),(hW.cell (p:=⟨b,off+q*3+1,none⟩) hb).trans (hcell _ _ e1),(hW.cell (p:=⟨b,off+q*3+2,none⟩) hb).trans (hcell _ _ e2)⟩
         have HQ:=Hd hlt3
         have HLN:Hid ((zgx C (nm,t,0) q).length<=100001):=Hd (by have:=zoK C (nm,t,0) q;omega)
         have HYS:=Hd λ hd=>zoI (c:=(nm,t,0)) hlt3 hd
         have HNW:=Hd λ hd hl=>zoJ (c:=(nm,t,0)) hlt3 hd hl
         have HNO:=Hd λ hd hl=>zqS (c:=(nm,t,0)) hlt3 hd hl
         obtain ⟨d,hd⟩:=exE (C[q]'hlt3)
         rw [hd] at HCK HYS HNW HNO
         obtain ⟨lq,hlq⟩:=exE (zgx C (nm,t,0) q)
         rw [hlq] at HI HYS HNW HNO HLN
         obtain ⟨nx,hnx⟩:=exE (zgx C (nm,t,0) (q+1))
         have HNX:=Hd hnx
         rw [hnx] at HYS HNW HNO
         obtain ⟨dn,hdn⟩:=exE (zbI (C.take (q+1)) (nm,t,0))
         have HDN:=Hd hdn
         rw [hdn] at HYS HNW HNO
         obtain ⟨ck0,ck1,ck2⟩:=HCK.out wr HI.out.box.bel
         have HO:=Hd HI.out.row
         have HZ:Hid (∀ o:Obj,w3.heap.size<=(wr.alloc o).heap.size):=Hd λ o=>by have:=HI.out.lo.2;simp;omega
         have L1:=Hd (show lq.length+1<=maxLen/\(lq.length+1)*40<=140737488355328 from ⟨by have:=HLN.out;unfold maxLen;omega,by have:=HLN.out;omega⟩)
         have L2:=Hd (show lq.length+1+1<=maxLen/\(lq.length+1+1)*40<=140737488355328 from ⟨by have:=HLN.out;unfold maxLen;omega,by have:=HLN.out;omega⟩)
         clear e0 e1 e2 hcell hb hd hlq hnx hdn
         obtain ⟨i1,i2,n3⟩:=d
         simp only at ck0 ck1 ck2 HCK HYS HNW HNO
         cases hdq:zbI (C.take q) (nm,t,0) with
         | true =>
           obtain ⟨n1,n2⟩:=HYS.out hdq
           have HSN:Hid (∀ o W5 v5,(wr.alloc o).grownBy W5 v.ownBlock->W5.ownsRow w3.heap.size 175 3 v5 (lq.length+1) (ckC lq++[.string i1,.string i2,.int .i64 n3])->zdJ w (.slice (some ⟨b,off,none⟩) C.length cA) (.slice aL L.length cL) w3.heap.size C v5 nx W5):=Hd λ o W5 v5 hg h5=>by
            rw [n1];exact zdJ.snoc (c:=(i1,i2,n3)) HI.out o hg h5
           clear n1 HI HYS HNW HNO hdq
           go_wp2_with (first
            | (refine zeA 49 49 ⟨_,_,by with_reducible rfl⟩ ?_
               refine zag (by rfl) _ _ _ rfl w3.heap.size 175 jC _ 3 40 Tryz.underlying49 hjC hC0 hC1 hC2 rfl (by decide) _ _ _ (by rfl) (HO.out.alloc _) _ 1 _ (by rfl) (zai _ #[.string i1,.string i2,.int .i64 n3] _ 1 1) rfl (zpk _ _ _ rfl rfl rfl) L1.out.1 L1.out.2 (HZ.out _) ?_
               intro v5 W5 ho5 hg5 ha5
               have HN5:=Hd (HSN.out _ W5 v5 hg5 ho5)
               clear ho5 hg5 ha5))
           go_roundg (C.length-(q+1))
           case measure=>have:=HQ.out;omega
           case rel=>exact ⟨q+1,_,rfl,HQ.out,by congr 1,by rw [HDN.out,n2],rfl,by rw [HNX.out];exact HN5⟩
         | false =>
           cases hl:zah nm i1 with
           | false =>
             obtain ⟨n1,n2⟩:=HNO.out hdq hl
             have HSN:Hid (∀ o W5 v5,(wr.alloc o).grownBy W5 v.ownBlock->W5.ownsRow w3.heap.size 175 3 v5 (lq.length+1) (ckC lq++[.string i1,.string i2,.int .i64 n3])->zdJ w (.slice (some ⟨b,off,none⟩) C.length cA) (.slice aL L.length cL) w3.heap.size C v5 nx W5):=Hd λ o W5 v5 hg h5=>by
              rw [n1];exact zdJ.snoc (c:=(i1,i2,n3)) HI.out o hg h5
             have hlb:Op.bytesLess nm.toList i1.toList=false:=hl
             clear n1 HI HYS HNW HNO hdq hl
             go_wp2_with (first
              | (refine zeA 49 49 ⟨_,_,by with_reducible rfl⟩ ?_
                 refine zag (by rfl) _ _ _ rfl w3.heap.size 175 jC _ 3 40 Tryz.underlying49 hjC hC0 hC1 hC2 rfl (by decide) _ _ _ (by rfl) (HO.out.alloc _) _ 1 _ (by rfl) (zai _ #[.string i1,.string i2,.int .i64 n3] _ 1 1) rfl (zpk _ _ _ rfl rfl rfl) L1.out.1 L1.out.2 (HZ.out _) ?_
                 intro v5 W5 ho5 hg5 ha5
                 have HN5:=Hd (HSN.out _ W5 v5 hg5 ho5)
                 clear ho5 hg5 ha5))
             go_roundg (C.length-(q+1))
             case measure=>have:=HQ.out;omega
             case rel=>exact ⟨q+1,_,rfl,HQ.out,by congr 1,by rw [HDN.out,n2],rfl,by rw [HNX.out];exact HN5⟩
           | true =>
             obtain ⟨n1,n2⟩:=HNW.out hdq hl
             have HSA:Hid (∀ o W5 v5,(wr.alloc o).grownBy W5 v.ownBlock->W5.ownsRow w3.heap.size 175 3 v5 (lq.length+1) (ckC lq++[.string nm,.string t,.int .i64 0])->zdJ w (.slice (some ⟨b,off,none⟩) C.length cA) (.slice aL L.length cL) w3.heap.size C v5 (lq++[(nm,t,0)]) W5):=Hd λ o W5 v5 hg h5=>zdJ.snoc (c:=(nm,t,0)) HI.out o hg h5
             have HSN:Hid (∀ Y v0 o W5 v5,zdJ w (.slice (some ⟨b,off,none⟩) C.length cA) (.slice aL L.length cL) w3.heap.size C v0 (lq++[(nm,t,0)]) Y->(Y.alloc o).grownBy W5 v0.ownBlock->W5.ownsRow w3.heap.size 175 3 v5 (lq.length+1+1) (ckC (lq++[(nm,t,0)])++[.string i1,.string i2,.int .i64 n3])->zdJ w (.slice (some ⟨b,off,none⟩) C.length cA) (.slice aL L.length cL) w3.heap.size C v5 nx W5):=Hd λ Y v0 o W5 v5 hY hg h5=>by
              rw [n1]
              refine zdJ.snoc (c:=(i1,i2,n3)) hY o hg ?_
              rw [zLa,List.length_singleton];exact h5
             have hlb:Op.bytesLess nm.toList i1.toList=true:=hl
             clear n1 HI HYS HNW HNO hdq hl
             go_wp2_with (first
              | (refine zeA 49 49 ⟨_,_,by with_reducible rfl⟩ ?_
                 refine zag (by rfl) _ _ _ rfl w3.heap.size 175 jC _ 3 40 Tryz.underlying49 hjC hC0 hC1 hC2 rfl (by decide) _ _ _ (by rfl) (HO6.out.alloc _) _ 1 _ (by rfl) (zai _ #[.string i1,.string i2,.int .i64 n3] _ 1 1) rfl (zpk _ _ _ rfl rfl rfl) L2.out.1 L2.out.2 (HZ6.out _) ?_
                 intro v5 W5 ho5 hg5 ha5
                 have HN5:=Hd (HSN.out _ _ _ W5 v5 HI6.out hg5 ho5)
                 clear ho5 hg5 ha5)
              | (refine zeA 49 49 ⟨_,_,by with_reducible rfl⟩ ?_
                 refine zag (by rfl) _ _ _ rfl w3.heap.size 175 jC _ 3 40 Tryz.underlying49 hjC hC0 hC1 hC2 rfl (by decide) _ _ _ (by rfl) (HO.out.alloc _) _ 1 _ (by rfl) (zai _ #[.string nm,.string t,.int .i64 0] _ 1 1) rfl (zpk _ _ _ rfl rfl rfl) L1.out.1 L1.out.2 (HZ.out _) ?_
                 intro v6 W6 ho6 hg6 ha6
                 have HI6:=Hd (HSA.out _ W6 v6 hg6 ho6)
                 have HO6:Hid (W6.ownsRow w3.heap.size 175 3 v6 (lq.length+1) (ckC (lq++[(nm,t,0)]))):=Hd (by have:=HI6.out.row;rwa [zLa,List.length_singleton] at this)
                 have HZ6:Hid (∀ o:Obj,w3.heap.size<=(W6.alloc o).heap.size):=Hd λ o=>by have:=HI6.out.lo.2;simp;omega
                 obtain ⟨cl0,cl1,cl2⟩:=HCK.out W6 HI6.out.box.bel
                 obtain ⟨y0,y1,y2,y3,y4⟩:=HI6.out.box.cells
                 clear ho6 hg6 ha6))
             go_roundg (C.length-(q+1))
             case measure=>have:=HQ.out;omega
             case rel=>exact ⟨q+1,_,rfl,HQ.out,by congr 1,by rw [HDN.out,n2],rfl,by rw [HNX.out];exact HN5⟩
        ·obtain rfl:q=C.length:=by omega
         have HEN:=zoL (C:=C) (c:=(nm,t,0))
         have HNP:Hid (0<(zf4 C (nm,t,0)).length/\(zf4 C (nm,t,0)).length<=100001):=Hd (by rw [zfV];omega)
         obtain ⟨lf,hlf⟩:=exE (zf4 C (nm,t,0))
         rw [hlf] at HE HEN HNP
         obtain ⟨lq,hlq⟩:=exE (zgx C (nm,t,0) C.length)
         rw [hlq] at HI HEN
         cases hdq:zbI (C.take C.length) (nm,t,0) with
         | true =>
           obtain rfl:=HEN.1 hdq
           obtain ⟨g5,c5,rfl,k5⟩:=zdF HI.out.row HNP.out.1
           have hB6:=HI.out.box.set (.slice (some ⟨g5,0,none⟩) lq.length c5)
           obtain ⟨z0,z1,z2,z3,z4⟩:=hB6.cells
           obtain ⟨r0,r1,r2,r3,r4⟩:=hB6.res
           obtain ⟨o1,o2,o3,o4,o5⟩:=hB6.out (.slice (some ⟨g5,0,none⟩) lq.length c5) (.slice aL L.length cL)
           have HG:=Hd (And.intro (And.intro (StR.put5 (HVL.out.below o5) (zaB.own HI.out.row) (Nat.le_trans HI.out.lo.1 k5)) o5) (λ D (hD:zau D (.agg #[.slice aA C.length cA,.slice aL L.length cL]))=>zau.newA (n:=lq.length) (c5:=c5) hD (Nat.le_trans (Nat.le_add_right _ 2) (Nat.le_trans HI.out.lo.1 k5))))
           clear hB6 o5 k5 HI HEN hlf hlq HNP hq hlt3
           go_wp2_with fail
           (try simp only [Exit.inBlock,Exit.then])
           refine bodyPost_ret (v:=.tuple #[.agg #[.slice (some ⟨g5,0,none⟩) lq.length c5,.slice aL L.length cL],.string nm,.bool true,.int .i64 0]) ?_ rfl ⟨_,by rw [HE.out],by rw [HE.out];exact HG⟩
           rw [zaO rfl]
           go_simp
         | false =>
           have HLF:=Hd (HEN.2 hdq)
           have HO:=Hd HI.out.row
           have HZ:Hid (∀ o:Obj,w3.heap.size<=(wr.alloc o).heap.size):=Hd λ o=>by have:=HI.out.lo.2;simp;omega
           have HL1:lf.length=lq.length+1:=by rw [<-HLF.out];simp
           have L1:=Hd (show lq.length+1<=maxLen/\(lq.length+1)*40<=140737488355328 from ⟨by have:=HNP.out;unfold maxLen;omega,by have:=HNP.out;omega⟩)
           have HSA:Hid (∀ o W5 v5,(wr.alloc o).grownBy W5 v.ownBlock->W5.ownsRow w3.heap.size 175 3 v5 (lq.length+1) (ckC lq++[.string nm,.string t,.int .i64 0])->zdJ w (.slice aA C.length cA) (.slice aL L.length cL) w3.heap.size C v5 lf W5):=Hd λ o W5 v5 hg h5=>by
            rw [<-HLF.out];exact zdJ.snoc (c:=(nm,t,0)) HI.out o hg h5
           have HLO:=Hd HI.out.lo.1
           clear HI HEN hlf hlq HL1 hdq
           go_wp2_with (first
            | (refine zeA 49 49 ⟨_,_,by with_reducible rfl⟩ ?_
               refine zag (by rfl) _ _ _ rfl w3.heap.size 175 jC _ 3 40 Tryz.underlying49 hjC hC0 hC1 hC2 rfl (by decide) _ _ _ (by rfl) (HO.out.alloc _) _ 1 _ (by rfl) (zai _ #[.string nm,.string t,.int .i64 0] _ 1 1) rfl (zpk _ _ _ rfl rfl rfl) L1.out.1 L1.out.2 (HZ.out _) ?_
               intro v5 W5 ho5 hg5 ha5
               have hI5:=HSA.out _ W5 v5 hg5 ho5
               clear ho5 hg5 ha5
               obtain ⟨g5,c5,rfl,k5⟩:=zdF hI5.row HNP.out.1
               obtain ⟨y0,y1,y2,y3,y4⟩:=hI5.box.cells
               have hB6:=hI5.box.set (.slice (some ⟨g5,0,none⟩) lf.length c5)
               obtain ⟨z0,z1,z2,z3,z4⟩:=hB6.cells
               obtain ⟨r0,r1,r2,r3,r4⟩:=hB6.res
               obtain ⟨o1,o2,o3,o4,o5⟩:=hB6.out (.slice (some ⟨g5,0,none⟩) lf.length c5) (.slice aL L.length cL)
               have HG:=Hd (And.intro (And.intro (StR.put5 (HVL.out.below o5) (zaB.own hI5.row) (Nat.le_trans HLO.out k5)) o5) (λ D (hD:zau D (.agg #[.slice aA C.length cA,.slice aL L.length cL]))=>zau.newA (n:=lf.length) (c5:=c5) hD (Nat.le_trans (Nat.le_add_right _ 2) (Nat.le_trans HLO.out k5))))
               clear hB6 o5 k5 hI5))
           (try simp only [Exit.inBlock,Exit.then])
           refine bodyPost_ret (v:=.tuple #[.agg #[.slice (some ⟨g5,0,none⟩) lf.length c5,.slice aL L.length cL],.string nm,.bool true,.int .i64 0]) ?_ rfl ⟨_,by rw [HE.out],by rw [HE.out];exact HG⟩
           rw [zaO rfl]
           go_simp
    ·obtain rfl:k=256:=by omega
     have HE:=Hd (show zew C t=(C,⟨#[]⟩,false,4) by
      exact zna HT.out.1 HT.out.2 (by rw [HPP.out];exact HNH.out) (by rw [HPP.out];exact HI.out.1))
     obtain ⟨x0,x1,x2,x3,x4⟩:=HI.out.2.cells
     obtain ⟨r0,r1,r2,r3,r4⟩:=HI.out.2.res
     obtain ⟨o1,o2,o3,o4,o5⟩:=HI.out.2.out (.slice aA C.length cA) (.slice aL L.length cL)
     have HG:=Hd (And.intro (And.intro (HST.out.below o5) o5) (λ D (hD:zau D (.agg #[.slice aA C.length cA,.slice aL L.length cL]))=>hD.mono (D':=λ b=>D b\/w.heap.size<=b) λ b hb=>Or.inl hb))
     clear o5 HI hk hlt
     go_wp2_with fail
     (try simp only [Exit.inBlock,Exit.then])
     refine bodyPost_ret (v:=.tuple #[.agg #[.slice aA C.length cA,.slice aL L.length cL],.string ⟨#[]⟩,.bool false,.int .i64 4]) ?_ rfl ⟨_,by rw [HE.out],by rw [HE.out];exact HG⟩
     rw [zaO rfl]
     go_simp
theorem StR.form {w:World} {v:Value} {C:List RCk} {L:List REn} (h:StR w v C L):∃ a c b d,v=.agg #[.slice a C.length c,.slice b L.length d]:=by
 obtain ⟨va,vl,rfl,h2,h3⟩:=h
 obtain ⟨a,c,rfl,-⟩:=h2.form
 obtain ⟨b,d,rfl,-⟩:=h3.form
 exact ⟨a,c,b,d,rfl⟩
end Go.Proofs.YtdcjhpafipbpkaaGreatDoor
