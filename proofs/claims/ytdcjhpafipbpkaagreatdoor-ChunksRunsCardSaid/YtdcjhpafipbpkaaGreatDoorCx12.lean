/- Parts of the proof of ChunksRuns,joined: ChkP,ChkC,ChkD,ChkE,ChkF,ChkG,ChkH,ChkI,ChkJ,ChkK,ChkL,ChkM,ChkN,ChkO,ChkQ. No condition. -/
import Derived.Test.YtdcjhpafipbpkaaGreatDoorCx11
set_option linter.unusedSimpArgs false
set_option linter.unusedVariables false
set_option linter.unusedSectionVars false
namespace Go.Proofs.YtdcjhpafipbpkaaGreatDoor
set_option maxRecDepth 100000
set_option maxHeartbeats 1000000
open Go.RowKit
def sgn64 (i:Int):Nat:=(i % 18446744073709551616).toNat
theorem sgn64_lt (i:Int):sgn64 i < 18446744073709551616:=by unfold sgn64; omega
theorem sgn64_wrap (i:Int):IntKind.u64.wrap i=(sgn64 i:Int):=by
 unfold sgn64
 simp [IntKind.wrap,IntKind.bits,IntKind.signed]
 omega
theorem sgn64_back (i:Int) (h1:-4611686018427387904 <= i) (h2:i <= 4611686018427387904):IntKind.i64.wrap (sgn64 i:Int)=i:=by
 unfold sgn64
 simp [IntKind.wrap,IntKind.bits,IntKind.signed]
 omega
structure Ck where
 id:ByteArray
 page:Nat
 cnt:Int
 text:ByteArray
def kindsC:ByteArray:=⟨#[104,98,110]⟩
def Ck.flds (c:Ck):List Fld:=[(c.page,⟨#[]⟩),(c.text.size,⟨#[]⟩),(sgn64 c.cnt,⟨#[]⟩)]
def Ck.bytes (c:Ck):List UInt8:=be c.page 4 ++ (be c.text.size 1 ++ be (sgn64 c.cnt) 8)
def Ck.val (c:Ck):ByteArray:=⟨c.bytes.toArray⟩
structure Ck.Ok (c:Ck):Prop where
 id:c.id.size=33
 page:c.page < 65536
 t1:1 <= c.text.size
 t2:c.text.size <= 128
 c1:-1000000000 <= c.cnt
 c2:c.cnt <= 1000000000
theorem ck_one (n:Nat) (h:n < 256):wr1 98 (n,⟨#[]⟩)=some (be n 1):=by
 rw [wr1_num 98 1 n ⟨#[]⟩ (by decide) (by decide)]
 rw [if_neg]; rintro (e | e)
 ·exact e rfl
 ·omega
theorem ck_four (n:Nat) (h:n < 4294967296):wr1 104 (n,⟨#[]⟩)=some (be n 4):=by
 rw [wr1_num 104 4 n ⟨#[]⟩ (by decide) (by decide)]
 rw [if_neg]; rintro (e | e)
 ·exact e rfl
 ·omega
theorem ck_eight (n:Nat) (h:n < 18446744073709551616):wr1 110 (n,⟨#[]⟩)=some (be n 8):=by
 rw [wr1_num 110 8 n ⟨#[]⟩ (by decide) (by decide)]
 rw [if_neg]; rintro (e | e)
 ·exact e rfl
 ·rw [p256] at e; omega
theorem Ck.write {c:Ck} (h:c.Ok):writeL kindsC.data.toList c.flds=some c.bytes:=by
 have h1:=h.page
 have h2:=h.t2
 rw [writeL_yes (by decide) rfl]
 show wrL [104,98,110] [(c.page,⟨#[]⟩),(c.text.size,⟨#[]⟩),(sgn64 c.cnt,⟨#[]⟩)]=_
 simp only [wrL,ck_four c.page (by omega),ck_one c.text.size (by omega),ck_eight _ (sgn64_lt c.cnt),Option.map_some,List.append_nil,Ck.bytes]
theorem Ck.read {c:Ck} (h:c.Ok):readF kindsC.data.toList c.val=some c.flds:=by
 refine read_write (fun p hp=>?_) (Ck.write h)
 have h1:=h.page
 have h2:=h.t2
 have h3:=sgn64_lt c.cnt
 simp only [Ck.flds,List.mem_cons,List.not_mem_nil,or_false] at hp
 rcases hp with rfl | rfl | rfl <;> simp <;> omega
theorem Ck.val_size (c:Ck):c.val.size <= 56:=by
 rw [Lib.size_eq]
 show c.bytes.length <= 56
 simp only [Ck.bytes,List.length_append,be_length]; omega
def encC (c:Ck):ByteArray × ByteArray:=(c.id,c.val)
structure CRel (E:List (ByteArray × ByteArray)) (C:List Ck):Prop where
 eq:E=C.map encC
 ok:∀ c ∈ C,c.Ok
def cAt (C:List Ck) (s:ByteArray):Option Ck:=C.find? fun c=>decide (c.id=s)
theorem cAt_some {C:List Ck} {s:ByteArray} {c:Ck} (h:cAt C s=some c):c ∈ C /\ c.id=s:=by
 have:=List.find?_some h
 exact ⟨List.mem_of_find?_eq_some h,by simpa using this⟩
theorem cAt_none {C:List Ck} {s:ByteArray} (h:cAt C s=none):∀ c ∈ C,c.id ≠ s:=by
 have:=List.find?_eq_none.1 h
 intro c hc e; exact this c hc (by simp [e])
theorem cAt_no {C:List Ck} {s:ByteArray} (h:∀ c ∈ C,c.id ≠ s):cAt C s=none:=by
 unfold cAt
 rw [List.find?_eq_none]
 intro c hc; simp [h c hc]
theorem srt_one {E:List (ByteArray × ByteArray)} (h:Srt E) {k v v':ByteArray} (h1:(k,v) ∈ E) (h2:(k,v') ∈ E):v=v':=by
 obtain ⟨A,B,rfl⟩:=List.append_of_mem h1
 obtain ⟨-,s2,s3⟩:=srt_of h
 rcases List.mem_append.1 h2 with h2 | h2
 ·exact absurd rfl (kless_ne (s2 (k,v') h2))
 ·rcases List.mem_cons.1 h2 with h2 | h2
  ·cases h2; rfl
  ·exact absurd rfl (kless_ne (s3 (k,v') h2))
theorem CRel.got {E:List (ByteArray × ByteArray)} {C:List Ck} {s v:ByteArray} {ok:Bool} (h:CRel E C) (hs:Srt E) (g:Got s E v ok) :
 (∃ c,cAt C s=some c /\ c.Ok /\ ok=true /\ v=c.val) \/ (cAt C s=none /\ ok=false):=by
 rcases g with ⟨hk,hm⟩ | ⟨hk,-,hm⟩
 ·left
  have hm2:=hm
  rw [h.eq] at hm2
  obtain ⟨c0,hc0,e0⟩:=List.mem_map.1 hm2
  have e1:c0.id=s:=congrArg Prod.fst e0
  cases hf:cAt C s with
  | none=>exact absurd e1 (cAt_none hf c0 hc0)
  | some c =>
    obtain ⟨h1,h2⟩:=cAt_some hf
    refine ⟨c,rfl,h.ok c h1,hk,?_⟩
    have:(s,c.val) ∈ E:=by
     rw [h.eq]; exact List.mem_map.2 ⟨c,h1,by unfold encC; rw [h2]⟩
    exact srt_one hs hm this
 ·right
  exact ⟨cAt_no fun c hc e=>hm (encC c) (by rw [h.eq]; exact List.mem_map.2 ⟨c,hc,rfl⟩) e,hk⟩
def PutC (c:Ck) (C C':List Ck):Prop:=∃ A B,C'=A ++ c :: B /\ (C=A ++ B \/ ∃ c0,c0.id=c.id /\ C=A ++ c0 :: B) /\ (∀ a ∈ A,kless a.id c.id=true) /\ ∀ b ∈ B,kless c.id b.id=true
theorem CRel.ins {E E':List (ByteArray × ByteArray)} {C:List Ck} {c:Ck} (h:CRel E C) (hc:c.Ok) (hi:Ins c.id c.val E E'):∃ C',CRel E' C' /\ PutC c C C':=by
 obtain ⟨A,B,rfl,h',hA,hB⟩:=hi
 obtain ⟨heq,hok⟩:=h
 rcases h' with h' | ⟨v,h'⟩
 ·rw [heq] at h'
  obtain ⟨A1,C1,rfl,rfl,rfl⟩:=List.map_eq_append_iff.1 h'
  refine ⟨A1 ++ c :: C1,⟨by simp [encC],fun x hx=>?_⟩,A1,C1,rfl,.inl rfl,fun a ha=>hA (encC a) (List.mem_map.2 ⟨a,ha,rfl⟩),fun b hb=>hB (encC b) (List.mem_map.2 ⟨b,hb,rfl⟩)⟩
  simp only [List.mem_append,List.mem_cons] at hx
  rcases hx with hx | rfl | hx
  ·exact hok x (by simp [hx])
  ·exact hc
  ·exact hok x (by simp [hx])
 ·rw [heq] at h'
  obtain ⟨A1,C0,rfl,rfl,h2⟩:=List.map_eq_append_iff.1 h'
  obtain ⟨b0,C1,rfl,h3,rfl⟩:=List.map_eq_cons_iff.1 h2
  refine ⟨A1 ++ c :: C1,⟨by simp [encC],fun x hx=>?_⟩,A1,C1,rfl,.inr ⟨b0,congrArg Prod.fst h3,rfl⟩,fun a ha=>hA (encC a) (List.mem_map.2 ⟨a,ha,rfl⟩),fun b hb=>hB (encC b) (List.mem_map.2 ⟨b,hb,rfl⟩)⟩
  simp only [List.mem_append,List.mem_cons] at hx
  rcases hx with hx | rfl | hx
  ·exact hok x (by simp [hx])
  ·exact hc
  ·exact hok x (by simp [hx])
def DelC (s:ByteArray) (C C':List Ck):Prop:=∃ A B c,c.id=s /\ C=A ++ c :: B /\ C'=A ++ B
theorem CRel.del {E E':List (ByteArray × ByteArray)} {C:List Ck} {s:ByteArray} (h:CRel E C) (hd:Del s E E'):∃ C',CRel E' C' /\ DelC s C C':=by
 obtain ⟨A,B,v,rfl,rfl⟩:=hd
 obtain ⟨heq,hok⟩:=h
 obtain ⟨A1,C0,rfl,rfl,h2⟩:=List.map_eq_append_iff.1 heq.symm
 obtain ⟨b0,C1,rfl,h3,rfl⟩:=List.map_eq_cons_iff.1 h2
 refine ⟨A1 ++ C1,⟨by simp,fun x hx=>hok x ?_⟩,A1,C1,b0,congrArg Prod.fst h3,rfl,rfl⟩
 rcases List.mem_append.1 hx with hx | hx <;> simp [hx]
def CSrt (C:List Ck):Prop:=C.Pairwise fun a b=>kless a.id b.id=true
theorem CRel.srt {E:List (ByteArray × ByteArray)} {C:List Ck} (h:CRel E C) (hs:Srt E):CSrt C:=by
 obtain ⟨rfl,-⟩:=h
 exact List.pairwise_map.1 hs
theorem CSrt.uniq {C:List Ck} (h:CSrt C) {a b:Ck} (ha:a ∈ C) (hb:b ∈ C) (e:a.id=b.id):a=b:=by
 obtain ⟨A,B,rfl⟩:=List.append_of_mem ha
 obtain ⟨-,h2,h3⟩:=List.pairwise_append.1 h
 obtain ⟨h4,-⟩:=List.pairwise_cons.1 h2
 rcases List.mem_append.1 hb with hb | hb
 ·exact absurd e.symm (kless_ne (h3 b hb a (by simp)))
 ·rcases List.mem_cons.1 hb with hb | hb
  ·exact hb.symm
  ·exact absurd e (kless_ne (h4 b hb))
theorem cAt_of {C:List Ck} (h:CSrt C) {c:Ck} (hc:c ∈ C):cAt C c.id=some c:=by
 cases hf:cAt C c.id with
 | none=>exact absurd rfl (cAt_none hf c hc)
 | some d =>
   obtain ⟨h1,h2⟩:=cAt_some hf
   rw [h.uniq h1 hc h2]
structure Lg where
 n:Nat
 up:Bool
 id:ByteArray
def Lg.by (e:Lg):Int:=if e.up then 1 else -1
def sgB (b:Bool):Nat:=if b then 1 else 0
def kindsL:ByteArray:=⟨#[98,114]⟩
def lkey (n:Nat):ByteArray:=⟨(be n 8).toArray⟩
def Lg.flds (e:Lg):List Fld:=[(sgB e.up,⟨#[]⟩),(0,e.id)]
def Lg.bytes (e:Lg):List UInt8:=be (sgB e.up) 1 ++ e.id.data.toList
def Lg.val (e:Lg):ByteArray:=⟨e.bytes.toArray⟩
structure Lg.Ok (e:Lg):Prop where
 n:e.n < 1000000000
 id:e.id.size=33
theorem Lg.write (e:Lg):writeL kindsL.data.toList e.flds=some e.bytes:=by
 have h1:sgB e.up < 256:=by unfold sgB; split <;> omega
 rw [writeL_yes (by decide) rfl]
 show wrL [98,114] [(sgB e.up,⟨#[]⟩),(0,e.id)]=_
 simp only [wrL,ck_one _ h1,wr1_r 114 0 e.id (by decide) (by decide) rfl,Option.map_some,List.append_nil,Lg.bytes]
theorem Lg.read (e:Lg):readF kindsL.data.toList e.val=some e.flds:=by
 refine read_write (fun p hp=>?_) (Lg.write e)
 have h1:sgB e.up < 256:=by unfold sgB; split <;> omega
 simp only [Lg.flds,List.mem_cons,List.not_mem_nil,or_false] at hp
 rcases hp with rfl | rfl <;> simp <;> omega
theorem Lg.val_size {e:Lg} (h:e.Ok):e.val.size <= 56:=by
 have:=h.id
 rw [Lib.size_eq] at this
 rw [Lib.size_eq]
 show e.bytes.length <= 56
 simp only [Lg.bytes,List.length_append,be_length]; omega
theorem lkey_size (n:Nat):(lkey n).size=8:=by
 rw [Lib.size_eq]; exact be_length n 8
theorem lkey_less {n m:Nat} (hn:n < 1000000000) (hm:m < 1000000000):kless (lkey n) (lkey m)=decide (n < m):=by
 unfold kless lkey
 rw [Lib.toList_data,Lib.toList_data]
 exact bytesLess_be 8 n m (by rw [p256]; omega) (by rw [p256]; omega)
theorem lkey_write (n:Nat) (h:n < 1000000000):writeL [110] [(n,⟨#[]⟩)]=some (be n 8):=by
 rw [writeL_yes (by decide) rfl]
 simp only [wrL,ck_eight n (by omega),Option.map_some,List.append_nil]
def encL (e:Lg):ByteArray × ByteArray:=(lkey e.n,e.val)
structure GRel (E:List (ByteArray × ByteArray)) (L:List Lg) (nx:Nat):Prop where
 eq:E=L.map encL
 ok:∀ e ∈ L,e.Ok /\ e.n < nx
theorem GRel.put {E E':List (ByteArray × ByteArray)} {L:List Lg} {nx:Nat} {e:Lg} (h:GRel E L nx) (he:e.n=nx) (hk:e.Ok) (hi:Ins (lkey e.n) e.val E E'):GRel E' (L ++ [e]) (nx + 1):=by
 have hlt:∀ x ∈ E,kless x.1 (lkey e.n)=true:=fun x hx=>by
  rw [h.eq] at hx
  obtain ⟨y,hy,rfl⟩:=List.mem_map.1 hx
  obtain ⟨h1,h2⟩:=h.ok y hy
  show kless (lkey y.n) (lkey e.n)=true
  rw [lkey_less h1.n hk.n]; simp; omega
 obtain ⟨A,B,rfl,h',hA,hB⟩:=hi
 have hB0:B=[]:=by
  cases B with
  | nil=>rfl
  | cons b B =>
    exfalso
    have h1:=hB b (by simp)
    have h2:=hlt b (by rcases h' with rfl | ⟨v,rfl⟩ <;> simp)
    rw [kless_asymm h1] at h2; cases h2
 subst hB0
 have hE:E=A:=by
  rcases h' with h' | ⟨v,h'⟩
  ·simpa using h'
  ·exfalso
   have:=hlt (lkey e.n,v) (by rw [h']; simp)
   rw [kless_irrefl] at this; cases this
 subst hE
 refine ⟨by rw [List.map_append,<- h.eq]; rfl,fun y hy=>?_⟩
 rcases List.mem_append.1 hy with hy | hy
 ·have:=h.ok y hy; exact ⟨this.1,by omega⟩
 ·simp at hy; subst hy; exact ⟨hk,by omega⟩
theorem GRel.del {E E':List (ByteArray × ByteArray)} {L:List Lg} {nx:Nat} {e:Lg} (h:GRel E (e :: L) nx) (hs:Srt E) (hd:Del (lkey e.n) E E'):GRel E' L nx:=by
 obtain ⟨A,B,v,hE,rfl⟩:=hd
 have h1:=h.eq
 rw [hE] at h1
 have hA:A=[]:=by
  cases A with
  | nil=>rfl
  | cons a A =>
    exfalso
    rw [List.map_cons,List.cons_append] at h1
    have ha:a=encL e:=(List.cons.inj h1).1
    rw [hE] at hs
    have:=(srt_of hs).2.1 a (by simp)
    rw [ha] at this
    have hn:kless (lkey e.n) (lkey e.n)=true:=this
    rw [kless_irrefl] at hn; cases hn
 subst hA
 rw [List.map_cons,List.nil_append] at h1
 refine ⟨by rw [List.nil_append]; exact (List.cons.inj h1).2,fun y hy=>h.ok y (by simp [hy])⟩
def nameB (p:ByteArray) (k:Nat):ByteArray:=p ++ ⟨#[UInt8.ofNat k]⟩
theorem nameB_size (p:ByteArray) (k:Nat):(nameB p k).size=p.size + 1:=by
 unfold nameB; rw [ByteArray.size_append]; rfl
theorem nameB_data (p:ByteArray) (k:Nat):(nameB p k).data.toList=p.data.toList ++ [UInt8.ofNat k]:=by
 unfold nameB; simp
theorem wtO_hgt {S:RS} {place k a:Nat} {o:Option TT} (h:TreeSt S place o) (hw:wtO o <= a) (ha:a < 2 ^ k):hgtO o <= k:=by
 cases o with
 | none=>exact Nat.zero_le _
 | some T=>exact wt_hgt h.2.pos (Nat.lt_of_le_of_lt hw ha)
theorem TreeSt.used {S:RS} {place:Nat} {o:Option TT} (h:TreeSt S place o):∀ q ∈ pgsO o,S.used q=true:=by
 cases o with
 | none=>intro q hq; cases hq
 | some T=>exact h.2.on.used
theorem TreeSt.nodC {S:RS} {place:Nat} {o:Option TT} (h:TreeSt S place o):(pgsO o).Nodup:=by
 cases o with
 | none=>exact List.nodup_nil
 | some T=>exact h.2.nod
theorem TreeSt.keep {S S':RS} {place:Nat} {o:Option TT} (h:TreeSt S place o) (hr:S'.root place=S.root place) (hq:∀ q ∈ pgsO o,S'.used q=S.used q /\ S'.cont q=S.cont q):TreeSt S' place o:=by
 cases o with
 | none=>exact hr.trans h
 | some T=>exact ⟨hr.trans h.1,h.2.frame hq⟩
structure TwoM (S:RS) (n c:Nat) (o0 o1:Option TT) (a0 a1:Nat) (X:List (Nat × ByteArray)):Prop where
 t0:TreeSt S 0 o0
 t1:TreeSt S 1 o1
 sp:Spare S n c
 w0:wtO o0 <= a0
 w1:wtO o1 <= a1
 pg:∀ x ∈ X,S.used x.1=true /\ S.cont x.1=pad (pgB x.2)
 nd:(pgsO o0 ++ (pgsO o1 ++ X.map Prod.fst)).Nodup
 al:∀ q,S.used q=true -> q ∈ pgsO o0 ++ (pgsO o1 ++ X.map Prod.fst)
section
variable {S S':RS} {n c a0 a1:Nat} {o0 o1 o':Option TT} {X:List (Nat × ByteArray)}
theorem TwoM.less {c' b0 b1:Nat} (h:TwoM S n c o0 o1 a0 a1 X) (hc:c' <= c) (h0:a0 <= b0) (h1:a1 <= b1):TwoM S n c' o0 o1 b0 b1 X :=
 ⟨h.t0,h.t1,h.sp.less hc,Nat.le_trans h.w0 h0,Nat.le_trans h.w1 h1,h.pg,h.nd,h.al⟩
theorem TwoM.hgt0 (h:TwoM S n c o0 o1 a0 a1 X) (ha:a0 < 524288):hgtO o0 <= 19:=wtO_hgt h.t0 h.w0 (by omega)
theorem TwoM.hgt1 (h:TwoM S n c o0 o1 a0 a1 X) (ha:a1 < 524288):hgtO o1 <= 19:=wtO_hgt h.t1 h.w1 (by omega)
theorem TwoM.srt0 (h:TwoM S n c o0 o1 a0 a1 X):Srt (entsO o0):=srt_o h.t0
theorem TwoM.srt1 (h:TwoM S n c o0 o1 a0 a1 X):Srt (entsO o1):=srt_o h.t1
theorem TwoM.parts (h:TwoM S n c o0 o1 a0 a1 X):(∀ q ∈ pgsO o1,q ∉ pgsO o0) /\ (∀ x ∈ X,x.1 ∉ pgsO o0) /\ (∀ q ∈ pgsO o0,q ∉ pgsO o1) /\ (∀ x ∈ X,x.1 ∉ pgsO o1):=by
 obtain ⟨h1,h2,h3⟩:=List.nodup_append.1 h.nd
 obtain ⟨h4,h5,h6⟩:=List.nodup_append.1 h2
 exact ⟨fun q hq e=>h3 q e q (by simp [hq]) rfl,fun x hx e=>h3 x.1 e x.1 (by simp only [List.mem_append,List.mem_map]; exact .inr ⟨x,hx,rfl⟩) rfl,fun q hq e=>h3 q hq q (by simp [e]) rfl,fun x hx e=>h6 x.1 e x.1 (List.mem_map.2 ⟨x,hx,rfl⟩) rfl⟩
theorem TwoM.go0 {c' b0:Nat} (h:TwoM S n c o0 o1 a0 a1 X) (g:MapGo 0 n S S' o0 o') (hs:Spare S' n c') (hw:wtO o' <= b0):TwoM S' n c' o' o1 b0 a1 X:=by
 obtain ⟨p1,p2,p3,p4⟩:=h.parts
 have k1:∀ q ∈ pgsO o1,q ∉ pgsO o' /\ S'.used q=true /\ S'.cont q=S.cont q:=fun q hq=>g.frm.keep q (p1 q hq) (h.t1.used q hq)
 have k2:∀ x ∈ X,x.1 ∉ pgsO o' /\ S'.used x.1=true /\ S'.cont x.1=S.cont x.1:=fun x hx=>g.frm.keep x.1 (p2 x hx) (h.pg x hx).1
 obtain ⟨-,n2,-⟩:=List.nodup_append.1 h.nd
 refine ⟨g.st,h.t1.keep (g.frm.root 1 (by decide)) fun q hq=>⟨(k1 q hq).2.1.trans (h.t1.used q hq).symm,(k1 q hq).2.2⟩,hs,hw,h.w1,fun x hx=>⟨(k2 x hx).2.1,(k2 x hx).2.2.trans (h.pg x hx).2⟩,List.nodup_append.2 ⟨(TreeSt.nodC g.st),n2,fun a ha b hb e=>?_⟩,fun q hq=>?_⟩
 ·subst e
  rcases List.mem_append.1 hb with hb | hb
  ·exact (k1 a hb).1 ha
  ·obtain ⟨x,hx,rfl⟩:=List.mem_map.1 hb
   exact (k2 x hx).1 ha
 ·rcases g.frm.back q hq with h1 | ⟨h1,h2⟩
  ·exact List.mem_append_left _ h1
  ·rcases List.mem_append.1 (h.al q h1) with h3 | h3
   ·exact absurd h3 h2
   ·exact List.mem_append_right _ h3
theorem TwoM.go1 {c' b1:Nat} (h:TwoM S n c o0 o1 a0 a1 X) (g:MapGo 1 n S S' o1 o') (hs:Spare S' n c') (hw:wtO o' <= b1):TwoM S' n c' o0 o' a0 b1 X:=by
 obtain ⟨p1,p2,p3,p4⟩:=h.parts
 have k1:∀ q ∈ pgsO o0,q ∉ pgsO o' /\ S'.used q=true /\ S'.cont q=S.cont q:=fun q hq=>g.frm.keep q (p3 q hq) (h.t0.used q hq)
 have k2:∀ x ∈ X,x.1 ∉ pgsO o' /\ S'.used x.1=true /\ S'.cont x.1=S.cont x.1:=fun x hx=>g.frm.keep x.1 (p4 x hx) (h.pg x hx).1
 obtain ⟨n1,n2,n3⟩:=List.nodup_append.1 h.nd
 obtain ⟨n4,n5,n6⟩:=List.nodup_append.1 n2
 refine ⟨h.t0.keep (g.frm.root 0 (by decide)) fun q hq=>⟨(k1 q hq).2.1.trans (h.t0.used q hq).symm,(k1 q hq).2.2⟩,g.st,hs,h.w0,hw,fun x hx=>⟨(k2 x hx).2.1,(k2 x hx).2.2.trans (h.pg x hx).2⟩,List.nodup_append.2 ⟨n1,List.nodup_append.2 ⟨(TreeSt.nodC g.st),n5,fun a ha b hb e=>?_⟩,fun a ha b hb e=>?_⟩,fun q hq=>?_⟩
 ·subst e
  obtain ⟨x,hx,rfl⟩:=List.mem_map.1 hb
  exact (k2 x hx).1 ha
 ·subst e
  rcases List.mem_append.1 hb with hb | hb
  ·exact (k1 a ha).1 hb
  ·exact n3 a ha a (List.mem_append_right _ hb) rfl
 ·rcases g.frm.back q hq with h1 | ⟨h1,h2⟩
  ·exact List.mem_append_right _ (List.mem_append_left _ h1)
  ·rcases List.mem_append.1 (h.al q h1) with h3 | h3
   ·exact List.mem_append_left _ h3
   ·rcases List.mem_append.1 h3 with h4 | h4
    ·exact absurd h4 h2
    ·exact List.mem_append_right _ (List.mem_append_right _ h4)
theorem TwoM.blob {p:Nat} {s:ByteArray} (h:TwoM S n (c + 1) o0 o1 a0 a1 X) (hu:S.used p=false):TwoM (blobS S p s) n c o0 o1 a0 a1 ((p,s) :: X):=by
 have hp:∀ q,S.used q=true -> q ≠ p:=fun q hq e=>by rw [e,hu] at hq; cases hq
 have ku:∀ q,S.used q=true -> (blobS S p s).used q=true /\ (blobS S p s).cont q=S.cont q:=fun q hq=>by
  have:=hp q hq
  refine ⟨?_,?_⟩
  ·show flip S.used p q=true
   unfold flip; rw [if_neg this,hq]
  ·show (if q=p then _ else if q=p then _ else S.cont q)=S.cont q
   rw [if_neg this,if_neg this]
 have hpu:(blobS S p s).used p=true:=by
  show flip S.used p p=true
  unfold flip; rw [if_pos rfl,hu]; rfl
 have hpc:(blobS S p s).cont p=pad (pgB s):=by
  show (if p=p then _ else _)=_
  rw [if_pos rfl]
 obtain ⟨n1,n2,n3⟩:=List.nodup_append.1 h.nd
 obtain ⟨n4,n5,n6⟩:=List.nodup_append.1 n2
 have hX:∀ q ∈ X.map Prod.fst,q ≠ p:=fun q hq=>by
  obtain ⟨x,hx,rfl⟩:=List.mem_map.1 hq
  exact hp _ (h.pg x hx).1
 refine ⟨h.t0.keep rfl fun q hq=>⟨(ku q (h.t0.used q hq)).1.trans (h.t0.used q hq).symm,(ku q (h.t0.used q hq)).2⟩,h.t1.keep rfl fun q hq=>⟨(ku q (h.t1.used q hq)).1.trans (h.t1.used q hq).symm,(ku q (h.t1.used q hq)).2⟩,?_,h.w0,h.w1,fun x hx=>?_,?_,fun q hq=>?_⟩
 ·exact (h.sp.alloc hu)
 ·rcases List.mem_cons.1 hx with rfl | hx
  ·exact ⟨hpu,hpc⟩
  ·have:=ku x.1 (h.pg x hx).1
   exact ⟨this.1,this.2.trans (h.pg x hx).2⟩
 ·rw [List.map_cons]
  refine List.nodup_append.2 ⟨n1,List.nodup_append.2 ⟨n4,List.nodup_cons.2 ⟨fun e=>hX p e rfl,n5⟩,fun a ha b hb e=>?_⟩,fun a ha b hb e=>?_⟩
  ·subst e
   rcases List.mem_cons.1 hb with rfl | hb
   ·exact hp _ (h.t1.used _ ha) rfl
   ·exact n6 a ha a hb rfl
  ·subst e
   rcases List.mem_append.1 hb with hb | hb
   ·exact n3 a ha a (List.mem_append_left _ hb) rfl
   ·rcases List.mem_cons.1 hb with rfl | hb
    ·exact hp _ (h.t0.used _ ha) rfl
    ·exact n3 a ha a (List.mem_append_right _ hb) rfl
 ·by_cases e:q=p
  ·subst e; simp
  ·have hq':S.used q=true:=by
    have h2:flip S.used p q=true:=hq
    unfold flip at h2; rwa [if_neg e] at h2
   have:=h.al q hq'
   simp only [List.mem_append,List.map_cons,List.mem_cons] at this ⊢
   rcases this with h1 | h1 | h1 <;> simp [h1]
theorem TwoM.root {k v:Nat} (h:TwoM S n c o0 o1 a0 a1 X) (hk:2 <= k):TwoM (setRootS S k v) n c o0 o1 a0 a1 X:=by
 have hr:∀ j,j < 2 -> (setRootS S k v).root j=S.root j:=fun j hj=>by
  show upd S.root k v j=S.root j
  unfold upd; rw [if_neg (by omega)]
 exact ⟨h.t0.keep (hr 0 (by decide)) fun q hq=>⟨rfl,rfl⟩,h.t1.keep (hr 1 (by decide)) fun q hq=>⟨rfl,rfl⟩,h.sp,h.w0,h.w1,h.pg,h.nd,h.al⟩
theorem TwoM.perm {Y:List (Nat × ByteArray)} (h:TwoM S n c o0 o1 a0 a1 X) (hp:X.Perm Y):TwoM S n c o0 o1 a0 a1 Y:=by
 have h2:(pgsO o0 ++ (pgsO o1 ++ X.map Prod.fst)).Perm (pgsO o0 ++ (pgsO o1 ++ Y.map Prod.fst)):=List.Perm.append_left _ (List.Perm.append_left _ (hp.map _))
 exact ⟨h.t0,h.t1,h.sp,h.w0,h.w1,fun x hx=>h.pg x (hp.mem_iff.2 hx),h2.nodup_iff.1 h.nd,fun q hq=>h2.mem_iff.1 (h.al q hq)⟩
end
def cpg (C:List Ck):List (Nat × ByteArray):=C.map fun c=>(c.page,c.text)
set_option maxHeartbeats 2000000
theorem RSt.setC {w1 w:World} {K:Nat -> Prop} {rb n m:Nat} {S:RS} (h:RSt w1 w K rb n m S) {x:Nat} (hx:K x) (hl:w1.heap.size <= x) (off:Nat) (v:Value):RSt w1 (w.setCell ⟨x,off,none⟩ v) K rb n m S:=by
 obtain ⟨G,⟨puts,a1,a2,a3⟩,b,d,e⟩:=h
 have hu:Upd (fun k=>k=x) w (w.setCell ⟨x,off,none⟩ v):=(Upd.refl (fun k=>k=x) w).setCell (p:=⟨x,off,none⟩) (.inl rfl) v
 refine ⟨G,⟨puts,a1,a2.frame hu fun k hk e=>(d x hx).2 (e ▸ hk),a3⟩,b,fun k hk=>⟨Nat.lt_of_lt_of_le (d k hk).1 hu.size,(d k hk).2⟩,e.setCell hl v⟩
def SBk (w:World) (sb rb ti tl:Nat):Prop:=w.heap[sb]?=some (.cells #[.pointer (some ⟨rb,0,none⟩),.pointer (some ⟨ti,0,none⟩),.pointer (some ⟨tl,0,none⟩)] 112 (0,0)) /\ TB w ti rb 0 /\ TB w tl rb 1
def KC (K:Nat -> Prop) (sb ti tl:Nat):Nat -> Prop:=fun k=>K k \/ k=sb \/ k=ti \/ k=tl
def CSt (w1 w:World) (K:Nat -> Prop) (sb rb ti tl n m:Nat) (S:RS):Prop:=RSt w1 w (KC K sb ti tl) rb n m S /\ SBk w sb rb ti tl
def CGo (w1 w0 w:World) (K:Nat -> Prop) (sb rb ti tl n m:Nat) (S:RS):Prop:=CSt w1 w K sb rb ti tl n m S /\ Kept K w0 w
section
variable {w1 w w' w0:World} {K K':Nat -> Prop} {sb rb ti tl n m m':Nat} {S S':RS}
theorem KC.sub (hK:∀ k,K' k -> K k):∀ k,KC K' sb ti tl k -> KC K sb ti tl k:=fun k hk=>hk.imp (hK k) id
theorem SBk.keep (h:SBk w sb rb ti tl) (hk:Kept (KC K sb ti tl) w w'):SBk w' sb rb ti tl :=
 ⟨(hk sb (.inr (.inl rfl))).trans h.1,hk.tb h.2.1 (.inr (.inr (.inl rfl))),hk.tb h.2.2 (.inr (.inr (.inr rfl)))⟩
theorem CSt.of (h:CSt w1 w K sb rb ti tl n m S) (h1:RSt w1 w' (KC K sb ti tl) rb n m' S') (hk:Kept (KC K sb ti tl) w w'):CSt w1 w' K sb rb ti tl n m' S' /\ Kept K w w' :=
 ⟨⟨h1,h.2.keep hk⟩,hk.mono fun k hk=>.inl hk⟩
theorem CSt.mono (h:CSt w1 w K sb rb ti tl n m S) (hK:∀ k,K' k -> K k):CSt w1 w K' sb rb ti tl n m S:=⟨h.1.mono (KC.sub hK),h.2⟩
theorem CSt.more (h:CSt w1 w K sb rb ti tl n m S) (hm:m <= m'):CSt w1 w K sb rb ti tl n m' S:=⟨h.1.more hm,h.2⟩
theorem CSt.belowK (h:CSt w1 w K sb rb ti tl n m S) (hb:Below w.heap.size w w'):CSt w1 w' (fun k=>K k \/ (w.heap.size <= k /\ k < w'.heap.size)) sb rb ti tl n m S /\ Kept K w w':=by
 obtain ⟨h1,h2⟩:=h.1.below hb
 refine ⟨⟨h1.mono fun k hk=>?_,h.2.keep h2⟩,h2.mono fun k hk=>.inl hk⟩
 rcases hk with (hk | hk) | hk
 ·exact .inl (.inl hk)
 ·exact .inr hk
 ·exact .inl (.inr hk)
theorem CSt.below (h:CSt w1 w K sb rb ti tl n m S) (hb:Below w.heap.size w w'):CSt w1 w' K sb rb ti tl n m S:=(h.belowK hb).1.mono fun k hk=>.inl hk
theorem CSt.keep (h:CSt w1 w K sb rb ti tl n m S) (hb:Below w.heap.size w w'):Kept K w w':=(h.belowK hb).2
theorem CSt.new (h:CSt w1 w K sb rb ti tl n m S) (hb:Below w.heap.size w w') (x:Nat) (h1:w.heap.size <= x) (h2:x < w'.heap.size):CSt w1 w' (fun k=>K k \/ k=x) sb rb ti tl n m S :=
 (h.belowK hb).1.mono fun k hk=>hk.imp id fun hk=>by omega
theorem CSt.klt (h:CSt w1 w K sb rb ti tl n m S) {k:Nat} (hk:K k):k < w.heap.size:=by
 obtain ⟨⟨G,h1,h2,h3,h4⟩,-⟩:=h
 exact (h3 k (.inl hk)).1
theorem CSt.bel (h:CSt w1 w K sb rb ti tl n m S):Below w1.heap.size w1 w:=h.1.bel
theorem CSt.set (h:CSt w1 w K sb rb ti tl n m S) {x:Nat} (hx:K x) (hl:w1.heap.size <= x) (hn:x ≠ sb /\ x ≠ ti /\ x ≠ tl) (off:Nat) (v:Value):CSt w1 (w.setCell ⟨x,off,none⟩ v) K sb rb ti tl n m S:=by
 have e:∀ y,y ≠ x -> (w.setCell ⟨x,off,none⟩ v).heap[y]?=w.heap[y]?:=fun y hy=>heap_set_ne _ hy
 exact ⟨h.1.setC (.inl hx) hl off v,(e sb hn.1.symm).trans h.2.1,(e ti hn.2.1.symm).trans h.2.2.1,(e tl hn.2.2.symm).trans h.2.2.2⟩
theorem CSt.sbk (h:CSt w1 w K sb rb ti tl n m S):sb < w.heap.size /\ ti < w.heap.size /\ tl < w.heap.size:=⟨lt_of_heap h.2.1,lt_of_heap h.2.2.1,lt_of_heap h.2.2.2⟩
theorem CGo.below (h:CGo w1 w0 w K sb rb ti tl n m S) (hb:Below w.heap.size w w'):CGo w1 w0 w' K sb rb ti tl n m S:=⟨h.1.below hb,h.2.trans (h.1.keep hb)⟩
theorem SBk.cells (h:SBk w sb rb ti tl):w.cell? ⟨sb,0,none⟩=some (.pointer (some ⟨rb,0,none⟩)) /\ w.cell? ⟨sb,1,none⟩=some (.pointer (some ⟨ti,0,none⟩)) /\ w.cell? ⟨sb,2,none⟩=some (.pointer (some ⟨tl,0,none⟩)) :=
 ⟨cell_lit h.1 rfl,cell_lit h.1 rfl,cell_lit h.1 rfl⟩
theorem idx_get {o:Option TT} {C:List Ck} (id:ByteArray) (h:Hid (CGo w1 w0 w K sb rb ti tl n m S)) (ho:Hid (TreeSt S 0 o /\ CRel (entsO o) C /\ hgtO o <= 19)) (hm:m <= 3900000) :
 Calls Tryz.prog 115 #[.pointer (some ⟨ti,0,none⟩),.string id] w fun e w'=>∃ v ok,e=.returned (.tuple #[.string v,.bool ok,.int .i64 0]) /\ ((∃ c,cAt C id=some c /\ c.Ok /\ ok=true /\ v=c.val) \/ (cAt C id=none /\ ok=false)) /\ Hid (CGo w1 w0 w' K sb rb ti tl n m S):=by
 obtain ⟨h1,h2,h3⟩:=ho.out
 refine (get_r w1 w _ ti rb 0 n m S o id h.out.1.1 h.out.1.2.2.1 (.inr (.inr (.inl rfl))) h1 (by decide) hm h3).mono ?_
 rintro e w' ⟨v,ok,rfl,g,hE⟩
 have:=h.out.1.of hE.out.1 hE.out.2
 exact ⟨v,ok,rfl,h2.got (srt_o h1) g,Hd ⟨this.1,h.out.2.trans this.2⟩⟩
theorem read_k (c:Ck) (hc:c.Ok) (h:Hid (CGo w1 w0 w K sb rb ti tl n m S)):Calls Tryz.prog 88 #[.string ⟨#[104,98,110]⟩,.string c.val] w fun e w'=>∃ g k,w.heap.size <= g /\ e=.returned (.tuple #[.slice (some ⟨g,0,none⟩) 3 k,.bool true]) /\ (w'.cell? ⟨g,0,none⟩=some (.int .u64 (c.page:Int)) /\ w'.cell? ⟨g,2,none⟩=some (.int .u64 (c.text.size:Int)) /\ w'.cell? ⟨g,4,none⟩=some (.int .u64 (sgn64 c.cnt:Int))) /\ Hid (CGo w1 w0 w' K sb rb ti tl n m S):=by
 have RC:=Read_cK kindsC c.val w (by decide) (by have:=Ck.val_size c; omega)
 rw [Ck.read hc] at RC
 refine RC.mono ?_
 intro e w' hp
 obtain ⟨v,rfl,ho,hbl⟩:=hp
 rcases ho.2 with ⟨rfl,h0⟩ | ⟨g,cap,cur,rfl,hbg,-⟩
 ·exact absurd h0 (by simp [Ck.flds])
 ·refine ⟨g,cap,hbg,rfl,?_,h.out.below hbl⟩
  have c:=fun i (hi:i < 6)=>ho.cellAt i (by simpa [Ck.flds] using hi)
  exact ⟨c 0 (by decide),c 2 (by decide),c 4 (by decide)⟩
end
theorem cells3 {W:World} {g:Nat} {a b c:Value} {t:TypeId} {fr:Nat × Nat} (h:W.heap[g]?=some (.cells #[a,b,c] t fr)):W.cell? ⟨g,0,none⟩=some a /\ W.cell? ⟨g,1,none⟩=some b /\ W.cell? ⟨g,2,none⟩=some c :=
 ⟨cell_lit h rfl,cell_lit h rfl,cell_lit h rfl⟩
theorem set3_cell {W:World} {x g i:Nat} (h:g ≠ x) (v0 v1 v2:Value):((((W.setCell ⟨x,0,none⟩ v0).setCell ⟨x,1,none⟩ v1).setCell ⟨x,2,none⟩ v2).drew).cell? ⟨g,i,none⟩=W.cell? ⟨g,i,none⟩:=by
 refine World.cell?_of_block ?_
 rw [heap_drew,heap_set_ne _ h,heap_set_ne _ h,heap_set_ne _ h]
theorem CSt.fin {w1 w w0 W:World} {K:Nat -> Prop} {sb rb ti tl n m m':Nat} {S S':RS} (h:CSt w1 w K sb rb ti tl n m S) (H:CGo w1 w0 W (fun k=>K k \/ k=w.heap.size) sb rb ti tl n m' S') (hb:Below w.heap.size w w0) (v0 v1 v2:Value) :
 CGo w1 w (((W.setCell ⟨w.heap.size,0,none⟩ v0).setCell ⟨w.heap.size,1,none⟩ v1).setCell ⟨w.heap.size,2,none⟩ v2) K sb rb ti tl n m' S':=by
 have hl1:=h.bel.size
 have hsb:=h.sbk
 have hne:w.heap.size ≠ sb /\ w.heap.size ≠ ti /\ w.heap.size ≠ tl:=by omega
 refine ⟨(((H.1.set (.inr rfl) hl1 hne 0 v0).set (.inr rfl) hl1 hne 1 v1).set (.inr rfl) hl1 hne 2 v2).mono fun k hk=>.inl hk,fun k hk=>?_⟩
 have hl:=h.klt hk
 rw [heap_set_ne _ (by omega),heap_set_ne _ (by omega),heap_set_ne _ (by omega),H.2 k (.inl hk),hb.block k hl]
theorem CGo.drew {w1 w0 W:World} {K:Nat -> Prop} {sb rb ti tl n m:Nat} {S:RS} (h:CGo w1 w0 W K sb rb ti tl n m S):CGo w1 w0 W.drew K sb rb ti tl n m S:=h.below (Below.refl _ _).drew
def Ck.v (c:Ck):Value:=.agg #[.int .i64 (c.page:Int),.int .i64 (c.text.size:Int),.int .i64 c.cnt]
def ck0:Value:=.agg #[.int .i64 0,.int .i64 0,.int .i64 0]
section
variable (w1 w:World) (K:Nat -> Prop) (sb rb ti tl n m:Nat) (S:RS) (o:Option TT) (C:List Ck) (id:ByteArray)
theorem find_noC (h:CSt w1 w K sb rb ti tl n m S) (ho:Hid (TreeSt S 0 o /\ CRel (entsO o) C /\ hgtO o <= 19)) (hm:m <= 3900000) (hi:id.size <= 96) (hf:cAt C id=none) :
 Calls Tryz.prog 62 #[.pointer (some ⟨sb,0,none⟩),.string id] w fun e w'=>e=.returned (.tuple #[ck0,.bool false,.int .i64 0]) /\ Hid (CGo w1 w w' K sb rb ti tl n m S):=by
 obtain ⟨w0,hw0⟩:=exE (w.alloc (.cells #[.int .i64 0,.int .i64 0,.int .i64 0] 124))
 have blk:Hid (w0.heap[w.heap.size]?=some (.cells #[.int .i64 0,.int .i64 0,.int .i64 0] 124 (0,0))):=Hd (by
  subst hw0; exact heap_alloc_new _ _)
 have HB0:Hid (Below w.heap.size w w0):=Hd (by subst hw0; exact (Below.refl w.heap.size w).alloc (Nat.le_refl _) _)
 have G0:Hid (CGo w1 w0 w0 (fun k=>K k \/ k=w.heap.size) sb rb ti tl n m S):=Hd ⟨h.new HB0.out _ (Nat.le_refl _) (lt_of_heap blk.out),fun _ _=>rfl⟩
 have GT:=idx_get id G0 ho hm
 obtain ⟨s0,s1,s2⟩:=G0.out.1.2.cells
 have HH:=Hd h
 have HF:=Hd hf
 have hi':¬ id.size > 96:=by omega
 clear h hf hm hi ho
 go_enter Tryz.func62,Tryz.ntmps62
 go_wp2_with fail
 refine GT.mono ?_
 rintro e w2 ⟨v,ok,rfl,hv,G2⟩
 obtain rfl:ok=false:=by
  rcases hv with ⟨c,hc,-⟩ | ⟨-,rfl⟩
  ·rw [HF.out] at hc; cases hc
  ·rfl
 have hb2:w2.heap[w.heap.size]?=some (.cells #[.int .i64 0,.int .i64 0,.int .i64 0] 124 (0,0)):=(G2.out.2 _ (.inr rfl)).trans blk.out
 obtain ⟨c0,c1,c2⟩:=cells3 hb2
 have f0:∀ i,w2.frozen? ⟨w.heap.size,i,none⟩=false:=fun i=>frozen_lit hb2 i
 clear hb2 GT hv
 go_wp2_with fail
 refine bodyPost_ret (v:=.tuple #[ck0,.bool false,.int .i64 0]) (by simp [results,Tryz.results62,go_sem,c0,c1,c2,f0,ck0]) rfl ⟨rfl,Hd (HH.out.fin G2.out HB0.out _ _ _)⟩
theorem find_yesC (h:CSt w1 w K sb rb ti tl n m S) (ho:Hid (TreeSt S 0 o /\ CRel (entsO o) C /\ hgtO o <= 19)) (hm:m <= 3900000) (hi:id.size <= 96) (c:Ck) (hf:cAt C id=some c) :
 Calls Tryz.prog 62 #[.pointer (some ⟨sb,0,none⟩),.string id] w fun e w'=>e=.returned (.tuple #[c.v,.bool true,.int .i64 0]) /\ Hid (CGo w1 w w' K sb rb ti tl n m S):=by
 obtain ⟨w0,hw0⟩:=exE (w.alloc (.cells #[.int .i64 0,.int .i64 0,.int .i64 0] 124))
 have blk:Hid (w0.heap[w.heap.size]?=some (.cells #[.int .i64 0,.int .i64 0,.int .i64 0] 124 (0,0))):=Hd (by
  subst hw0; exact heap_alloc_new _ _)
 have HB0:Hid (Below w.heap.size w w0):=Hd (by subst hw0; exact (Below.refl w.heap.size w).alloc (Nat.le_refl _) _)
 have G0:Hid (CGo w1 w0 w0 (fun k=>K k \/ k=w.heap.size) sb rb ti tl n m S):=Hd ⟨h.new HB0.out _ (Nat.le_refl _) (lt_of_heap blk.out),fun _ _=>rfl⟩
 have GT:=idx_get id G0 ho hm
 obtain ⟨s0,s1,s2⟩:=G0.out.1.2.cells
 have HH:=Hd h
 have HF:=Hd hf
 have HO:Hid c.Ok:=Hd (ho.out.2.1.ok c (cAt_some hf).1)
 have hi':¬ id.size > 96:=by omega
 clear h hf hm hi ho
 go_enter Tryz.func62,Tryz.ntmps62
 go_wp2_with fail
 refine GT.mono ?_
 rintro e w2 ⟨v,ok,rfl,hv,G2⟩
 obtain ⟨rfl,rfl⟩:ok=true /\ v=c.val:=by
  rcases hv with ⟨c',hc,-,h1,h2⟩ | ⟨hc,-⟩
  ·rw [HF.out] at hc; cases hc; exact ⟨h1,h2⟩
  ·rw [HF.out] at hc; cases hc
 have RD:=read_k c HO.out G2
 clear GT hv
 go_wp2_with fail
 refine RD.mono ?_
 rintro e w3 ⟨g,k,hbg,rfl,⟨d0,d1,d2⟩,G3⟩
 have hb3:w3.heap[w.heap.size]?=some (.cells #[.int .i64 0,.int .i64 0,.int .i64 0] 124 (0,0)):=(G3.out.2 _ (.inr rfl)).trans blk.out
 obtain ⟨c0,c1,c2⟩:=cells3 hb3
 have f0:∀ i,w3.frozen? ⟨w.heap.size,i,none⟩=false:=fun i=>frozen_lit hb3 i
 have hgx:g ≠ w.heap.size:=by
  have:=(G2.out.1.klt (.inr rfl):w.heap.size < w2.heap.size)
  omega
 have KP:=Hd (fun i v0 v1 v2=>set3_cell (W:=w3) (i:=i) hgx v0 v1 v2)
 have DD:Hid (w3.cell? ⟨g,0,none⟩=some (.int .u64 (c.page:Int)) /\ w3.cell? ⟨g,2,none⟩=some (.int .u64 (c.text.size:Int)) /\ w3.cell? ⟨g,4,none⟩=some (.int .u64 (sgn64 c.cnt:Int))):=Hd ⟨d0,d1,d2⟩
 clear RD G2 hb3 hbg hgx
 have k0:IntKind.i64.wrap (c.page:Int)=(c.page:Int):=by
  have:=HO.out.page
  simp [IntKind.wrap,IntKind.bits,IntKind.signed]; omega
 have k1:IntKind.i64.wrap (c.text.size:Int)=(c.text.size:Int):=by
  have:=HO.out.t2
  simp [IntKind.wrap,IntKind.bits,IntKind.signed]; omega
 have k2:IntKind.i64.wrap (sgn64 c.cnt:Int)=c.cnt:=sgn64_back _ (by have:=HO.out.c1; omega) (by have:=HO.out.c2; omega)
 have HV:Hid (.agg #[.int .i64 (c.page:Int),.int .i64 (c.text.size:Int),.int .i64 c.cnt]=c.v):=Hd rfl
 generalize c.page=z0 at *
 generalize c.text.size=z1 at *
 generalize sgn64 c.cnt=z2 at *
 generalize c.cnt=z3 at *
 go_wp2_with fail
 go_region_held3 (fun w'=>w'.cell? ⟨g,0,none⟩=some (.int .u64 (z0:Int)) /\ w'.cell? ⟨g,2,none⟩=some (.int .u64 (z1:Int)) /\ w'.cell? ⟨g,4,none⟩=some (.int .u64 (z2:Int))) (first | (go_keep; done) | exact ⟨(KP.out 0 _ _ _).trans DD.out.1,(KP.out 2 _ _ _).trans DD.out.2.1,(KP.out 4 _ _ _).trans DD.out.2.2⟩) (fail)
 all_goals go_wp2_with fail
 all_goals (
  have hE:=Hd (CGo.drew (HH.out.fin G3.out HB0.out (.int .i64 (z0:Int)) (.int .i64 (z1:Int)) (.int .i64 z3)))
  refine bodyPost_ret (v:=.tuple #[.agg #[.int .i64 (z0:Int),.int .i64 (z1:Int),.int .i64 z3],.bool true,.int .i64 0]) (by simp [results,Tryz.results62,go_sem,c0,c1,c2,f0]) rfl ⟨?_,hE⟩
  rw [HV.out])
end
def Chs (w1 w0 w:World) (K:Nat -> Prop) (sb rb ti tl n N a:Nat) (C:List Ck) (L:List Lg) (nx:Nat) (X:List (Nat × ByteArray)):Prop :=
 ∃ S o0 o1,CGo w1 w0 w K sb rb ti tl n (300 * a) S /\ TwoM S n (24 * (N - a)) o0 o1 a a X /\ CRel (entsO o0) C /\ GRel (entsO o1) L nx /\ S.root 2=nx /\ nx <= a
section
variable {w1 w w' w0 W:World} {K K':Nat -> Prop} {sb rb ti tl n N a a' nx:Nat} {C:List Ck} {L:List Lg} {X:List (Nat × ByteArray)}
theorem Chs.below (h:Chs w1 w0 w K sb rb ti tl n N a C L nx X) (hb:Below w.heap.size w w'):Chs w1 w0 w' K sb rb ti tl n N a C L nx X:=by
 obtain ⟨S,o0,o1,h1,h2⟩:=h
 exact ⟨S,o0,o1,h1.below hb,h2⟩
theorem Chs.mono (h:Chs w1 w0 w K sb rb ti tl n N a C L nx X) (hK:∀ k,K' k -> K k):Chs w1 w0 w K' sb rb ti tl n N a C L nx X:=by
 obtain ⟨S,o0,o1,h1,h2⟩:=h
 exact ⟨S,o0,o1,⟨h1.1.mono hK,h1.2.mono hK⟩,h2⟩
theorem Chs.bel (h:Chs w1 w0 w K sb rb ti tl n N a C L nx X):Below w1.heap.size w1 w:=by obtain ⟨S,o0,o1,h1,h2⟩:=h; exact h1.1.bel
theorem Chs.klt (h:Chs w1 w0 w K sb rb ti tl n N a C L nx X) {k:Nat} (hk:K k):k < w.heap.size:=by obtain ⟨S,o0,o1,h1,h2⟩:=h; exact h1.1.klt hk
theorem Chs.kept (h:Chs w1 w0 w K sb rb ti tl n N a C L nx X):Kept K w0 w:=by obtain ⟨S,o0,o1,h1,h2⟩:=h; exact h1.2
theorem Chs.sbk (h:Chs w1 w0 w K sb rb ti tl n N a C L nx X):SBk w sb rb ti tl:=by obtain ⟨S,o0,o1,h1,h2⟩:=h; exact h1.1.2
theorem Chs.to (h:Chs w1 w0 w K sb rb ti tl n N a C L nx X) (hk:Kept K W w0):Chs w1 W w K sb rb ti tl n N a C L nx X:=by
 obtain ⟨S,o0,o1,h1,h2⟩:=h
 exact ⟨S,o0,o1,⟨h1.1,hk.trans h1.2⟩,h2⟩
theorem Chs.new (h:Chs w1 w0 w K sb rb ti tl n N a C L nx X) (hb:Below w.heap.size w w') (x:Nat) (h1:w.heap.size <= x) (h2:x < w'.heap.size):Chs w1 w' w' (fun k=>K k \/ k=x) sb rb ti tl n N a C L nx X:=by
 obtain ⟨S,o0,o1,h3,h4⟩:=h
 exact ⟨S,o0,o1,⟨h3.1.new hb x h1 h2,fun _ _=>rfl⟩,h4⟩
theorem Chs.keep (h:Chs w1 w0 w K sb rb ti tl n N a C L nx X) (hb:Below w.heap.size w w'):Kept K w w':=by obtain ⟨S,o0,o1,h1,h2⟩:=h; exact h1.1.keep hb
theorem Chs.ok (h:Chs w1 w0 w K sb rb ti tl n N a C L nx X):(∀ c ∈ C,c.Ok) /\ CSrt C /\ (∀ e ∈ L,e.Ok /\ e.n < nx) /\ nx <= a:=by
 obtain ⟨S,o0,o1,h1,h2,h3,h4,h5,h6⟩:=h
 exact ⟨h3.ok,h3.srt h2.srt0,h4.ok,h6⟩
theorem Chs.end_ (h:Chs w1 w0 w K sb rb ti tl n N a C L nx X) {C':List Ck} {L':List Lg} {nx':Nat} {X':List (Nat × ByteArray)} {w2:World} (g:Chs w1 w2 w' (fun k=>K k \/ K' k) sb rb ti tl n N a' C' L' nx' X') (hb:Below w.heap.size w w2):Chs w1 w0 w' K sb rb ti tl n N a' C' L' nx' X':=by
 have:=g.mono (K':=K) fun k hk=>.inl hk
 exact (this.to (h.keep hb)).to h.kept
theorem find_no (id:ByteArray) (h:Hid (Chs w1 w0 w K sb rb ti tl n N a C L nx X)) (hN:a <= N /\ N <= 1000) (hi:id.size <= 96) (hf:cAt C id=none) :
 Calls Tryz.prog 62 #[.pointer (some ⟨sb,0,none⟩),.string id] w fun e w'=>e=.returned (.tuple #[ck0,.bool false,.int .i64 0]) /\ Hid (Chs w1 w0 w' K sb rb ti tl n N a C L nx X):=by
 obtain ⟨S,o0,o1,h1,h2,h3,h4⟩:=h.out
 refine (find_noC w1 w K sb rb ti tl n (300 * a) S o0 C id h1.1 (Hd ⟨h2.t0,h3,h2.hgt0 (by omega)⟩) (by omega) hi hf).mono ?_
 rintro e w' ⟨rfl,hE⟩
 exact ⟨rfl,Hd ⟨S,o0,o1,⟨hE.out.1,h1.2.trans hE.out.2⟩,h2,h3,h4⟩⟩
theorem find_yes (id:ByteArray) (c:Ck) (h:Hid (Chs w1 w0 w K sb rb ti tl n N a C L nx X)) (hN:a <= N /\ N <= 1000) (hi:id.size <= 96) (hf:cAt C id=some c) :
 Calls Tryz.prog 62 #[.pointer (some ⟨sb,0,none⟩),.string id] w fun e w'=>e=.returned (.tuple #[c.v,.bool true,.int .i64 0]) /\ Hid (Chs w1 w0 w' K sb rb ti tl n N a C L nx X):=by
 obtain ⟨S,o0,o1,h1,h2,h3,h4⟩:=h.out
 refine (find_yesC w1 w K sb rb ti tl n (300 * a) S o0 C id h1.1 (Hd ⟨h2.t0,h3,h2.hgt0 (by omega)⟩) (by omega) hi c hf).mono ?_
 rintro e w' ⟨rfl,hE⟩
 exact ⟨rfl,Hd ⟨S,o0,o1,⟨hE.out.1,h1.2.trans hE.out.2⟩,h2,h3,h4⟩⟩
theorem idx_put (c:Ck) (hc:c.Ok) (h:Hid (Chs w1 w0 w K sb rb ti tl n N a C L nx X)) (hN:a < N /\ N <= 1000) :
 Calls Tryz.prog 71 #[.pointer (some ⟨ti,0,none⟩),.string c.id,.string c.val] w fun e w'=>e=.returned (.int .i64 0) /\ Hid (∃ C',Chs w1 w0 w' K sb rb ti tl n N (a + 1) C' L nx X /\ PutC c C C'):=by
 obtain ⟨S,o0,o1,h1,h2,h3,h4,h5,h6⟩:=h.out
 have hh:=wtO_hgt (k:=10) h2.t0 h2.w0 (by omega)
 refine (put_r w1 w _ ti rb 0 n (300 * a) S o0 10 c.id c.val h1.1.1 h1.1.2.2.1 (.inr (.inr (.inl rfl))) h2.t0 (h2.sp.less (by omega)) (by decide) (by omega) (by have:=hc.id; omega) (Ck.val_size c) (by decide) hh).mono ?_
 rintro e w' ⟨rfl,hE⟩
 obtain ⟨S',o',x1,x2,g1,g2,g3,g4,g5,g6,g7,g8⟩:=hE.out
 obtain ⟨C',y1,y2⟩:=h3.ins hc g2
 have hg:=h1.1.of x1 x2
 have hr:S'.root 2=S.root 2:=g1.frm.root 2 (by decide)
 refine ⟨rfl,Hd ⟨C',⟨S',o',o1,⟨hg.1.more (by omega),h1.2.trans hg.2⟩,(h2.go0 (c':=24 * (N - (a + 1))) (b0:=a + 1) g1 (g5 _ (h2.sp.less (by omega))) (by have:=h2.w0; omega)).less (Nat.le_refl _) (Nat.le_refl _) (by omega),y1,h4,hr.trans h5,by omega⟩,y2⟩⟩
theorem log_put (e:Lg) (he:e.Ok) (hn:e.n=nx) (h:Hid (Chs w1 w0 w K sb rb ti tl n N a C L nx X)) (hN:a < N /\ N <= 1000) :
 Calls Tryz.prog 71 #[.pointer (some ⟨tl,0,none⟩),.string (lkey nx),.string e.val] w fun e' w'=>e'=.returned (.int .i64 0) /\ Hid (∃ S o0 o1,CGo w1 w0 w' K sb rb ti tl n (300 * a + 100) S /\ TwoM S n (24 * (N - (a + 1)) + 1) o0 o1 (a + 1) (a + 1) X /\ CRel (entsO o0) C /\ GRel (entsO o1) (L ++ [e]) (nx + 1) /\ S.root 2=nx /\ nx <= a):=by
 obtain ⟨S,o0,o1,h1,h2,h3,h4,h5,h6⟩:=h.out
 have hh:=wtO_hgt (k:=10) h2.t1 h2.w1 (by omega)
 refine (put_r w1 w _ tl rb 1 n (300 * a) S o1 10 (lkey nx) e.val h1.1.1 h1.1.2.2.2 (.inr (.inr (.inr rfl))) h2.t1 (h2.sp.less (by omega)) (by decide) (by omega) (by have:=lkey_size nx; omega) (Lg.val_size he) (by decide) hh).mono ?_
 rintro e' w' ⟨rfl,hE⟩
 obtain ⟨S',o',x1,x2,g1,g2,g3,g4,g5,g6,g7,g8⟩:=hE.out
 have hg:=h1.1.of x1 x2
 have hr:S'.root 2=S.root 2:=g1.frm.root 2 (by decide)
 refine ⟨rfl,Hd ⟨S',o0,o',⟨hg.1,h1.2.trans hg.2⟩,(h2.go1 (c':=24 * (N - (a + 1)) + 1) (b1:=a + 1) g1 (g5 _ (h2.sp.less (by omega))) (by have:=h2.w1; omega)).less (Nat.le_refl _) (by omega) (Nat.le_refl _),h3,h4.put hn he (by rw [hn]; exact g2),hr.trans h5,h6⟩⟩
theorem log_del (e:Lg) (h:Hid (Chs w1 w0 w K sb rb ti tl n N a C (e :: L) nx X)) (hN:a < N /\ N <= 1000) :
 Calls Tryz.prog 74 #[.pointer (some ⟨tl,0,none⟩),.string (lkey e.n)] w fun e' w'=>e'=.returned (.tuple #[.bool true,.int .i64 0]) /\ Hid (Chs w1 w0 w' K sb rb ti tl n N (a + 1) C L nx X):=by
 obtain ⟨S,o0,o1,h1,h2,h3,h4,h5,h6⟩:=h.out
 have hh:=wtO_hgt (k:=10) h2.t1 h2.w1 (by omega)
 refine (del_r w1 w _ tl rb 1 n (300 * a) S o1 (lkey e.n) h1.1.1 h1.1.2.2.2 (.inr (.inr (.inr rfl))) h2.t1 (by decide) (by omega) (by omega)).mono ?_
 rintro e' w' ⟨was,rfl,hE⟩
 obtain ⟨S',o',x1,x2,g1⟩:=hE.out
 rcases g1 with ⟨rfl,g1,g2,g3,g4,g5,g6⟩ | ⟨rfl,-,-,g3⟩
 ·have hg:=h1.1.of x1 x2
  have hr:S'.root 2=S.root 2:=g1.frm.root 2 (by decide)
  refine ⟨rfl,Hd ⟨S',o0,o',⟨hg.1.more (by omega),h1.2.trans hg.2⟩,(h2.go1 (c':=24 * (N - (a + 1))) (b1:=a + 1) g1 (g4 _ (h2.sp.less (by omega))) (by have:=h2.w1; omega)).less (Nat.le_refl _) (by omega) (Nat.le_refl _),h3,h4.del h2.srt1 g2,hr.trans h5,by omega⟩⟩
 ·exact absurd rfl (g3 (encL e) (by rw [h4.eq]; simp))
end
theorem strOneK (x:UInt8):strOfNums [(x.toNat:Int)]=⟨#[x]⟩:=by
 apply ByteArray.ext
 simp [strOfNums]
theorem conv_k (k:Nat) (hk:k < 256) (W:World) (g:Nat) (h:W.cell? ⟨g,0,none⟩=some (.int .u8 (k:Int))):(convert 91 9 (.slice (some ⟨g,0,none⟩) 1 1)).run Tryz.prog W=.ok (.string ⟨#[UInt8.ofNat k]⟩) W:=by
 have hx:((UInt8.ofNat k).toNat:Int)=(k:Int):=by
  rw [UInt8.toNat_ofNat']; omega
 have:=run_convert_bytes_arg (P:=Tryz.prog) W 91 5 Tryz.underlying91 Tryz.underlying5 g 0 1 1 [((UInt8.ofNat k).toNat:Int)] rfl (fun i hi=>by
  obtain rfl:i=0:=by omega
  rw [hx]
  exact h) 9 Tryz.underlying9
 rwa [strOneK] at this
theorem name_c (p:ByteArray) (k:Nat) (w:World) (hp:p.size <= 100000) (hk:k < 256):Calls Tryz.prog 64 #[.string p,.int .i64 (k:Int)] w fun e w'=>e=.returned (.string (nameB p k)) /\ Hid (Below w.heap.size w w'):=by
 have k0:IntKind.u8.wrap (k:Int)=(k:Int):=by
  simp [IntKind.wrap,IntKind.bits,IntKind.signed]; omega
 have HB:Hid (∀ o:Obj,Below w.heap.size w (w.alloc o)):=Hd fun o=>(Below.refl w.heap.size w).alloc (Nat.le_refl _) o
 have cv:=conv_k k hk (w.alloc (.cells #[.int .u8 (k:Int)] 5)) w.heap.size (cell_lit (heap_alloc_new _ _) rfl)
 obtain ⟨x,hx⟩:∃ x:ByteArray,(⟨#[UInt8.ofNat k]⟩:ByteArray)=x:=⟨_,rfl⟩
 have hxs:x.size=1:=by rw [<- hx]; rfl
 have h1:(p.size + x.size > 9223372036854775807)=False:=by simp; omega
 have h2:¬ (9223372036854775807 < p.size + x.size):=by omega
 have HN:Hid (p ++ x=nameB p k):=Hd (by rw [<- hx]; rfl)
 rw [hx] at cv
 clear hp hk hx hxs
 go_enter Tryz.func64,Tryz.ntmps64
 go_wp2_with fail
 go_ret
 rw [HN.out]
 exact ⟨rfl,HB.out _⟩
theorem Mark_k (w1 w w0:World) (K:Nat -> Prop) (sb rb ti tl n N a nx:Nat) (C:List Ck) (L:List Lg) (X:List (Nat × ByteArray)) (h:Hid (Chs w1 w0 w K sb rb ti tl n N a C L nx X)) :
 ∃ k:Nat,Calls Tryz.prog 61 #[.pointer (some ⟨sb,0,none⟩)] w fun e w'=>e=.returned (.int .i64 (k:Int)) /\ w=w':=by
 have MK:∃ k:Nat,Calls Tryz.prog 114 #[.pointer (some ⟨rb,0,none⟩)] w fun e w'=>e=.returned (.int .i64 (k:Int)) /\ w=w':=by
  obtain ⟨S,o0,o1,h1,-⟩:=h.out
  obtain ⟨G,⟨puts,x1,x2,x3⟩,-⟩:=h1.1.1
  exact ⟨_,RMark_c G rb n puts w x2⟩
 obtain ⟨k,MK⟩:=MK
 obtain ⟨s0,s1,s2⟩:=h.out.sbk.cells
 refine ⟨k,?_⟩
 go_enter Tryz.func61,Tryz.ntmps61
 go_wp2_with fail
 refine MK.mono ?_
 rintro e w2 ⟨rfl,rfl⟩
 go_wp2_with fail
 go_ret
 exact ⟨rfl,rfl⟩
theorem flds3k {W:World} {g:Nat} {a0 a1 a2:Nat} {s0 s1 s2:ByteArray} (h:W.heap[g]?=some (.cells #[.int .u64 (a0:Int),.string s0,.int .u64 (a1:Int),.string s1,.int .u64 (a2:Int),.string s2] 139 (0,0)))
 (hl:∀ p ∈ [(a0,s0),(a1,s1),(a2,s2)],p.1 < 18446744073709551616):FldsAt W (.slice (some ⟨g,0,none⟩) 3 3) [(a0,s0),(a1,s1),(a2,s2)]:=by
 refine ⟨⟨some ⟨g,0,none⟩,3,rfl,fun k hk=>⟨g,0,rfl,?_,?_,lt_of_heap h⟩⟩,hl⟩
 ·have:k=0 \/ k=1 \/ k=2:=by simp at hk; omega
  rcases this with rfl | rfl | rfl <;> exact cell_lit h rfl
 ·have:k=0 \/ k=1 \/ k=2:=by simp at hk; omega
  rcases this with rfl | rfl | rfl <;> exact cell_lit h rfl
theorem flds2k {W:World} {g:Nat} {a0 a1:Nat} {s0 s1:ByteArray} (h:W.heap[g]?=some (.cells #[.int .u64 (a0:Int),.string s0,.int .u64 (a1:Int),.string s1] 139 (0,0)))
 (hl:∀ p ∈ [(a0,s0),(a1,s1)],p.1 < 18446744073709551616):FldsAt W (.slice (some ⟨g,0,none⟩) 2 2) [(a0,s0),(a1,s1)]:=by
 refine ⟨⟨some ⟨g,0,none⟩,2,rfl,fun k hk=>⟨g,0,rfl,?_,?_,lt_of_heap h⟩⟩,hl⟩
 ·have:k=0 \/ k=1:=by simp at hk; omega
  rcases this with rfl | rfl <;> exact cell_lit h rfl
 ·have:k=0 \/ k=1:=by simp at hk; omega
  rcases this with rfl | rfl <;> exact cell_lit h rfl
theorem flds1k {W:World} {g:Nat} {a0:Nat} {s0:ByteArray} (h:W.heap[g]?=some (.cells #[.int .u64 (a0:Int),.string s0] 139 (0,0)))
 (hl:a0 < 18446744073709551616):FldsAt W (.slice (some ⟨g,0,none⟩) 1 1) [(a0,s0)]:=by
 refine ⟨⟨some ⟨g,0,none⟩,1,rfl,fun k hk=>⟨g,0,rfl,?_,?_,lt_of_heap h⟩⟩,fun p hp=>?_⟩
 ·have:k=0:=by simp at hk; omega
  subst this; exact cell_lit h rfl
 ·have:k=0:=by simp at hk; omega
  subst this; exact cell_lit h rfl
 ·simp at hp; subst hp; exact hl
theorem write_k (c:Ck) (hc:c.Ok) (W:World) (g:Nat) (hg:W.heap[g]?=some (.cells #[.int .u64 (c.page:Int),.string ⟨#[]⟩,.int .u64 (c.text.size:Int),.string ⟨#[]⟩,.int .u64 (sgn64 c.cnt:Int),.string ⟨#[]⟩] 139 (0,0))) :
 Calls Tryz.prog 70 #[.string ⟨#[104,98,110]⟩,.slice (some ⟨g,0,none⟩) 3 3] W fun e w'=>e=.returned (.tuple #[.string c.val,.bool true]) /\ Hid (Below W.heap.size W w'):=by
 have hv:FldsAt W (.slice (some ⟨g,0,none⟩) 3 3) c.flds:=flds3k hg (by
  have h1:=hc.page
  have h2:=hc.t2
  have h3:=sgn64_lt c.cnt
  intro p hp
  simp only [List.mem_cons,List.not_mem_nil,or_false] at hp
  rcases hp with rfl | rfl | rfl <;> simp only <;> omega)
 have WC:=Write_c kindsC (.slice (some ⟨g,0,none⟩) 3 3) c.flds W (by decide) hv fun p hp=>by
  simp only [Ck.flds,List.mem_cons,List.not_mem_nil,or_false] at hp
  rcases hp with rfl | rfl | rfl <;> exact Nat.zero_le _
 rw [Ck.write hc] at WC
 refine WC.mono ?_
 rintro e w' ⟨rfl,h⟩
 exact ⟨rfl,h⟩
section
variable (w1 w w0:World) (K:Nat -> Prop) (sb rb ti tl n N a nx:Nat) (C:List Ck) (L:List Lg) (X:List (Nat × ByteArray))
theorem keep_k (c:Ck) (hc:c.Ok) (h:Hid (Chs w1 w0 w K sb rb ti tl n N a C L nx X)) (hN:a < N /\ N <= 1000) :
 Calls Tryz.prog 68 #[.pointer (some ⟨sb,0,none⟩),.string c.id,c.v] w fun e w'=>e=.returned (.int .i64 0) /\ Hid (∃ C',Chs w1 w0 w' K sb rb ti tl n N (a + 1) C' L nx X /\ PutC c C C'):=by
 obtain ⟨wb,hwb⟩:=exE (w.alloc (.cells #[.int .i64 (c.page:Int),.int .i64 (c.text.size:Int),.int .i64 c.cnt] 124))
 have blk:wb.heap[w.heap.size]?=some (.cells #[.int .i64 (c.page:Int),.int .i64 (c.text.size:Int),.int .i64 c.cnt] 124 (0,0)):=by
  subst hwb; exact heap_alloc_new _ _
 have HB0:Hid (Below w.heap.size w wb):=Hd (by subst hwb; exact (Below.refl w.heap.size w).alloc (Nat.le_refl _) _)
 have G0:Hid (Chs w1 w0 wb K sb rb ti tl n N a C L nx X):=Hd (h.out.below HB0.out)
 obtain ⟨d0,d1,d2⟩:=cells3 blk
 have WR:Hid (∀ W g,Below wb.heap.size wb W -> W.heap[g]?=some (.cells #[.int .u64 (c.page:Int),.string ⟨#[]⟩,.int .u64 (c.text.size:Int),.string ⟨#[]⟩,.int .u64 (sgn64 c.cnt:Int),.string ⟨#[]⟩] 139 (0,0)) -> Calls Tryz.prog 70 #[.string ⟨#[104,98,110]⟩,.slice (some ⟨g,0,none⟩) 3 3] W fun e w'=>e=.returned (.tuple #[.string c.val,.bool true]) /\ Hid (SBk w' sb rb ti tl /\ Chs w1 w0 w' K sb rb ti tl n N a C L nx X)):=Hd fun W g hW hg=>by
  refine (write_k c hc W g hg).mono ?_
  rintro e w' ⟨rfl,hb⟩
  have:=G0.out.below (hW.trans (hb.out.mono hW.size))
  exact ⟨rfl,Hd ⟨this.sbk,this⟩⟩
 have PT:Hid (∀ W,Hid (Chs w1 w0 W K sb rb ti tl n N a C L nx X) -> Calls Tryz.prog 71 #[.pointer (some ⟨ti,0,none⟩),.string c.id,.string c.val] W fun e w'=>e=.returned (.int .i64 0) /\ Hid (∃ C',Chs w1 w0 w' K sb rb ti tl n N (a + 1) C' L nx X /\ PutC c C C')):=Hd fun W hW=>idx_put c hc hW hN
 have k0:IntKind.u64.wrap (c.page:Int)=(c.page:Int):=wrap_u64 (by have:=hc.page; omega)
 have k1:IntKind.u64.wrap (c.text.size:Int)=(c.text.size:Int):=wrap_u64 (by have:=hc.t2; omega)
 have k2:IntKind.u64.wrap c.cnt=(sgn64 c.cnt:Int):=sgn64_wrap _
 show Calls Tryz.prog 68 #[.pointer (some ⟨sb,0,none⟩),.string c.id,.agg #[.int .i64 (c.page:Int),.int .i64 (c.text.size:Int),.int .i64 c.cnt]] w _
 clear hc h hN blk
 generalize PutC c C=PP at *
 generalize c.page=z0 at *
 generalize c.text.size=z1 at *
 generalize sgn64 c.cnt=z2 at *
 generalize c.cnt=z3 at *
 generalize c.val=vl at *
 generalize c.id=id at *
 go_enter Tryz.func68,Tryz.ntmps68
 go_wp2_with fail
 refine (WR.out _ _ ((Below.refl _ _).alloc (Nat.le_refl _) _) (heap_alloc_new _ _)).mono ?_
 rintro e w3 ⟨rfl,G3⟩
 have G4:Hid (Chs w1 w0 w3 K sb rb ti tl n N a C L nx X):=Hd G3.out.2
 obtain ⟨s0,s1,s2⟩:=G3.out.1.cells
 have PTw:=PT.out w3 G4
 clear WR G3
 go_wp2_with fail
 refine PTw.mono ?_
 rintro e w4 ⟨rfl,G5⟩
 go_wp2_with fail
 go_ret
 exact ⟨rfl,G5⟩
end
theorem sRun_one {E:List (ByteArray × ByteArray)} (hs:Srt E) (f tt:ByteArray) (ht:tt.size ≠ 0) :
 ((sRun tt 1 (from_ f E) []).1.length=0 /\ ∀ e ∈ E,kless e.1 f=false -> kless e.1 tt=false) \/ ((sRun tt 1 (from_ f E) []).1.length=1 /\ ¬ ∀ e ∈ E,kless e.1 f=false -> kless e.1 tt=false):=by
 have hF:Srt (from_ f E):=hs.filter _
 have hm:∀ e,e ∈ from_ f E ↔ e ∈ E /\ kless e.1 f=false:=fun e=>by unfold from_; simp
 generalize from_ f E=F at *
 cases F with
 | nil =>
   refine .inl ⟨rfl,fun e he hk=>?_⟩
   exact absurd ((hm e).2 ⟨he,hk⟩) (by simp)
 | cons x r =>
   have hx:=(hm x).1 (by simp)
   cases hk:kless x.1 tt with
   | false =>
     refine .inl ⟨by rw [sRun_cons,if_pos (.inr ⟨ht,hk⟩)]; rfl,fun e he hf=>?_⟩
     rcases List.mem_cons.1 ((hm e).2 ⟨he,hf⟩) with rfl | h1
     ·exact hk
     ·have h2:=(List.pairwise_cons.1 hF).1 e h1
      cases h3:kless e.1 tt with
      | false=>rfl
      | true=>rw [kless_trans h2 h3] at hk; cases hk
   | true =>
     refine .inr ⟨?_,fun h=>?_⟩
     ·rw [sRun_cons,if_neg (by rintro (h | ⟨-,h⟩); · simp at h
                               ·rw [hk] at h; cases h)]
      cases r with
      | nil=>rfl
      | cons y r=>rw [sRun_cons,if_pos (.inl rfl)]; rfl
     ·rw [h x hx.1 hx.2] at hk; cases hk
def NoC (C:List Ck) (f t:ByteArray):Prop:=∀ c ∈ C,kless c.id f=false -> kless c.id t=false
section
variable (w1 w w0:World) (K:Nat -> Prop) (sb rb ti tl n N a nx:Nat) (C:List Ck) (L:List Lg) (X:List (Nat × ByteArray))
theorem idx_one (f tt:ByteArray) (ht:tt.size ≠ 0) (h:Hid (Chs w1 w0 w K sb rb ti tl n N a C L nx X)) (hN:a <= N /\ N <= 1000) (hC:C.length <= 1000000) :
 Calls Tryz.prog 87 #[.pointer (some ⟨ti,0,none⟩),.string f,.string tt,.int .i64 1] w fun e w'=>∃ v k j,e=.returned (.tuple #[.slice v j k,.int .i64 0]) /\ ((j=0 /\ NoC C f tt) \/ (j=1 /\ ¬ NoC C f tt)) /\ Hid (Chs w1 w0 w' K sb rb ti tl n N a C L nx X):=by
 obtain ⟨S,o0,o1,h1,h2,h3,h4⟩:=h.out
 have hl:(entsO o0).length=C.length:=by rw [h3.eq,List.length_map]
 refine (scan_g w1 w _ ti rb 0 n (300 * a) S o0 f tt 1 h1.1.1 h1.1.2.2.1 (.inr (.inr (.inl rfl))) h2.t0 (by decide) (by omega) (by have:=h2.hgt0 (by omega); omega) (by omega) (by decide) (by decide)).mono ?_
 rintro e w' ⟨v,rfl,hE⟩
 have hv:=hE.out.1
 have hg:=h1.1.of (hE.out.2.1.mono fun k hk=>.inl hk) hE.out.2.2
 have HR:Hid (Chs w1 w0 w' K sb rb ti tl n N a C L nx X):=Hd ⟨S,o0,o1,⟨hg.1,h1.2.trans hg.2⟩,h2,h3,h4⟩
 have hj:((sRun tt 1 (from_ f (entsO o0)) []).1.length=0 /\ NoC C f tt) \/ ((sRun tt 1 (from_ f (entsO o0)) []).1.length=1 /\ ¬ NoC C f tt):=by
  have hq:(∀ e ∈ entsO o0,kless e.1 f=false -> kless e.1 tt=false) ↔ NoC C f tt:=by
   rw [h3.eq]
   exact ⟨fun hh c hc=>hh (encC c) (List.mem_map.2 ⟨c,hc,rfl⟩),fun hh e he=>by
    obtain ⟨c,hc,rfl⟩:=List.mem_map.1 he
    exact hh c hc⟩
  have:=sRun_one h2.srt0 f tt ht
  rwa [hq] at this
 generalize (sRun tt 1 (from_ f (entsO o0)) []).1=R at *
 rcases hv.2 with ⟨rfl,h0⟩ | ⟨g,cap,cur,rfl,-⟩
 ·have:R.length=0:=by
   first | exact h0 | simpa using h0 | (have:=h0; omega)
  exact ⟨none,0,0,rfl,by rwa [this] at hj,HR⟩
 ·exact ⟨_,_,_,rfl,hj,HR⟩
def ffB:ByteArray:=⟨#[255,255]⟩
theorem last_k (p:ByteArray) (k:Nat) (hp:p.size <= 1000) (hk:k < 256) (h:Hid (Chs w1 w0 w K sb rb ti tl n N a C L nx X)) (hN:a <= N /\ N <= 1000) (hC:C.length <= 1000000) :
 Calls Tryz.prog 65 #[.pointer (some ⟨sb,0,none⟩),.string p,.int .i64 (k:Int)] w fun e w'=>∃ b:Bool,e=.returned (.tuple #[.bool b,.int .i64 0]) /\ (b=true ↔ NoC C (nameB p k) (p ++ ffB)) /\ Hid (Chs w1 w0 w' K sb rb ti tl n N a C L nx X):=by
 have NM:Hid (∀ W,Hid (Chs w1 w0 W K sb rb ti tl n N a C L nx X) -> Calls Tryz.prog 64 #[.string p,.int .i64 (k:Int)] W fun e w'=>e=.returned (.string (nameB p k)) /\ w'.cell? ⟨sb,1,none⟩=some (.pointer (some ⟨ti,0,none⟩)) /\ Hid (Chs w1 w0 w' K sb rb ti tl n N a C L nx X)):=Hd fun W hW=>by
  refine (name_c p k W (by omega) hk).mono ?_
  rintro e w' ⟨rfl,hb⟩
  have:=hW.out.below hb.out
  exact ⟨rfl,this.sbk.cells.2.1,Hd this⟩
 obtain ⟨nm,hnm⟩:=exE (nameB p k)
 obtain ⟨tt,htt⟩:=exE (p ++ ffB)
 have ht:tt.size ≠ 0:=by rw [<- htt,ByteArray.size_append]; show p.size + 2 ≠ 0; omega
 have SC:Hid (∀ W,Hid (Chs w1 w0 W K sb rb ti tl n N a C L nx X) -> Calls Tryz.prog 87 #[.pointer (some ⟨ti,0,none⟩),.string nm,.string tt,.int .i64 1] W fun e w'=>∃ v k j,e=.returned (.tuple #[.slice v j k,.int .i64 0]) /\ ((j=0 /\ NoC C nm tt) \/ (j=1 /\ ¬ NoC C nm tt)) /\ w'.cell? ⟨sb,1,none⟩=some (.pointer (some ⟨ti,0,none⟩)) /\ Hid (Chs w1 w0 w' K sb rb ti tl n N a C L nx X)):=Hd fun W hW=>by
  refine (idx_one w1 W w0 K sb rb ti tl n N a nx C L X nm tt ht hW hN hC).mono ?_
  rintro e w' ⟨v,k,j,rfl,hj,hE⟩
  exact ⟨v,k,j,rfl,hj,hE.out.sbk.cells.2.1,hE⟩
 have ap:p ++ (⟨#[255,255]⟩:ByteArray)=tt:=htt
 have h1:(p.size + (⟨#[255,255]⟩:ByteArray).size > 9223372036854775807)=False:=by
  show (p.size + 2 > 9223372036854775807)=False
  simp; omega
 have h2:(p.size + 2 > 9223372036854775807)=False:=by simp; omega
 have h3:¬ 9223372036854775807 < p.size + 2:=by omega
 obtain ⟨s0,s1,s2⟩:=h.out.sbk.cells
 rw [hnm] at NM ⊢
 rw [htt]
 have HD:Hid (Chs w1 w0 w.drew K sb rb ti tl n N a C L nx X):=Hd (h.out.below (Below.refl _ _).drew)
 clear hp hN hC ht htt hnm hk
 go_enter Tryz.func65,Tryz.ntmps65
 go_wp2_with fail
 go_region_held3 (fun w'=>w'.cell? ⟨sb,1,none⟩=some (.pointer (some ⟨ti,0,none⟩))) (go_keep) ((first
  | (go_at_call 64
     refine Calls.at_args (NM.out _ HD) (by with_reducible rfl) ?_
     rintro e w3 ⟨rfl,hk3,G3⟩)
  | (go_at_call 87
     refine Calls.at_args (SC.out _ G3) (by with_reducible rfl) ?_
     rintro e w4 ⟨v,kk,j,rfl,hj,hk4,G4⟩)))
 all_goals (
  rcases hj with ⟨rfl,hj⟩ | ⟨rfl,hj⟩
  all_goals (
   go_wp2_with fail
   go_ret2
   first
    | exact ⟨true,rfl,by simp [hj],G4⟩
    | exact ⟨false,rfl,by simp [hj],G4⟩))
end
section
variable (w1 w w0:World) (K:Nat -> Prop) (sb rb ti tl n N a nx:Nat) (C:List Ck) (L:List Lg) (X:List (Nat × ByteArray))
theorem blob_get (p:Nat) (s:ByteArray) (hx:(p,s) ∈ X) (hs:s.size <= 128) (h:Hid (Chs w1 w0 w K sb rb ti tl n N a C L nx X)) (hN:a <= N /\ N <= 1000) :
 Calls Tryz.prog 66 #[.pointer (some ⟨rb,0,none⟩),.int .i64 (p:Int)] w fun e w'=>e=.returned (.tuple #[.string s,.int .i64 0]) /\ Hid (Chs w1 w0 w' K sb rb ti tl n N a C L nx X):=by
 have H:=h.out
 obtain ⟨S,o0,o1,h1,h2,h3,h4⟩:=H
 obtain ⟨G,x1,-⟩:=h1.1.1
 have hp:=h2.pg _ hx
 refine (Get_b G rb n (300 * a) S p s w x1 (by omega) hs hp.1 hp.2).mono ?_
 rintro e w' ⟨rfl,hb⟩
 exact ⟨rfl,Hd (h.out.below hb.out)⟩
theorem blob_put (s:ByteArray) (hs:s.size <= 128) (h:Hid (Chs w1 w0 w K sb rb ti tl n N a C L nx X)) (hN:a < N /\ N <= 1000) :
 Calls Tryz.prog 67 #[.pointer (some ⟨rb,0,none⟩),.string s] w fun e w'=>∃ p:Nat,e=.returned (.tuple #[.int .i64 (p:Int),.int .i64 0]) /\ Hid (p < 65536 /\ Chs w1 w0 w' K sb rb ti tl n N (a + 1) C L nx ((p,s) :: X)):=by
 obtain ⟨S,o0,o1,h1,h2,h3,h4,h5,h6⟩:=h.out
 obtain ⟨G,x1,x2,x3,x4⟩:=h1.1.1
 have hbd:=x1.bounds
 have hf:∃ q,q < pagesN n /\ S.used q=false:=by
  obtain ⟨U,u1,u2⟩:=h2.sp
  obtain ⟨q,q1,q2⟩:=pigeon (pagesN n) U (by omega)
  refine ⟨q,q1,?_⟩
  cases hq:S.used q with
  | false=>rfl
  | true=>exact absurd (u1 q hq) q2
 refine (Put_b G rb n (300 * a) S s w x1 (by omega) hs hf).mono ?_
 rintro e w' ⟨p,rfl,hE⟩
 obtain ⟨e1,e2,e3⟩:=hE.out
 have hg:=RSt.of x2 x3 x4 e3
 have hh:=h1.1.of hg.1 hg.2
 have ht:=(h2.less (c':=24 * (N - (a + 1)) + 1) (b0:=a + 1) (b1:=a + 1) (by omega) (by omega) (by omega)).blob (s:=s) e2
 exact ⟨p,rfl,Hd ⟨by unfold pagesN at e1; omega,blobS S p s,o0,o1,⟨hh.1.more (by omega),h1.2.trans hh.2⟩,ht,h3,h4,h5,by omega⟩⟩
theorem root2 (h:Hid (Chs w1 w0 w K sb rb ti tl n N a C L nx X)) (hN:a <= N /\ N <= 1000) :
 Calls Tryz.prog 69 #[.pointer (some ⟨rb,0,none⟩),.int .i64 2] w fun e w'=>e=.returned (.tuple #[.int .u64 (nx:Int),.int .i64 0]) /\ Hid (Chs w1 w0 w' K sb rb ti tl n N a C L nx X):=by
 have H:=h.out
 obtain ⟨S,o0,o1,h1,h2,h3,h4,h5,h6⟩:=H
 obtain ⟨G,⟨puts,y1,y2,y3⟩,-⟩:=h1.1.1
 have RC:=Root_c G rb n puts S 2 w y2 y3 (by omega) (by decide)
 rw [h5] at RC
 refine RC.mono ?_
 rintro e w' ⟨rfl,hb⟩
 exact ⟨rfl,Hd (h.out.below hb)⟩
def ChsM (w1 w0 w:World) (K:Nat -> Prop) (sb rb ti tl n N a:Nat) (C:List Ck) (L:List Lg) (nx:Nat) (X:List (Nat × ByteArray)):Prop :=
 ∃ S o0 o1,CGo w1 w0 w K sb rb ti tl n (300 * a + 100) S /\ TwoM S n (24 * (N - (a + 1)) + 1) o0 o1 (a + 1) (a + 1) X /\ CRel (entsO o0) C /\ GRel (entsO o1) L (nx + 1) /\ S.root 2=nx /\ nx <= a
theorem ChsM.sbk (h:ChsM w1 w0 w K sb rb ti tl n N a C L nx X):SBk w sb rb ti tl:=by obtain ⟨S,o0,o1,h1,h2⟩:=h; exact h1.1.2
theorem set_root2 (h:Hid (ChsM w1 w0 w K sb rb ti tl n N a C L nx X)) (hN:a < N /\ N <= 1000) :
 Calls Tryz.prog 72 #[.pointer (some ⟨rb,0,none⟩),.int .i64 2,.int .u64 ((nx:Int) + 1)] w fun e w'=>e=.returned (.int .i64 0) /\ Hid (Chs w1 w0 w' K sb rb ti tl n N (a + 1) C L (nx + 1) X):=by
 obtain ⟨S,o0,o1,h1,h2,h3,h4,h5,h6⟩:=h.out
 obtain ⟨G,⟨puts,y1,y2,y3⟩,x2,x3,x4⟩:=h1.1.1
 refine (SetRoot_c G rb n puts S 2 (nx + 1) w y2 y3 (by omega) (by decide) (by omega)).mono ?_
 rintro e w' ⟨rfl,hE⟩
 have hg:=RSt.of x2 x3 x4 (StGo.of_room hE.out y1)
 have hh:=h1.1.of hg.1 hg.2
 have hr:(setRootS S 2 (nx + 1)).root 2=nx + 1:=by
  show upd S.root 2 (nx + 1) 2=nx + 1
  unfold upd; rw [if_pos rfl]
 exact ⟨rfl,Hd ⟨_,o0,o1,⟨hh.1.more (by omega),h1.2.trans hh.2⟩,(h2.root (Nat.le_refl 2)).less (by omega) (Nat.le_refl _) (Nat.le_refl _),h3,h4,hr,by omega⟩⟩
theorem Get_yes (id:ByteArray) (c:Ck) (h:Hid (Chs w1 w0 w K sb rb ti tl n N a C L nx X)) (hN:a <= N /\ N <= 1000) (hi:id.size <= 96) (hf:cAt C id=some c) (hx:(c.page,c.text) ∈ X) :
 Calls Tryz.prog 29 #[.pointer (some ⟨sb,0,none⟩),.string id] w fun e w'=>e=.returned (.tuple #[.string c.text,.int .i64 0]) /\ Hid (Chs w1 w0 w' K sb rb ti tl n N a C L nx X):=by
 have FN:=find_yes id c h hN hi hf
 rw [show c.v=.agg #[.int .i64 (c.page:Int),.int .i64 (c.text.size:Int),.int .i64 c.cnt] from rfl] at FN
 have BG:Hid (∀ W W0 x,Hid (W0.heap[x]?=some (.cells #[.int .i64 (c.page:Int),.int .i64 (c.text.size:Int),.int .i64 c.cnt] 124 (0,0)) /\ Chs w1 W0 W (fun k=>K k \/ k=x) sb rb ti tl n N a C L nx X) -> Calls Tryz.prog 66 #[.pointer (some ⟨rb,0,none⟩),.int .i64 (c.page:Int)] W fun e w'=>e=.returned (.tuple #[.string c.text,.int .i64 0]) /\ (w'.cell? ⟨sb,0,none⟩=some (.pointer (some ⟨rb,0,none⟩)) /\ w'.cell? ⟨x,0,none⟩=some (.int .i64 (c.page:Int))) /\ Hid (Chs w1 W0 w' (fun k=>K k \/ k=x) sb rb ti tl n N a C L nx X)):=Hd fun W W0 x hW=>by
  refine (blob_get w1 W W0 _ sb rb ti tl n N a nx C L X c.page c.text hx (h.out.ok.1 c (cAt_some hf).1).t2 (Hd hW.out.2) hN).mono ?_
  rintro e w' ⟨rfl,hE⟩
  exact ⟨rfl,⟨hE.out.sbk.cells.1,cell_lit ((hE.out.kept x (.inr rfl)).trans hW.out.1) rfl⟩,hE⟩
 clear h hN hi hf hx
 generalize c.page=z0 at *
 generalize c.text=tx at *
 generalize (tx.size:Int)=z1 at *
 generalize c.cnt=z2 at *
 go_enter Tryz.func29,Tryz.ntmps29
 go_wp2_with fail
 refine FN.mono ?_
 rintro e w2 ⟨rfl,G2⟩
 obtain ⟨s0,s1,s2⟩:=G2.out.sbk.cells
 have lsb:sb < w2.heap.size:=lt_of_heap G2.out.sbk.1
 have HB:Hid (∀ o,Below w2.heap.size w2 (w2.alloc o)):=Hd fun o=>(Below.refl _ _).alloc (Nat.le_refl _) _
 have G3:Hid (∀ o,Chs w1 (w2.alloc o) (w2.alloc o).drew (fun k=>K k \/ k=w2.heap.size) sb rb ti tl n N a C L nx X):=Hd fun o=>(G2.out.new (HB.out o) w2.heap.size (Nat.le_refl _) (by simp)).below (Below.refl _ _).drew
 go_wp2_with fail
 go_region_held3 (fun w'=>w'.cell? ⟨sb,0,none⟩=some (.pointer (some ⟨rb,0,none⟩)) /\ w'.cell? ⟨w2.heap.size,0,none⟩=some (.int .i64 (z0:Int))) (go_keep) ((first
  | (go_at_call 66
     refine Calls.at_args (BG.out _ _ _ (Hd ⟨heap_alloc_new _ _,G3.out _⟩)) (by with_reducible rfl) ?_
     rintro e w4 ⟨rfl,hk4,G4⟩)))
 all_goals (
  go_wp2_with fail
  go_ret2
  exact ⟨rfl,Hd (G2.out.end_ (K':=fun k=>k=w2.heap.size) G4.out (HB.out _))⟩)
end
theorem undo_d (sb eb:Nat) (k:Int) (u:FrameMode) (w:World) (he:w.cell? ⟨eb,0,none⟩=some (.int .i64 0)) :
 CallsD Tryz.prog 60 #[.pointer (some ⟨sb,0,none⟩),.int .i64 k,.pointer (some ⟨eb,0,none⟩)] u w fun e u' w'=>u'=u /\ (e=.returned (.tuple #[]) /\ w'=w):=by
 go_enter_d Tryz.func60,Tryz.ntmps60
 go_wp2
 go_end0
 exact ⟨rfl,rfl⟩
structure ChE (w1 wA:World) (x:Nat) (er:Int) (w:World) (K:Nat -> Prop) (sb rb ti tl n N a:Nat) (C:List Ck) (L:List Lg) (nx:Nat) (X:List (Nat × ByteArray)):Prop where
 st:Chs w1 w w (fun k=>K k \/ k=x) sb rb ti tl n N a C L nx X
 kp:Kept K wA w
 bx:w.heap[x]?=some (.cells #[.int .i64 er] 34 (0,0))
 lo:w1.heap.size <= x /\ True
 ne:x ≠ sb /\ x ≠ ti /\ x ≠ tl
 nk:¬ K x
theorem Chs.reset {w1 w0 w:World} {K:Nat -> Prop} {sb rb ti tl n N a nx:Nat} {C:List Ck} {L:List Lg} {X:List (Nat × ByteArray)} (h:Chs w1 w0 w K sb rb ti tl n N a C L nx X):Chs w1 w w K sb rb ti tl n N a C L nx X:=by
 obtain ⟨S,o0,o1,h1,h2⟩:=h
 exact ⟨S,o0,o1,⟨h1.1,fun _ _=>rfl⟩,h2⟩
section
variable {w1 wA w w' w0:World} {x:Nat} {er:Int} {K:Nat -> Prop} {sb rb ti tl n N a a' nx nx':Nat} {C C':List Ck} {L L':List Lg} {X X':List (Nat × ByteArray)}
theorem ChE.start (h:Chs w1 w0 w K sb rb ti tl n N a C L nx X):ChE w1 w w.heap.size 0 (w.alloc (.cells #[.int .i64 0] 34)) K sb rb ti tl n N a C L nx X:=by
 have hb:Below w.heap.size w (w.alloc (.cells #[.int .i64 0] 34)):=(Below.refl w.heap.size w).alloc (Nat.le_refl _) _
 have hs:=h.sbk
 have h1:=lt_of_heap hs.1
 have h2:=lt_of_heap hs.2.1
 have h3:=lt_of_heap hs.2.2
 refine ⟨h.new hb w.heap.size (Nat.le_refl _) (by simp),h.keep hb,heap_alloc_new _ _,⟨h.bel.size,trivial⟩,by omega,fun hk=>?_⟩
 have:=h.klt hk
 omega
theorem ChE.step (h:ChE w1 wA x er w K sb rb ti tl n N a C L nx X) (g:Chs w1 w w' (fun k=>K k \/ k=x) sb rb ti tl n N a' C' L' nx' X'):ChE w1 wA x er w' K sb rb ti tl n N a' C' L' nx' X' :=
 ⟨g.reset,h.kp.trans (g.kept.mono fun k hk=>.inl hk),(g.kept x (.inr rfl)).trans h.bx,h.lo,h.ne,h.nk⟩
theorem ChE.below (h:ChE w1 wA x er w K sb rb ti tl n N a C L nx X) (hb:Below w.heap.size w w'):ChE w1 wA x er w' K sb rb ti tl n N a C L nx X:=h.step (h.st.below hb)
theorem ChE.set (h:ChE w1 wA x er w K sb rb ti tl n N a C L nx X) (e2:Int):ChE w1 wA x e2 (w.setCell ⟨x,0,none⟩ (.int .i64 e2)) K sb rb ti tl n N a C L nx X:=by
 obtain ⟨S,o0,o1,h1,h2⟩:=h.st
 refine ⟨⟨S,o0,o1,⟨h1.1.set (.inr rfl) h.lo.1 h.ne 0 _,fun _ _=>rfl⟩,h2⟩,fun k hk=>?_,heap_set_lit h.bx _,h.lo,h.ne,h.nk⟩
 have hne:k ≠ x:=fun e=>h.nk (by rw [<- e]; exact hk)
 rw [heap_set_ne _ hne,h.kp k hk]
theorem ChE.new (h:ChE w1 wA x er w K sb rb ti tl n N a C L nx X) (o:Obj):ChE w1 (w.alloc o) x er (w.alloc o) (fun k=>K k \/ k=w.heap.size) sb rb ti tl n N a C L nx X:=by
 have hb:Below w.heap.size w (w.alloc o):=(Below.refl w.heap.size w).alloc (Nat.le_refl _) _
 have hl:=lt_of_heap h.bx
 refine ⟨((h.st.new hb w.heap.size (Nat.le_refl _) (by simp))).mono fun k hk=>?_,fun _ _=>rfl,(hb.block x hl).trans h.bx,h.lo,h.ne,?_⟩
 ·rcases hk with (hk | hk) | hk
  ·exact .inl (.inl hk)
  ·exact .inr hk
  ·exact .inl (.inr hk)
 ·rintro (hk | hk)
  ·exact h.nk hk
  ·omega
theorem ChE.old {K2:Nat -> Prop} {o:Obj} {er2:Int} (h:ChE w1 wA x er w K sb rb ti tl n N a C L nx X) (g:ChE w1 (w.alloc o) x er2 w' (fun k=>K k \/ K2 k) sb rb ti tl n N a' C' L' nx' X'):ChE w1 wA x er2 w' K sb rb ti tl n N a' C' L' nx' X':=by
 have hb:Below w.heap.size w (w.alloc o):=(Below.refl w.heap.size w).alloc (Nat.le_refl _) _
 refine ⟨g.st.mono fun k hk=>?_,?_,g.bx,g.lo,g.ne,h.nk⟩
 ·rcases hk with hk | hk
  ·exact .inl (.inl hk)
  ·exact .inr hk
 ·exact (h.kp.trans ((h.st.keep hb).mono fun k hk=>.inl hk)).trans (g.kp.mono fun k hk=>.inl hk)
theorem ChE.cell (h:ChE w1 wA x er w K sb rb ti tl n N a C L nx X):w.cell? ⟨x,0,none⟩=some (.int .i64 er) /\ w.frozen? ⟨x,0,none⟩=false /\ x < w.heap.size:=⟨cell_lit h.bx rfl,frozen_lit h.bx 0,lt_of_heap h.bx⟩
theorem ChE.end_ (h0:Chs w1 w0 wA K sb rb ti tl n N a C L nx X) (h:ChE w1 wA x er w K sb rb ti tl n N a' C' L' nx' X'):Chs w1 w0 w K sb rb ti tl n N a' C' L' nx' X' :=
 ((h.st.mono fun k hk=>.inl hk).to h.kp).to h0.kept
end
theorem write_n (nx:Nat) (hn:nx < 1000000000) (W:World) (g:Nat) (hg:W.heap[g]?=some (.cells #[.int .u64 (nx:Int),.string ⟨#[]⟩] 139 (0,0))) :
 Calls Tryz.prog 70 #[.string ⟨#[110]⟩,.slice (some ⟨g,0,none⟩) 1 1] W fun e w'=>e=.returned (.tuple #[.string (lkey nx),.bool true]) /\ Hid (Below W.heap.size W w'):=by
 have hv:FldsAt W (.slice (some ⟨g,0,none⟩) 1 1) [(nx,⟨#[]⟩)]:=flds1k hg (by omega)
 have WC:=Write_c ⟨#[110]⟩ (.slice (some ⟨g,0,none⟩) 1 1) [(nx,⟨#[]⟩)] W (by decide) hv fun p hp=>by
  simp only [List.mem_cons,List.not_mem_nil,or_false] at hp
  subst hp; exact Nat.zero_le _
 rw [show ((⟨#[110]⟩:ByteArray)).data.toList=[110] from rfl,lkey_write nx hn] at WC
 refine WC.mono ?_
 rintro e w' ⟨rfl,h⟩
 exact ⟨rfl,h⟩
theorem write_l (e0:Lg) (he:e0.Ok) (W:World) (g:Nat) (hg:W.heap[g]?=some (.cells #[.int .u64 (sgB e0.up:Int),.string ⟨#[]⟩,.int .u64 0,.string e0.id] 139 (0,0))) :
 Calls Tryz.prog 70 #[.string ⟨#[98,114]⟩,.slice (some ⟨g,0,none⟩) 2 2] W fun e w'=>e=.returned (.tuple #[.string e0.val,.bool true]) /\ Hid (Below W.heap.size W w'):=by
 have h1:sgB e0.up < 256:=by unfold sgB; split <;> omega
 have hv:FldsAt W (.slice (some ⟨g,0,none⟩) 2 2) e0.flds:=flds2k (a1:=0) hg (by
  intro p hp
  simp only [List.mem_cons,List.not_mem_nil,or_false] at hp
  rcases hp with rfl | rfl <;> simp only <;> omega)
 have WC:=Write_c kindsL (.slice (some ⟨g,0,none⟩) 2 2) e0.flds W (by decide) hv fun p hp=>by
  have:=he.id
  simp only [Lg.flds,List.mem_cons,List.not_mem_nil,or_false] at hp
  rcases hp with rfl | rfl
  ·exact Nat.zero_le _
  ·show e0.id.size <= _; omega
 rw [Lg.write e0] at WC
 refine WC.mono ?_
 rintro e w' ⟨rfl,h⟩
 exact ⟨rfl,h⟩
theorem alloc_new_set (w:World) (x:Nat) (v:Value) (a:Array Value) (t:TypeId):((w.setCell ⟨x,0,none⟩ v).alloc (.cells a t)).heap[w.heap.size]?=some (.cells a t (0,0)):=by
 have:=heap_alloc_new (w.setCell ⟨x,0,none⟩ v) (.cells a t)
 simpa using this
def byI (up:Bool):Int:=if up then 1 else -1
section
variable (w1 w w0:World) (K:Nat -> Prop) (sb rb ti tl n N a nx:Nat) (C:List Ck) (L:List Lg) (X:List (Nat × ByteArray))
theorem Add_yes (id:ByteArray) (up:Bool) (c:Ck) (h:Hid (Chs w1 w0 w K sb rb ti tl n N a C L nx X)) (hN:a < N /\ N <= 1000) (hi:id.size=33) (hf:cAt C id=some c) :
 Calls Tryz.prog 19 #[.pointer (some ⟨sb,0,none⟩),.string id,.int .i64 (byI up)] w fun e w'=>e=.returned (.int .i64 0) /\ Hid (Chs w1 w0 w' K sb rb ti tl n N (a + 1) C (L ++ [⟨nx,up,id⟩]) (nx + 1) X):=by
 obtain ⟨x,hx⟩:=exE (w.heap.size)
 obtain ⟨wb,hwb⟩:=exE (w.alloc (.cells #[.int .i64 0] 34))
 have E0:Hid (ChE w1 w x 0 wb K sb rb ti tl n N a C L nx X):=Hd (by subst hx hwb; exact ChE.start h.out)
 obtain ⟨k,MK⟩:=Mark_k w1 wb wb _ sb rb ti tl n N a nx C L X (Hd E0.out.st)
 have FY:=find_yes id c (Hd E0.out.st) ⟨by omega,hN.2⟩ (by omega) hf
 rw [show c.v=.agg #[.int .i64 (c.page:Int),.int .i64 (c.text.size:Int),.int .i64 c.cnt] from rfl] at FY
 have hnx:=h.out.ok.2.2.2
 have RT:Hid (∀ W,Hid (ChE w1 w x 0 W K sb rb ti tl n N a C L nx X) -> Calls Tryz.prog 69 #[.pointer (some ⟨rb,0,none⟩),.int .i64 2] W fun e w'=>e=.returned (.tuple #[.int .u64 (nx:Int),.int .i64 0]) /\ Hid (ChE w1 w x 0 w' K sb rb ti tl n N a C L nx X)):=Hd fun W hW=>by
  refine (root2 w1 W W _ sb rb ti tl n N a nx C L X (Hd hW.out.st) ⟨by omega,hN.2⟩).mono ?_
  rintro e w' ⟨rfl,hE⟩
  exact ⟨rfl,Hd (hW.out.step hE.out)⟩
 have WN:Hid (∀ W g,Hid (ChE w1 w x 0 W K sb rb ti tl n N a C L nx X) -> W.heap[g]?=some (.cells #[.int .u64 (nx:Int),.string ⟨#[]⟩] 139 (0,0)) -> Calls Tryz.prog 70 #[.string ⟨#[110]⟩,.slice (some ⟨g,0,none⟩) 1 1] W fun e w'=>e=.returned (.tuple #[.string (lkey nx),.bool true]) /\ Hid (ChE w1 w x 0 w' K sb rb ti tl n N a C L nx X)):=Hd fun W g hW hg=>by
  refine (write_n nx (by omega) W g hg).mono ?_
  rintro e w' ⟨rfl,hE⟩
  exact ⟨rfl,Hd (hW.out.below hE.out)⟩
 have HOK:Lg.Ok ⟨nx,up,id⟩:=⟨by show nx < _; omega,hi⟩
 have WL:Hid (∀ W g,Hid (ChE w1 w x 0 W K sb rb ti tl n N a C L nx X) -> W.heap[g]?=some (.cells #[.int .u64 (sgB up:Int),.string ⟨#[]⟩,.int .u64 0,.string id] 139 (0,0)) -> Calls Tryz.prog 70 #[.string ⟨#[98,114]⟩,.slice (some ⟨g,0,none⟩) 2 2] W fun e w'=>e=.returned (.tuple #[.string (Lg.val ⟨nx,up,id⟩),.bool true]) /\ Hid (ChE w1 w x 0 w' K sb rb ti tl n N a C L nx X)):=Hd fun W g hW hg=>by
  refine (write_l ⟨nx,up,id⟩ HOK W g hg).mono ?_
  rintro e w' ⟨rfl,hE⟩
  exact ⟨rfl,Hd (hW.out.below hE.out)⟩
 have LP:Hid (∀ W,Hid (ChE w1 w x 0 W K sb rb ti tl n N a C L nx X) -> Calls Tryz.prog 71 #[.pointer (some ⟨tl,0,none⟩),.string (lkey nx),.string (Lg.val ⟨nx,up,id⟩)] W fun e w'=>e=.returned (.int .i64 0) /\ Hid (ChsM w1 W w' (fun k=>K k \/ k=x) sb rb ti tl n N a C (L ++ [⟨nx,up,id⟩]) nx X)):=Hd fun W hW=>by
  refine (log_put ⟨nx,up,id⟩ HOK rfl (Hd hW.out.st) hN).mono ?_
  rintro e w' ⟨rfl,hE⟩
  exact ⟨rfl,Hd hE.out⟩
 have SR:Hid (∀ W0 W,Hid (ChE w1 w x 0 W0 K sb rb ti tl n N a C L nx X) -> Hid (ChsM w1 W0 W (fun k=>K k \/ k=x) sb rb ti tl n N a C (L ++ [⟨nx,up,id⟩]) nx X) -> Calls Tryz.prog 72 #[.pointer (some ⟨rb,0,none⟩),.int .i64 2,.int .u64 ((nx:Int) + 1)] W fun e w'=>e=.returned (.int .i64 0) /\ Hid (ChE w1 w x 0 w' K sb rb ti tl n N (a + 1) C (L ++ [⟨nx,up,id⟩]) (nx + 1) X)):=Hd fun W0 W h0 hW=>by
  refine (set_root2 w1 W W0 _ sb rb ti tl n N a nx C _ X hW hN).mono ?_
  rintro e w' ⟨rfl,hE⟩
  exact ⟨rfl,Hd (h0.out.step hE.out)⟩
 have kn:IntKind.u64.wrap ((nx:Int) + 1)=(nx:Int) + 1:=by
  have:=wrap_u64 (v:=nx + 1) (by omega)
  simpa using this
 have HBA:Hid (∀ (W:World) (o:Obj),Below W.heap.size W (W.alloc o)):=Hd fun W o=>(Below.refl _ _).alloc (Nat.le_refl _) o
 generalize c.page=z0 at *
 generalize (c.text.size:Int)=z1 at *
 generalize c.cnt=z2 at *
 generalize hvl:Lg.val ⟨nx,up,id⟩=vl at *
 generalize L ++ [⟨nx,up,id⟩]=L' at *
 generalize lkey nx=ky at *
 have HH:=Hd h.out
 clear h hN hi hf HOK hvl hnx
 cases up
 all_goals (
  first
   | rw [show byI true=1 from rfl]
   | rw [show byI false=-1 from rfl]
  first
   | rw [show ((sgB true:Nat):Int)=1 from rfl] at WL
   | rw [show ((sgB false:Nat):Int)=0 from rfl] at WL
  go_enter_defers Tryz.func19,Tryz.ntmps19
  go_wp2_with fail
  subst hx
  refine MK.mono ?_
  rintro e wm ⟨rfl,rfl⟩
  go_wp2_with fail
  refine FY.mono ?_
  rintro e w2 ⟨rfl,G2⟩
  have E2:=Hd (E0.out.step G2.out)
  obtain ⟨cx,fx,lx⟩:=E2.out.cell
  obtain ⟨s0,s1,s2⟩:=E2.out.st.sbk.cells
  have lsb:sb < w2.heap.size:=lt_of_heap E2.out.st.sbk.1
  have nsb:sb ≠ w.heap.size:=E2.out.ne.1.symm
  clear FY MK G2
  go_wp2_with fail
  refine (RT.out _ (Hd ((E2.out.set 0).below (HBA.out _ _)))).mono ?_
  rintro e w3 ⟨rfl,E3⟩
  clear RT cx fx lx s0 s1 s2 lsb
  obtain ⟨cx,fx,lx⟩:=E3.out.cell
  obtain ⟨s0,s1,s2⟩:=E3.out.st.sbk.cells
  have lsb:sb < w3.heap.size:=lt_of_heap E3.out.st.sbk.1
  go_wp2_with fail
  refine (WN.out _ _ (Hd ((E3.out.set 0).below (HBA.out _ _))) (alloc_new_set _ _ _ _ _)).mono ?_
  rintro e w4 ⟨rfl,E4⟩
  clear WN cx fx lx s0 s1 s2 lsb
  obtain ⟨cx,fx,lx⟩:=E4.out.cell
  obtain ⟨s0,s1,s2⟩:=E4.out.st.sbk.cells
  go_wp2_with fail
  refine (WL.out _ _ (Hd (E4.out.below (HBA.out _ _))) (heap_alloc_new _ _)).mono ?_
  rintro e w5 ⟨rfl,E5⟩
  clear WL cx fx lx s0 s1 s2
  obtain ⟨cx,fx,lx⟩:=E5.out.cell
  obtain ⟨s0,s1,s2⟩:=E5.out.st.sbk.cells
  go_wp2_with fail
  refine (LP.out _ E5).mono ?_
  rintro e w6 ⟨rfl,M6⟩
  clear LP cx fx lx s0 s1 s2
  obtain ⟨s0,s1,s2⟩:=M6.out.sbk.cells
  go_wp2_with fail
  refine (SR.out _ _ E5 M6).mono ?_
  rintro e w7 ⟨rfl,E7⟩
  clear SR s0 s1 s2
  obtain ⟨cx,fx,lx⟩:=E7.out.cell
  have E8:=Hd (E7.out.set 0)
  have hfin:=E8.out.cell.1
  go_wp2_with fail
  refine leaves_cons (f:=60) (args:=#[.pointer (some ⟨sb,0,none⟩),.int .i64 (k:Int),.pointer (some ⟨w.heap.size,0,none⟩)]) (by simp) (by simp [go_sem]) ?_
  refine (undo_d _ _ _ _ _ hfin).mono ?_
  rintro e u' w9 ⟨rfl,rfl,rfl⟩
  have HGO:=Hd (ChE.end_ HH.out E8.out)
  simp [Leaves,settle,results,Tryz.results19,go_sem,hfin]
  exact HGO)
end
theorem sRun_take (limit:Nat):∀ (F L:List (ByteArray × ByteArray)) (_:L.length <= limit),(sRun ⟨#[]⟩ limit F L).1=L ++ F.take (limit - L.length)
 | [],L,_=>by simp [sRun]
 | e :: F,L,h=>by
   by_cases hl:L.length=limit
   ·rw [sRun_cons,if_pos (.inl hl),hl]; simp
   ·rw [sRun_cons,if_neg (by rintro (h | ⟨h,-⟩); · exact hl h
                             ·exact h rfl),sRun_take limit F (L ++ [e]) (by simp; omega)]
    obtain ⟨d,hd⟩:∃ d,limit - L.length=d + 1:=⟨limit - L.length - 1,by omega⟩
    rw [hd,List.length_append,show limit - (L.length + [e].length)=d by simp; omega]
    simp
theorem pairK_get (L:List (ByteArray × ByteArray)) (i:Nat) (h:i < L.length):(pairC L)[i * 2]?=some (.string L[i].1) /\ (pairC L)[i * 2 + 1]?=some (.string L[i].2):=by
 induction L generalizing i with
 | nil=>simp at h
 | cons e L ih =>
   have e1:pairC (e :: L)=.string e.1 :: .string e.2 :: pairC L:=by simp [pairC]
   rw [e1]
   cases i with
   | zero=>exact ⟨rfl,rfl⟩
   | succ i =>
     have:=ih i (by simpa using h)
     rw [show (i + 1) * 2=i * 2 + 1 + 1 by omega]
     simpa using this
theorem from_nil (E:List (ByteArray × ByteArray)):from_ ⟨#[]⟩ E=E:=from_all fun e he=>by
 cases hk:kless e.1 ⟨#[]⟩ with
 | false=>rfl
 | true =>
   rw [kless_iff] at hk
   exact absurd (show e.1.data.toList < [] from hk) (List.not_lt_nil _)
theorem Scan_zero (G:Nat -> Prop) (tb rb place n m:Nat) (S:RS) (w:World) (frm tt:ByteArray) (h:RmS w G rb n m S) (ht:TB w tb rb place) (hg:¬ G tb) (hp:place < 16) (hm:m <= 3900000) (hr:S.root place <= 65536) (hr1:1 <= S.root place) :
 Calls Tryz.prog 87 #[.pointer (some ⟨tb,0,none⟩),.string frm,.string tt,.int .i64 0] w fun e w'=>∃ v,e=.returned (.tuple #[v,.int .i64 0]) /\ Hid (ScanRes w w' G rb n m S [] v):=by
 have hmf:∀ (fn:Fn) (first cap:Array Value) (w:World),(Instr.makeFunc fn first cap).run Tryz.prog w=.ok (.func fn first cap) w:=fun _ _ _ _=>rfl
 have B0:=Hd ((TBase.start h ht hg).below (scanW_below w))
 have HG:=Hd h.lt
 have HM:=Hd hm
 have A0:=Hd (scanW_acc w)
 have E0:=Hd (scanW_e w)
 have S0:=Hd (scanW_size w)
 have RT:=root_c G tb rb place n m S _ B0.out.room B0.out.blk hp (by omega) hr
 have hq:(0:Int) <= (S.root place:Int) - 1:=by omega
 generalize (S.root place:Int) - 1=q at *
 clear h ht hg hp hm hr hr1
 go_enter_defers Tryz.func87,Tryz.ntmps87
 go_wp2_with fail
 change Calls Tryz.prog 125 #[.pointer (some ⟨tb,0,none⟩)] (scanW w) _
 generalize scanW w=W0 at *
 refine RT.mono ?_
 rintro e w2 ⟨rfl,hb⟩
 have B9:=Hd (B0.out.below hb.out)
 have A9:=Hd (A0.out.below hb.out)
 have E9:Hid (w2.heap[w.heap.size + 1]?=some (.cells #[.int .i64 0] 34 (0,0))):=Hd ((hb.out.block _ (lt_of_heap E0.out)).trans E0.out)
 obtain ⟨v9,hv9⟩:=exE (Value.slice none 0 0)
 rw [hv9] at A9
 clear hv9 RT hb
 have hfl:((w2.setCell ⟨w.heap.size,0,none⟩ v9).setCell ⟨w.heap.size + 1,0,none⟩ (.int .i64 0)).cell? ⟨w.heap.size,0,none⟩=some v9:=cell_lit ((heap_set_ne _ (by omega)).trans (heap_set_lit A9.out.blk _)) rfl
 have hfe:((w2.setCell ⟨w.heap.size,0,none⟩ v9).setCell ⟨w.heap.size + 1,0,none⟩ (.int .i64 0)).cell? ⟨w.heap.size + 1,0,none⟩=some (.int .i64 0):=cell_lit (heap_set_lit ((heap_set_ne _ (by omega)).trans E9.out) _) rfl
 have HRES:Hid (ScanRes w ((w2.setCell ⟨w.heap.size,0,none⟩ v9).setCell ⟨w.heap.size + 1,0,none⟩ (.int .i64 0)) G rb n m S [] v9):=Hd (by
  refine ⟨ownsRow_of2 A9.out.row fun k hk=>?_,(((StG.of B9.out (Below.refl _ _)).loc (x:=w.heap.size) (Nat.le_refl _) (fun e=>by have:=HG.out _ e; omega) 0 _).loc (x:=w.heap.size + 1) (by omega) (fun e=>by have:=HG.out _ e; omega) 0 _).keep⟩
  have h1:=(A9.out.row.lt k hk).1
  exact (heap_set_ne _ (by omega)).trans (heap_set_ne _ (by omega)))
 have m0:w2.cell? ⟨w.heap.size,0,none⟩=some v9:=cell_lit A9.out.blk rfl
 have m1:w2.frozen? ⟨w.heap.size,0,none⟩=false:=frozen_lit A9.out.blk 0
 have m2:w2.cell? ⟨w.heap.size + 1,0,none⟩=some (.int .i64 0):=cell_lit E9.out rfl
 have m3:w2.frozen? ⟨w.heap.size + 1,0,none⟩=false:=frozen_lit E9.out 0
 obtain ⟨xa,xm,xc,rfl⟩:∃ a b c,v9=.slice a b c:=by
  rcases A9.out.row.2 with ⟨rfl,_⟩ | ⟨g,cap,cur,rfl,_⟩
  ·exact ⟨_,_,_,rfl⟩
  ·exact ⟨_,_,_,rfl⟩
 clear B0 A0 E0
 go_wp2_with fail
 refine leaves_cons (f:=124) (args:=#[.pointer (some ⟨w.heap.size + 1,0,none⟩)]) (by simp) (by simp [go_sem]) ?_
 refine (guard_idle _ _).mono ?_
 rintro e u' wa ⟨rfl,rfl,rfl⟩
 refine leaves_cons (f:=141) (args:=#[.pointer (some ⟨w.heap.size + 1,0,none⟩),.pointer (some ⟨w.heap.size,0,none⟩)]) (by simp [settle]) (by simp [go_sem]) ?_
 refine (scan1_idle _ _ _ _ hfe).mono ?_
 rintro e u' wb ⟨rfl,rfl,rfl⟩
 simp [Leaves,settle,results,Tryz.results87,go_sem,hfe,hfl]
 exact HRES
def LogSc (w1 w w':World) (K:Nat -> Prop) (sb rb ti tl n N a:Nat) (C:List Ck) (L:List Lg) (nx:Nat) (X:List (Nat × ByteArray)) (T:List Lg) (v:Value):Prop :=
 w'.ownsRow (w.heap.size + 2) 170 2 v T.length (pairC (T.map encL)) /\ Chs w1 w' w' (fun k=>K k \/ (w.heap.size <= k /\ k < w'.heap.size)) sb rb ti tl n N a C L nx X /\ Kept K w w'
section
variable (w1 w w0:World) (K:Nat -> Prop) (sb rb ti tl n N a nx:Nat) (C:List Ck) (L:List Lg) (X:List (Nat × ByteArray))
theorem log_scan (limit:Nat) (h:Hid (Chs w1 w0 w K sb rb ti tl n N a C L nx X)) (hN:a <= N /\ N <= 1000) (hL:L.length <= 1000000) (hl2:limit <= 9223372036854775807) :
 Calls Tryz.prog 87 #[.pointer (some ⟨tl,0,none⟩),.string ⟨#[]⟩,.string ⟨#[]⟩,.int .i64 (limit:Int)] w fun e w'=>∃ v,e=.returned (.tuple #[v,.int .i64 0]) /\ Hid (LogSc w1 w w' K sb rb ti tl n N a C L nx X (L.take limit) v):=by
 obtain ⟨S,o0,o1,h1,h2,h3,h4,h5⟩:=h.out
 have hl:(entsO o1).length=L.length:=by rw [h4.eq,List.length_map]
 rcases Nat.eq_zero_or_pos limit with rfl | hl1
 ·obtain ⟨G,x1,x2,x3,x4⟩:=h1.1.1
  have hng:¬ G tl:=(x3 tl (.inr (.inr (.inr rfl)))).2
  have SZ:Calls Tryz.prog 87 #[.pointer (some ⟨tl,0,none⟩),.string ⟨#[]⟩,.string ⟨#[]⟩,.int .i64 0] w fun e w'=>∃ v,e=.returned (.tuple #[v,.int .i64 0]) /\ Hid (ScanRes w w' G rb n (300 * a) S [] v):=by
   cases ho:o1 with
   | none=>exact Scan_none G tl rb 1 n (300 * a) S w ⟨#[]⟩ ⟨#[]⟩ 0 x1 h1.1.2.2.2 hng (by decide) (by omega) (by have:=h2.t1; rw [ho] at this; exact this)
   | some T =>
     have ht:=h2.t1
     rw [ho] at ht
     have hp:=x1.lim T.p ht.2.on.top.1
     have hb:=x1.bounds
     exact Scan_zero G tl rb 1 n (300 * a) S w ⟨#[]⟩ ⟨#[]⟩ x1 h1.1.2.2.2 hng (by decide) (by omega) (by rw [ht.1]; unfold pagesN at hp; omega) (by rw [ht.1]; omega)
  refine SZ.mono ?_
  rintro e w' ⟨v,rfl,hE⟩
  obtain ⟨r2,r3⟩:=RSt.ofK x1 x2 x3 x4 hE.out.2
  have hg:=h1.1.of (r2.mono fun k hk=>.inl hk) r3
  refine ⟨v,rfl,Hd ⟨by simpa using hE.out.1,⟨S,o0,o1,⟨⟨r2.mono fun k hk=>?_,hg.1.2⟩,fun _ _=>rfl⟩,h2,h3,h4,h5⟩,hg.2⟩⟩
  rcases hk with (hk | hk) | hk
  ·exact .inl (.inl hk)
  ·exact .inr hk
  ·exact .inl (.inr hk)
 have SC:=scan_g w1 w _ tl rb 1 n (300 * a) S o1 ⟨#[]⟩ ⟨#[]⟩ limit h1.1.1 h1.1.2.2.2 (.inr (.inr (.inr rfl))) h2.t1 (by decide) (by omega) (by have:=h2.hgt1 (by omega); omega) (by omega) hl1 hl2
 rw [from_nil,sRun_take limit _ [] (Nat.zero_le _),List.nil_append,h4.eq,List.length_nil,Nat.sub_zero,<- List.map_take,List.length_map] at SC
 refine SC.mono ?_
 rintro e w' ⟨v,rfl,hE⟩
 obtain ⟨r1,r2,r3⟩:=hE.out
 have hg:=h1.1.of (r2.mono fun k hk=>.inl hk) r3
 refine ⟨v,rfl,Hd ⟨r1,⟨S,o0,o1,⟨⟨r2.mono fun k hk=>?_,hg.1.2⟩,fun _ _=>rfl⟩,h2,h3,h4,h5⟩,hg.2⟩⟩
 rcases hk with (hk | hk) | hk
 ·exact .inl (.inl hk)
 ·exact .inr hk
 ·exact .inl (.inr hk)
end
theorem infoE:(Tryz.prog.info? 146).map (fun i=>(i.zero,i.size,i.bytes))=some (some (.agg #[.string ⟨#[]⟩,.string ⟨#[]⟩,.int .i64 0]),3,40):=by kernel_rfl
def entC (T:List Lg):List Value:=T.flatMap fun e=>[.string (lkey e.n),.string e.id,.int .i64 e.by]
theorem entC_snoc (T:List Lg) (e:Lg):entC (T ++ [e])=entC T ++ [.string (lkey e.n),.string e.id,.int .i64 e.by]:=by simp [entC]
theorem one3 (a b c:Value) (ha:a.oneCell'=true) (hb:b.oneCell'=true) (hc:c.oneCell'=true):∀ u ∈ [a,b,c],u.oneCell'=true:=by
 intro u hu; simp at hu; rcases hu with rfl | rfl | rfl <;> assumption
theorem read_lg (e0:Lg) (he:e0.Ok) (W:World):Calls Tryz.prog 88 #[.string ⟨#[98,114]⟩,.string e0.val] W fun e w'=>∃ g k,W.heap.size <= g /\ e=.returned (.tuple #[.slice (some ⟨g,0,none⟩) 2 k,.bool true]) /\ (w'.cell? ⟨g,0,none⟩=some (.int .u64 (sgB e0.up:Int)) /\ w'.cell? ⟨g,3,none⟩=some (.string e0.id)) /\ Hid (Below W.heap.size W w'):=by
 have RC:=Read_cK kindsL e0.val W (by decide) (by have:=Lg.val_size he; omega)
 rw [Lg.read e0] at RC
 refine RC.mono ?_
 intro e w' hp
 obtain ⟨v,rfl,ho,hbl⟩:=hp
 rcases ho.2 with ⟨rfl,h0⟩ | ⟨g,cap,cur,rfl,hbg,-⟩
 ·exact absurd h0 (by simp [Lg.flds])
 ·refine ⟨g,cap,hbg,rfl,?_,Hd hbl⟩
  have c:=fun i (hi:i < 4)=>ho.cellAt i (by simpa [Lg.flds] using hi)
  exact ⟨c 0 (by decide),c 3 (by decide)⟩
def FsRel (W0:World) (T:List Lg) (i:Nat) (v:Value) (wr:World):Prop:=wr.ownsRow W0.heap.size 146 3 v i (entC (T.take i)) /\ Below W0.heap.size W0 wr
def FirstEnd (w1 w w':World) (K:Nat -> Prop) (sb rb ti tl n N a:Nat) (C:List Ck) (L:List Lg) (nx:Nat) (X:List (Nat × ByteArray)) (T:List Lg) (v:Value):Prop :=
 w'.ownsRow 0 146 3 v T.length (entC T) /\ Chs w1 w' w' (fun k=>K k \/ v.ownBlock=some k) sb rb ti tl n N a C L nx X /\ Kept K w w'
section
variable (w1 w w0:World) (K:Nat -> Prop) (sb rb ti tl n N a nx:Nat) (C:List Ck) (L:List Lg) (X:List (Nat × ByteArray))
theorem first_k (limit:Nat) (h:Hid (Chs w1 w0 w K sb rb ti tl n N a C L nx X)) (hN:a <= N /\ N <= 1000) (hL:L.length <= 1000000) (hl2:limit <= 9223372036854775807) :
 Calls Tryz.prog 73 #[.pointer (some ⟨sb,0,none⟩),.int .i64 (limit:Int)] w fun e w'=>∃ v,e=.returned (.tuple #[v,.int .i64 0]) /\ Hid (FirstEnd w1 w w' K sb rb ti tl n N a C L nx X (L.take limit) v):=by
 have SC:=log_scan w1 w w0 K sb rb ti tl n N a nx C L X limit h hN hL hl2
 have HOK:Hid (∀ e ∈ L.take limit,e.Ok):=Hd fun e he=>(h.out.ok.2.2.1 e (List.mem_of_mem_take he)).1
 have HLEN:Hid ((L.take limit).length <= 1000000):=Hd (by rw [List.length_take]; omega)
 obtain ⟨T,hT⟩:=exE (L.take limit)
 rw [hT] at SC HOK HLEN ⊢
 obtain ⟨s0,s1,s2⟩:=h.out.sbk.cells
 clear hN hL hl2 hT
 go_enter Tryz.func73,Tryz.ntmps73
 go_wp2_with fail
 refine SC.mono ?_
 rintro e w4 ⟨v,rfl,HS⟩
 clear SC
 obtain ⟨va,vc,hv⟩:∃ va vc,v=.slice va T.length vc:=by
  rcases HS.out.1.2 with ⟨rfl,h0⟩ | ⟨g,cap,cur,rfl,-⟩
  ·exact ⟨_,_,by rw [h0]⟩
  ·exact ⟨_,_,rfl⟩
 subst hv
 have CE:Hid (∀ i (hi:i < T.length),∃ g,va=some ⟨g,0,none⟩ /\ g < w4.heap.size /\ w4.cell? ⟨g,i * 2,none⟩=some (.string (lkey T[i].n)) /\ w4.cell? ⟨g,i * 2 + 1,none⟩=some (.string T[i].val)):=Hd fun i hi=>by
  have hr:=HS.out.1
  rcases hr.2 with ⟨e,h0⟩ | ⟨g,cap,cur,e,h1,h2,-⟩
  ·omega
  ·cases e
   have hl:i < (T.map encL).length:=by simpa using hi
   obtain ⟨x,y⟩:=pairK_get (T.map encL) i hl
   refine ⟨g,rfl,lt_of_heap h2,?_,?_⟩
   ·rw [hr.cellAt (i * 2) (by omega),x]; simp [encL]
   ·rw [hr.cellAt (i * 2 + 1) (by omega),y]; simp [encL]
 have R0:Hid (FsRel w4 T 0 (.slice none 0 0) w4):=Hd ⟨World.ownsRow_nil _ _ _ _,Below.refl _ _⟩
 have HEND:Hid (∀ v w',FsRel w4 T T.length v w' -> FirstEnd w1 w w' K sb rb ti tl n N a C L nx X T v):=Hd fun v w' hr=>by
  obtain ⟨h1,h2⟩:=hr
  rw [List.take_length] at h1
  obtain ⟨g1,g2⟩:=HS.out.2
  have hm:=g1.mono (K':=K) fun k hk=>.inl hk
  have hb:Chs w1 w' w' (fun k=>K k \/ v.ownBlock=some k) sb rb ti tl n N a C L nx X:=by
   obtain ⟨S,o0,o1,x1,x2⟩:=hm
   refine ⟨S,o0,o1,⟨(x1.1.belowK h2).1.mono fun k hk=>hk.imp id fun hk=>h1.lt k hk,fun _ _=>rfl⟩,x2⟩
  exact ⟨own_le h1 (Nat.zero_le _),hb,g2.trans (hm.keep h2)⟩
 obtain ⟨jE,hjE,hE0,hE1,hE2⟩:=info_parts infoE
 go_wp2_with fail
 go_loopg [8,10,11,12,29] T.length (fun g s8 s10 s11 s12 s29 wr=>∃ (i:Nat) (sv:Value),g=T.length - i /\ i <= T.length /\ s29=.int .i64 (i:Int) /\ sv=s8 /\ Hid (FsRel w4 T i sv wr))
 case atStart=>exact ⟨0,_,rfl,Nat.zero_le _,rfl,rfl,R0⟩
 case round =>
  obtain ⟨i,sv,rfl,hi,rfl,rfl,HR⟩:=hrel
  clear R0
  by_cases hlt:i < T.length
  ·obtain ⟨g,rfl,hg,c0,c1⟩:=CE.out i hlt
   have hbl:=HR.out.2
   have d0:wr.cell? ⟨g,i * 2,none⟩=some (.string (lkey T[i].n)):=(hbl.cell (p:=⟨g,i * 2,none⟩) hg).trans c0
   have d1:wr.cell? ⟨g,i * 2 + 1,none⟩=some (.string T[i].val):=(hbl.cell (p:=⟨g,i * 2 + 1,none⟩) hg).trans c1
   have hok:=HOK.out T[i] (List.getElem_mem hlt)
   have RD:=fun W=>read_lg T[i] hok W
   have HSTEP:Hid (∀ v' W5,W5.ownsRow w4.heap.size 146 3 v' (i + 1) (entC (T.take i) ++ [.string (lkey T[i].n),.string T[i].id,.int .i64 T[i].by]) -> Below w4.heap.size w4 W5 -> FsRel w4 T (i + 1) v' W5):=Hd fun v' W5 ho hb=>by
    refine ⟨?_,hb⟩
    rw [List.take_succ_eq_append_getElem hlt,entC_snoc]
    exact ho
   have u0:IntKind.u64.wrap (2 * ((sgB T[i].up:Nat):Int))=((2 * sgB T[i].up:Nat):Int):=by
    have:=wrap_u64 (v:=2 * sgB T[i].up) (by unfold sgB; split <;> omega)
    rw [<- this]; congr 1
   have u1:IntKind.i64.wrap ((2 * sgB T[i].up:Nat):Int)=((2 * sgB T[i].up:Nat):Int):=by
    cases T[i].up <;> decide
   have u2:IntKind.i64.wrap (((2 * sgB T[i].up:Nat):Int) - 1)=T[i].by:=by
    unfold Lg.by
    cases T[i].up <;> decide
   have HLT:=Hd hlt
   have hl64:i <= 1000000:=by have:=HLEN.out; omega
   clear c0 c1 hok hi
   have HL:Hid (i + 1 <= maxLen /\ (i + 1) * 40 <= 140737488355328):=Hd (by unfold maxLen; omega)
   generalize T[i].val=vl at *
   generalize lkey T[i].n=ky at *
   generalize T[i].id=id at *
   generalize T[i].by=by_ at *
   generalize 2 * sgB T[i].up=z2 at *
   generalize sgB T[i].up=z1 at *
   clear hlt hbl
   go_wp2_with fail
   refine (RD _).mono ?_
   rintro e w6 ⟨gf,kf,hgf,rfl,⟨f0,f3⟩,hb6⟩
   have hbp:w6.cell? ⟨wr.heap.size,0,none⟩=some (.string ky):=cell_lit ((hb6.out.block wr.heap.size (by simp)).trans (heap_alloc_new wr _)) rfl
   have hb7:Below wr.heap.size wr w6:=((Below.refl wr.heap.size wr).alloc (Nat.le_refl _) _).trans (hb6.out.mono (by simp))
   have HB6:Hid (Below w4.heap.size w4 w6.drew):=Hd (HR.out.2.trans (hb7.drew.mono HR.out.2.size))
   have HOD:Hid (w6.drew.ownsRow w4.heap.size 146 3 sv i (entC (T.take i))):=Hd (ownsRow_upd HR.out.1 (hb7.drew.upd' (Nat.le_refl _)) (fun _ _ e=>e))
   have HBX:Hid (∀ o,w4.heap.size <= (w6.drew.alloc o).heap.size):=Hd fun o=>by have:=HB6.out.size; simp at this ⊢; omega
   have CK:Hid (∀ o W5,(w6.drew.alloc o).grownBy W5 sv.ownBlock -> W5.cell? ⟨wr.heap.size,0,none⟩=some (.string ky) /\ W5.cell? ⟨gf,0,none⟩=some (.int .u64 (z1:Int)) /\ W5.cell? ⟨gf,3,none⟩=some (.string id)):=Hd fun o W5 hg=>by
    have q:∀ b i v,wr.heap.size <= b -> w6.cell? ⟨b,i,none⟩=some v -> W5.cell? ⟨b,i,none⟩=some v:=fun b i v hb hc=>by
     have hbb:Below w6.heap.size w6 (w6.drew.alloc o):=((Below.refl w6.heap.size w6).drew).alloc (Nat.le_refl _) _
     refine hg.cell ((hbb.cell (p:=⟨b,i,none⟩) (World.block_lt_of_cell? w6 _ hc)).trans hc) fun e=>?_
     have:=HR.out.1.lt b e.symm
     omega
    have hgf':wr.heap.size <= gf:=by simp at hgf; omega
    exact ⟨q _ _ _ (Nat.le_refl _) hbp,q _ _ _ hgf' f0,q _ _ _ hgf' f3⟩
   clear hb6 hb7 RD d0 d1 hgf
   go_wp2_with fail
   go_region_held3 (fun w'=>w'.cell? ⟨wr.heap.size,0,none⟩=some (.string ky) /\ w'.cell? ⟨gf,0,none⟩=some (.int .u64 (z1:Int)) /\ w'.cell? ⟨gf,3,none⟩=some (.string id)) (go_keep) ((first
    | (refine step_append_y (by rfl) _ _ _ (by rfl) w4.heap.size 146 jE _ 3 40 Tryz.underlying142 hjE hE0 hE1 hE2 rfl (by decide) _ _ _ (by rfl) (HOD.out.alloc _) _ 1 _ (by rfl) (yields_boxL _ #[.string ky,.string id,.int .i64 by_] _ 1 1) rfl (one3 _ _ _ rfl rfl rfl) HL.out.1 HL.out.2 (HBX.out _) ?_
       intro v5 W5 ho5 hg5 ha5
       have HN5:=Hd (HSTEP.out v5 W5 ho5 ((HB6.out.alloc HB6.out.size _).grown hg5 (HBX.out _) (fun k e=>(HOD.out.lt k e).1)))
       obtain ⟨k0,k1,k2⟩:=CK.out _ W5 hg5
       clear ho5 hg5 ha5)))
   all_goals go_wp2_with fail
   all_goals go_roundg (T.length - (i + 1))
   all_goals (first
    | (case measure=>have:=HLT.out; omega)
    | (case rel=>exact ⟨i + 1,_,rfl,HLT.out,by congr 1,rfl,HN5⟩))
  ·obtain rfl:i=T.length:=by omega
   have HE:=Hd (HEND.out _ _ HR.out)
   clear hlt hi
   go_wp2_with fail
   go_ret2
   exact ⟨_,rfl,HE⟩
end
theorem entC_get (T:List Lg) (i:Nat) (h:i < T.length):(entC T)[i * 3]?=some (.string (lkey T[i].n)) /\ (entC T)[i * 3 + 1]?=some (.string T[i].id) /\ (entC T)[i * 3 + 2]?=some (.int .i64 T[i].by):=by
 induction T generalizing i with
 | nil=>simp at h
 | cons e T ih =>
   have e1:entC (e :: T)=.string (lkey e.n) :: .string e.id :: .int .i64 e.by :: entC T:=by simp [entC]
   rw [e1]
   cases i with
   | zero=>exact ⟨rfl,rfl,rfl⟩
   | succ i =>
     have:=ih i (by simpa using h)
     rw [show (i + 1) * 3=i * 3 + 1 + 1 + 1 by omega]
     simpa using this
def pend (T:List Lg) (id:ByteArray):Int:=match T with
 | []=>0
 | e :: T=>(if e.id=id then e.by else 0) + pend T id
theorem pend_snoc (T:List Lg) (e:Lg) (id:ByteArray):pend (T ++ [e]) id=pend T id + if e.id=id then e.by else 0:=by
 induction T with
 | nil=>simp [pend]
 | cons x T ih=>simp only [List.cons_append,pend,ih]; omega
theorem pend_abs (T:List Lg) (id:ByteArray):-(T.length:Int) <= pend T id /\ pend T id <= T.length:=by
 induction T with
 | nil=>simp [pend]
 | cons x T ih =>
   have hb:-1 <= x.by /\ x.by <= 1:=by unfold Lg.by; split <;> omega
   simp only [pend,List.length_cons]
   split <;> omega
section
variable (w1 w w0:World) (K:Nat -> Prop) (sb rb ti tl n N a nx:Nat) (C:List Ck) (L:List Lg) (X:List (Nat × ByteArray))
theorem first_all (h:Hid (Chs w1 w0 w K sb rb ti tl n N a C L nx X)) (hN:a <= N /\ N <= 1000) (hL:L.length <= 1000000) :
 Calls Tryz.prog 73 #[.pointer (some ⟨sb,0,none⟩),.int .i64 33554432] w fun e w'=>∃ va vc,e=.returned (.tuple #[.slice va L.length vc,.int .i64 0]) /\ Hid (FirstEnd w1 w w' K sb rb ti tl n N a C L nx X L (.slice va L.length vc)):=by
 have F:=first_k w1 w w0 K sb rb ti tl n N a nx C L X 33554432 h hN hL (by decide)
 rw [List.take_of_length_le (by omega)] at F
 refine F.mono ?_
 rintro e w' ⟨v,rfl,hE⟩
 obtain ⟨va,vc,rfl⟩:∃ va vc,v=.slice va L.length vc:=by
  rcases hE.out.1.2 with ⟨rfl,h0⟩ | ⟨g,cap,cur,rfl,-⟩
  ·exact ⟨_,_,by rw [h0]⟩
  ·exact ⟨_,_,rfl⟩
 exact ⟨va,vc,rfl,hE⟩
theorem Waits_k (h:Hid (Chs w1 w0 w K sb rb ti tl n N a C L nx X)) (hN:a <= N /\ N <= 1000) (hL:L.length <= 1000000) :
 Calls Tryz.prog 54 #[.pointer (some ⟨sb,0,none⟩)] w fun e w'=>e=.returned (.tuple #[.int .i64 (L.length:Int),.int .i64 0]) /\ Hid (Chs w1 w0 w' K sb rb ti tl n N a C L nx X):=by
 have F:=first_all w1 w w0 K sb rb ti tl n N a nx C L X h hN hL
 have HH:Hid (∀ w' v,FirstEnd w1 w w' K sb rb ti tl n N a C L nx X L v -> Chs w1 w0 w' K sb rb ti tl n N a C L nx X):=Hd fun w' v hE =>
  ((hE.2.1.mono fun k hk=>.inl hk).to hE.2.2).to h.out.kept
 generalize L.length=ll at *
 clear h hN hL
 go_enter Tryz.func54,Tryz.ntmps54
 go_wp2_with fail
 refine F.mono ?_
 rintro e w2 ⟨va,vc,rfl,hE⟩
 have HE:=Hd (HH.out _ _ hE.out)
 clear F hE HH
 go_wp2_with fail
 go_ret2
 exact ⟨rfl,HE⟩
end
theorem baK_eq {a b:ByteArray}:(a.toList == b.toList)=decide (a=b):=by
 by_cases h:a=b
 ·simp [h]
 ·have:¬ a.toList=b.toList:=fun e=>h (by
   rw [Lib.toList_data,Lib.toList_data] at e
   exact ByteArray.ext (Array.toList_inj.1 e))
  simp [h,this]
theorem wrap_sgn {x:Int} (h1:-4611686018427387904 <= x) (h2:x <= 4611686018427387904):IntKind.i64.wrap x=x:=by
 simp [IntKind.wrap,IntKind.bits,IntKind.signed]; omega
section
variable (w1 w w0:World) (K:Nat -> Prop) (sb rb ti tl n N a nx:Nat) (C:List Ck) (L:List Lg) (X:List (Nat × ByteArray))
theorem Count_yes (id:ByteArray) (c:Ck) (h:Hid (Chs w1 w0 w K sb rb ti tl n N a C L nx X)) (hN:a <= N /\ N <= 1000) (hi:id.size <= 96) (hf:cAt C id=some c) (hL:L.length <= 1000000) :
 Calls Tryz.prog 21 #[.pointer (some ⟨sb,0,none⟩),.string id] w fun e w'=>e=.returned (.tuple #[.int .i64 c.cnt,.int .i64 (pend L id),.int .i64 0]) /\ Hid (Chs w1 w0 w' K sb rb ti tl n N a C L nx X):=by
 have FY:=find_yes id c h hN hi hf
 rw [show c.v=.agg #[.int .i64 (c.page:Int),.int .i64 (c.text.size:Int),.int .i64 c.cnt] from rfl] at FY
 have HN:=Hd hN
 have HLL:=Hd hL
 generalize c.page=z0 at *
 generalize (c.text.size:Int)=z1 at *
 generalize c.cnt=z2 at *
 clear h hN hi hf hL
 go_enter Tryz.func21,Tryz.ntmps21
 go_wp2_with fail
 refine FY.mono ?_
 rintro e w2 ⟨rfl,G2⟩
 obtain ⟨wb,hwb⟩:=exE (w2.alloc (.cells #[.int .i64 (z0:Int),.int .i64 z1,.int .i64 z2] 124))
 have HB:Hid (Below w2.heap.size w2 wb):=Hd (by subst hwb; exact (Below.refl _ _).alloc (Nat.le_refl _) _)
 have blk:Hid (wb.heap[w2.heap.size]?=some (.cells #[.int .i64 (z0:Int),.int .i64 z1,.int .i64 z2] 124 (0,0))):=Hd (by subst hwb; exact heap_alloc_new _ _)
 have G3:=Hd (G2.out.new HB.out w2.heap.size (Nat.le_refl _) (lt_of_heap blk.out))
 have F:=first_all w1 wb wb _ sb rb ti tl n N a nx C L X G3 HN.out HLL.out
 clear FY
 go_wp2_with fail
 refine F.mono ?_
 rintro e w4 ⟨va,vc,rfl,HS⟩
 clear F
 have b4:Hid (w4.heap[w2.heap.size]?=some (.cells #[.int .i64 (z0:Int),.int .i64 z1,.int .i64 z2] 124 (0,0))):=Hd ((HS.out.2.2 _ (.inr rfl)).trans blk.out)
 have HEND:Hid (∀ w',Below w4.heap.size w4 w' -> Chs w1 w0 w' K sb rb ti tl n N a C L nx X /\ w'.cell? ⟨w2.heap.size,2,none⟩=some (.int .i64 z2)):=Hd fun w' hb=>by
  refine ⟨?_,cell_lit ((hb.block _ (lt_of_heap b4.out)).trans b4.out) rfl⟩
  have h1:=(HS.out.2.1.below hb).mono (K':=K) fun k hk=>.inl (.inl hk)
  have h2:Kept K w4 w':=(HS.out.2.1.keep hb).mono fun k hk=>.inl (.inl hk)
  obtain ⟨S,o0,o1,x1,x2⟩:=h1
  refine ⟨S,o0,o1,⟨x1.1,?_⟩,x2⟩
  exact ((G2.out.kept.trans (G2.out.keep HB.out)).trans (HS.out.2.2.mono fun k hk=>.inl hk)).trans h2
 have CE:Hid (∀ i (hi:i < L.length),∃ g,va=some ⟨g,0,none⟩ /\ g < w4.heap.size /\ w4.cell? ⟨g,i * 3,none⟩=some (.string (lkey L[i].n)) /\ w4.cell? ⟨g,i * 3 + 1,none⟩=some (.string L[i].id) /\ w4.cell? ⟨g,i * 3 + 2,none⟩=some (.int .i64 L[i].by)):=Hd fun i hi=>by
  have hr:=HS.out.1
  rcases hr.2 with ⟨e,h0⟩ | ⟨g,cap,cur,e,h1,h2,-⟩
  ·omega
  ·cases e
   obtain ⟨x,y,z⟩:=entC_get L i hi
   refine ⟨g,rfl,lt_of_heap h2,?_,?_,?_⟩
   ·rw [hr.cellAt (i * 3) (by omega),x]
   ·rw [hr.cellAt (i * 3 + 1) (by omega),y]
   ·rw [hr.cellAt (i * 3 + 2) (by omega),z]
 have R0:Hid (Below w4.heap.size w4 w4):=Hd (Below.refl _ _)
 clear HS
 go_wp2_with fail
 go_loopg [11,13,38] L.length (fun g s11 s13 s38 wr=>∃ (i:Nat),g=L.length - i /\ i <= L.length /\ s38=.int .i64 (i:Int) /\ s11=.int .i64 (pend (L.take i) id) /\ Hid (Below w4.heap.size w4 wr))
 case atStart=>exact ⟨0,rfl,Nat.zero_le _,rfl,by simp [pend],R0⟩
 case round =>
  obtain ⟨i,rfl,hi,rfl,rfl,HR⟩:=hrel
  clear R0
  by_cases hlt:i < L.length
  ·obtain ⟨g,rfl,hg,c0,c1,c2⟩:=CE.out i hlt
   have hbl:=HR.out
   have d0:wr.cell? ⟨g,i * 3,none⟩=some (.string (lkey L[i].n)):=(hbl.cell (p:=⟨g,i * 3,none⟩) hg).trans c0
   have d1:wr.cell? ⟨g,i * 3 + 1,none⟩=some (.string L[i].id):=(hbl.cell (p:=⟨g,i * 3 + 1,none⟩) hg).trans c1
   have d2:wr.cell? ⟨g,i * 3 + 2,none⟩=some (.int .i64 L[i].by):=(hbl.cell (p:=⟨g,i * 3 + 2,none⟩) hg).trans c2
   have hp:pend (L.take (i + 1)) id=pend (L.take i) id + if L[i].id=id then L[i].by else 0:=by
    rw [List.take_succ_eq_append_getElem hlt,pend_snoc]
   have hab:=pend_abs (L.take i) id
   have hby:-1 <= L[i].by /\ L[i].by <= 1:=by unfold Lg.by; split <;> omega
   have hsm:i <= 1000000:=by have:=HLL.out; omega
   rw [List.length_take] at hab
   have kw:IntKind.i64.wrap (pend (L.take i) id + L[i].by)=pend (L.take i) id + L[i].by:=wrap_sgn (by omega) (by omega)
   generalize L[i]=en at *
   have HLT:=Hd hlt
   have HBN:Hid (∀ o,Below w4.heap.size w4 (wr.alloc o)):=Hd fun o=>HR.out.alloc HR.out.size o
   clear c0 c1 c2 hbl hab hby hi
   by_cases he:en.id=id
   ·rw [if_pos he] at hp
    have q:(en.id.toList == id.toList)=true:=by rw [baK_eq]; simp [he]
    have HP:=Hd hp
    clear hp he
    generalize en.id=xi at *
    generalize en.by=yi at *
    generalize pend (L.take i) id=pi at *
    generalize lkey en.n=ky at *
    clear hlt
    go_wp2_with fail
    go_roundg (L.length - (i + 1))
    case measure=>have:=HLT.out; omega
    case rel=>exact ⟨i + 1,rfl,HLT.out,by congr 1,by rw [HP.out],Hd (HBN.out _)⟩
   ·rw [if_neg he] at hp
    have q:(en.id.toList == id.toList)=false:=by rw [baK_eq]; simp [he]
    have HP:=Hd hp
    clear hp he kw
    generalize en.id=xi at *
    generalize en.by=yi at *
    generalize pend (L.take i) id=pi at *
    generalize lkey en.n=ky at *
    clear hlt
    go_wp2_with fail
    go_roundg (L.length - (i + 1))
    case measure=>have:=HLT.out; omega
    case rel=>exact ⟨i + 1,rfl,HLT.out,by congr 1,by rw [HP.out,Int.add_zero],Hd (HBN.out _)⟩
  ·obtain rfl:i=L.length:=by omega
   obtain ⟨h1,h2⟩:=HEND.out _ HR.out
   have HE:=Hd h1
   rw [List.take_length]
   clear hlt hi h1
   go_wp2_with fail
   go_ret3
   exact ⟨rfl,HE⟩
end
theorem At_k (rb:Nat) (w:World):Calls Tryz.prog 15 #[.pointer (some ⟨rb,0,none⟩)] w fun e w'=>∃ sb ti tl,e=.returned (.pointer (some ⟨sb,0,none⟩)) /\ Hid (SBk w' sb rb ti tl /\ Below w.heap.size w w' /\ w.heap.size <= sb /\ w.heap.size <= ti /\ w.heap.size <= tl):=by
 have A0:=At_c rb 0 w
 have A1:=fun W=>At_c rb 1 W
 rw [show ((0:Nat):Int)=0 from rfl] at A0
 rw [show ((1:Nat):Int)=1 from rfl] at A1
 go_enter Tryz.func15,Tryz.ntmps15
 go_wp2_with fail
 refine A0.mono ?_
 rintro e w2 ⟨rfl,h2⟩
 go_wp2_with fail
 refine (A1 w2).mono ?_
 rintro e w3 ⟨rfl,h3⟩
 go_wp2_with fail
 have h4:∀ o,Below w3.heap.size w3 (w3.alloc o):=fun o=>(Below.refl _ _).alloc (Nat.le_refl _) o
 have HE:Hid (∀ o,TB (w3.alloc o) w.heap.size rb 0 /\ TB (w3.alloc o) w2.heap.size rb 1 /\ Below w.heap.size w (w3.alloc o) /\ w.heap.size <= w3.heap.size /\ w.heap.size <= w2.heap.size):=Hd fun o=>by
  have s2:=h2.out.2.size
  have s3:=h3.out.2.size
  exact ⟨(h2.out.1.below h3.out.2).below (h4 o),h3.out.1.below (h4 o),(h2.out.2.trans (h3.out.2.mono s2)).trans ((h4 o).mono (by omega)),by omega,s2⟩
 have HZ:Hid (w.heap.size <= w3.heap.size /\ w.heap.size <= w2.heap.size):=Hd ⟨by have:=h2.out.2.size; have:=h3.out.2.size; omega,h2.out.2.size⟩
 clear h2 h3 h4 A0 A1
 go_ret
 exact ⟨_,_,_,rfl,Hd ⟨⟨heap_alloc_new _ _,(HE.out _).1,(HE.out _).2.1⟩,(HE.out _).2.2.1,HZ.out.1,Nat.le_refl _,HZ.out.2⟩⟩
theorem Chs.start {w1 wd we:World} {G:Nat -> Prop} {rb n N sb ti tl:Nat} (h:NewRoom w1 wd G rb n) (h4:4 <= n) (hN:24 * N <= pagesN n) (hs:SBk we sb rb ti tl) (hb:Below wd.heap.size wd we) (hl:wd.heap.size <= sb /\ wd.heap.size <= ti /\ wd.heap.size <= tl) :
 Chs w1 we we (fun _=>False) sb rb ti tl n N 0 [] [] 0 []:=by
 have h0:=lt_of_heap hs.1
 have h1:=lt_of_heap hs.2.1
 have h2:=lt_of_heap hs.2.2
 refine ⟨_,none,none,⟨⟨((RSt.start h h4).below hb).1.mono fun k hk=>?_,hs⟩,fun _ _=>rfl⟩,⟨rfl,rfl,pigeon_spare n _ (by simpa using hN),Nat.zero_le _,Nat.zero_le _,fun x hx=>(by cases hx),List.nodup_nil,fun q hq=>(by cases hq)⟩,⟨rfl,fun c hc=>(by cases hc)⟩,⟨rfl,fun c hc=>(by cases hc)⟩,rfl,Nat.le_refl _⟩
 rcases hk with hk | rfl | rfl | rfl
 ·exact hk.elim
 all_goals exact .inr ⟨by omega,by omega⟩
def Ck.add (c:Ck) (d:Int):Ck:=⟨c.id,c.page,c.cnt + d,c.text⟩
def MgStep (C:List Ck) (e:Lg) (C':List Ck):Prop:=(cAt C e.id=none /\ C'=C) \/ ∃ c,cAt C e.id=some c /\ PutC (c.add e.by) C C'
inductive Mg (C:List Ck):List Lg -> List Ck -> Prop
 | nil:Mg C [] C
 | snoc {T:List Lg} {C1 C2:List Ck} {e:Lg}:Mg C T C1 -> MgStep C1 e C2 -> Mg C (T ++ [e]) C2
theorem PutC.mem {c:Ck} {C C':List Ck} (h:PutC c C C'):∀ d ∈ C',d=c \/ d ∈ C:=by
 obtain ⟨A,B,rfl,h',-,-⟩:=h
 intro d hd
 simp only [List.mem_append,List.mem_cons] at hd
 rcases hd with hd | hd | hd
 ·rcases h' with rfl | ⟨c0,-,rfl⟩ <;> simp [hd]
 ·exact .inl hd
 ·rcases h' with rfl | ⟨c0,-,rfl⟩ <;> simp [hd]
theorem Ck.add_ok {c:Ck} {d:Int} (h:c.Ok) (h1:-1000000000 <= c.cnt + d) (h2:c.cnt + d <= 1000000000):(c.add d).Ok:=⟨h.id,h.page,h.t1,h.t2,h1,h2⟩
def Cnts (C:List Ck) (b:Int):Prop:=∀ c ∈ C,-b <= c.cnt /\ c.cnt <= b
theorem MgStep.cnts {C C':List Ck} {e:Lg} {b:Int} (h:MgStep C e C') (hc:Cnts C b):Cnts C' (b + 1):=by
 have hb:-1 <= e.by /\ e.by <= 1:=by unfold Lg.by; split <;> omega
 rcases h with ⟨-,rfl⟩ | ⟨c,h1,h2⟩
 ·intro d hd; have:=hc d hd; omega
 ·intro d hd
  rcases h2.mem d hd with rfl | hd
  ·have:=hc c (cAt_some h1).1
   show -(b + 1) <= c.cnt + e.by /\ c.cnt + e.by <= b + 1
   omega
  ·have:=hc d hd; omega
theorem Mg.cnts {C C':List Ck} {T:List Lg} {b:Int} (h:Mg C T C') (hc:Cnts C b):Cnts C' (b + T.length):=by
 induction h with
 | nil=>simpa using hc
 | snoc h1 h2 ih =>
   have:=h2.cnts ih
   rw [List.length_append,List.length_singleton]
   intro d hd
   have:=this d hd
   omega
end Go.Proofs.YtdcjhpafipbpkaaGreatDoor
