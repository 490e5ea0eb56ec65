/- Parts of the proof of ChunksRuns,joined: TxtP,RcpB,RcpC,RcpD,RcpH,RcpI,RcpJ,RcpK,RcpL,RfsP,CrnP,LogI,RoomI. No condition. -/
import Derived.Test.YtdcjhpafipbpkaaGreatDoorCx13
import Derived.Laws.ResultCell
set_option linter.unusedSimpArgs false
set_option linter.unusedVariables false
set_option linter.unusedSectionVars false
namespace Go.Proofs.YtdcjhpafipbpkaaGreatDoor
set_option maxRecDepth 100000
set_option maxHeartbeats 1000000
open Go.RowKit
theorem RSt.upd {w1 w w':World} {K F:Nat -> Prop} {rb n m:Nat} {S:RS} (h:RSt w1 w K rb n m S) (hu:Upd F w w') (hF:∀ k,F k -> K k /\ w1.heap.size <= k):RSt w1 w' K rb n m S:=by
 obtain ⟨G,a,b,d,e⟩:=h
 exact ⟨G,a.frame hu fun k hk hf=>(d k (hF k hf).1).2 hk,b,fun k hk=>⟨Nat.lt_of_lt_of_le (d k hk).1 hu.size,(d k hk).2⟩,e.trans (hu.below e.size fun k hk hf=>by have:=(hF k hf).2; omega)⟩
theorem Chs.upd {w1 w0 w w':World} {K F:Nat -> Prop} {sb rb ti tl n N a nx:Nat} {C:List Ck} {L:List Lg} {X:List (Nat × ByteArray)} (h:Chs w1 w0 w K sb rb ti tl n N a C L nx X) (hu:Upd F w w') (hF:∀ k,F k -> K k /\ w1.heap.size <= k /\ k ≠ sb /\ k ≠ ti /\ k ≠ tl):Chs w1 w' w' K sb rb ti tl n N a C L nx X:=by
 obtain ⟨S,o0,o1,h1,h2⟩:=h
 have hs:=h1.1.2
 refine ⟨S,o0,o1,⟨⟨h1.1.1.upd hu fun k hk=>⟨.inl (hF k hk).1,(hF k hk).2.1⟩,?_,?_,?_⟩,fun _ _=>rfl⟩,h2⟩
 ·exact hu.at hs.1 fun hf=>(hF _ hf).2.2.1 rfl
 ·exact hu.at hs.2.1 fun hf=>(hF _ hf).2.2.2.1 rfl
 ·exact hu.at hs.2.2 fun hf=>(hF _ hf).2.2.2.2 rfl
section
variable {w1 w0 w w':World} {K:Nat -> Prop} {sb rb ti tl i:Nat} {M:List (ByteArray × ByteArray)} {t:ByteArray}
end
set_option maxHeartbeats 2000000
section
variable (w1 w w0:World) (K:Nat -> Prop) (sb rb ti tl n N m:Nat) (C:List Ck) (L:List Lg) (X:List (Nat × ByteArray))
end
theorem RSt.updN {w1 w w':World} {K F:Nat -> Prop} {rb n m:Nat} {S:RS} (h:RSt w1 w K rb n m S) (hu:Upd F w w') (hF:∀ k,F k -> K k /\ w1.heap.size <= k):RSt w1 w' (fun k=>K k \/ (w.heap.size <= k /\ k < w'.heap.size)) rb n m S:=by
 obtain ⟨G,a,b,d,e⟩:=h
 refine ⟨G,a.frame hu fun k hk hf=>(d k (hF k hf).1).2 hk,b,fun k hk=>?_,e.trans (hu.below e.size fun k hk hf=>by have:=(hF k hf).2; omega)⟩
 rcases hk with hk | hk
 ·exact ⟨Nat.lt_of_lt_of_le (d k hk).1 hu.size,(d k hk).2⟩
 ·exact ⟨hk.2,fun hg=>by have:=a.lt k hg; omega⟩
theorem Chs.updN {w1 w0 w w':World} {K F:Nat -> Prop} {sb rb ti tl n N a nx:Nat} {C:List Ck} {L:List Lg} {X:List (Nat × ByteArray)} (h:Chs w1 w0 w K sb rb ti tl n N a C L nx X) (hu:Upd F w w') (hF:∀ k,F k -> K k /\ w1.heap.size <= k /\ k ≠ sb /\ k ≠ ti /\ k ≠ tl):Chs w1 w' w' (fun k=>K k \/ (w.heap.size <= k /\ k < w'.heap.size)) sb rb ti tl n N a C L nx X:=by
 obtain ⟨S,o0,o1,h1,h2⟩:=h
 have hs:=h1.1.2
 refine ⟨S,o0,o1,⟨⟨(h1.1.1.updN hu fun k hk=>⟨.inl (hF k hk).1,(hF k hk).2.1⟩).mono fun k hk=>?_,?_,?_,?_⟩,fun _ _=>rfl⟩,h2⟩
 ·rcases hk with (hk | hk) | hk
  ·exact .inl (.inl hk)
  ·exact .inr hk
  ·exact .inl (.inr hk)
 ·exact hu.at hs.1 fun hf=>(hF _ hf).2.2.1 rfl
 ·exact hu.at hs.2.1 fun hf=>(hF _ hf).2.2.2.1 rfl
 ·exact hu.at hs.2.2 fun hf=>(hF _ hf).2.2.2.2 rfl
section
variable {w1 w0 w w':World} {K K' F:Nat -> Prop} {sb rb ti tl n N m:Nat} {C:List Ck} {L:List Lg} {X:List (Nat × ByteArray)}
end
section
variable {w1 w0 w wr w' w3 w4:World} {K:Nat -> Prop} {sb rb ti tl n N m k B:Nat} {C C' C2:List Ck} {L L':List Lg} {X X' X2:List (Nat × ByteArray)} {P:List (List UInt8)} {vp v v':Value}
end
set_option maxHeartbeats 4000000
section
variable (w1 w w0:World) (K:Nat -> Prop) (sb rb ti tl n N m:Nat) (C:List Ck) (L:List Lg) (X:List (Nat × ByteArray))
end
set_option maxHeartbeats 2000000
set_option maxHeartbeats 4000000
section
variable {w1 w0 w W W2 w3 w4:World} {K:Nat -> Prop} {sb rb ti tl n N m ys bb:Nat} {C:List Ck} {L:List Lg} {X:List (Nat × ByteArray)} {out:List UInt8}
end
set_option maxHeartbeats 2000000
set_option maxHeartbeats 4000000
section
variable (w1 w w0:World) (K:Nat -> Prop) (sb rb ti tl n N m:Nat) (C:List Ck) (L:List Lg) (X:List (Nat × ByteArray))
end
set_option maxHeartbeats 1000000
abbrev RCk:=ByteArray × ByteArray × Int
abbrev REn:=ByteArray × Int
def rC (C:List Ck):List RCk:=C.map fun c=>(c.id,c.text,c.cnt)
def rL (L:List Lg):List REn:=L.map fun e=>(e.id,e.by)
def fndR (C:List RCk) (id:ByteArray):Option RCk:=C.find? fun c=>decide (c.1=id)
def ixR (C:List RCk) (id:ByteArray):Int:=match C.findIdx? (fun c=>decide (c.1=id)) with
 | some i=>(i:Int)
 | none=>-1
theorem fnd_rC (C:List Ck) (id:ByteArray):fndR (rC C) id=(cAt C id).map fun c=>(c.id,c.text,c.cnt):=by
 unfold fndR rC cAt
 rw [List.find?_map]
 rfl
theorem ixR_some {C:List RCk} {id:ByteArray} {c:RCk} (h:fndR C id=some c):∃ i,∃ hi:i < C.length,C[i]=c /\ ixR C id=(i:Int) /\ ∀ j (hj:j < i),(C[j]'(Nat.lt_trans hj hi)).1 ≠ id:=by
 unfold fndR at h
 obtain ⟨hp,i,hi,e,hno⟩:=List.find?_eq_some_iff_getElem.1 h
 refine ⟨i,hi,e,?_,fun j hj=>by have:=hno j hj; simpa using this⟩
 have:C.findIdx? (fun c=>decide (c.1=id))=some i:=by
  rw [List.findIdx?_eq_some_iff_getElem]
  refine ⟨hi,by rw [e]; exact hp,fun j hj=>by have:=hno j hj; simpa using this⟩
 unfold ixR; rw [this]
theorem ixR_none {C:List RCk} {id:ByteArray} (h:fndR C id=none):ixR C id=-1 /\ ∀ c ∈ C,c.1 ≠ id:=by
 unfold fndR at h
 rw [List.find?_eq_none] at h
 have h2:∀ c ∈ C,c.1 ≠ id:=fun c hc=>by have:=h c hc; simpa using this
 refine ⟨?_,h2⟩
 have:C.findIdx? (fun c=>decide (c.1=id))=none:=by
  rw [List.findIdx?_eq_none_iff]
  intro c hc; simp [h2 c hc]
 unfold ixR; rw [this]
def hitR (C:List RCk) (p t:ByteArray) (k:Nat):Bool:=match fndR C (nameB p k) with
 | some c=>decide (c.2.1=t)
 | none=>false
def freeR (C:List RCk) (p:ByteArray) (k:Nat):Bool:=(fndR C (nameB p k)).isNone
def insR:List RCk -> RCk -> List RCk
 | [],c=>[c]
 | d :: r,c=>if kless c.1 d.1 then c :: d :: r else d :: insR r c
def doneR (A:List RCk) (c:RCk):Bool:=A.any fun d=>kless c.1 d.1
theorem ins_not:∀ {A:List RCk} {c:RCk},doneR A c=false -> insR A c=A ++ [c]
 | [],c,_=>rfl
 | d :: r,c,h=>by
   simp only [doneR,List.any_cons,Bool.or_eq_false_iff] at h
   simp only [insR,h.1]
   rw [ins_not (A:=r) h.2]; simp
theorem ins_first:∀ {A:List RCk} {c d:RCk} {B:List RCk},doneR A c=false -> kless c.1 d.1=true -> insR (A ++ d :: B) c=A ++ c :: d :: B
 | [],c,d,B,_,h=>by simp [insR,h]
 | a :: r,c,d,B,h,hd=>by
   simp only [doneR,List.any_cons,Bool.or_eq_false_iff] at h
   simp only [List.cons_append,insR,h.1]
   rw [ins_first (A:=r) h.2 hd]; simp
theorem ins_done:∀ {A:List RCk} {c d:RCk},doneR A c=true -> insR (A ++ [d]) c=insR A c ++ [d]
 | [],c,d,h=>by simp [doneR] at h
 | a :: r,c,d,h=>by
   simp only [List.cons_append,insR]
   by_cases ha:kless c.1 a.1=true
   ·simp [ha]
   ·simp only [ha]
    have:doneR r c=true:=by
     simp only [doneR,List.any_cons,Bool.or_eq_true] at h
     exact h.resolve_left ha
    rw [ins_done (A:=r) this]; simp
theorem done_snoc (A:List RCk) (c d:RCk):doneR (A ++ [d]) c=(doneR A c || kless c.1 d.1):=by
 simp [doneR]
theorem ins_mid:∀ {A B:List RCk} {c:RCk},(∀ a ∈ A,kless c.1 a.1=false) -> (∀ b ∈ B,kless c.1 b.1=true) -> insR (A ++ B) c=A ++ c :: B
 | A,[],c,hA,_=>by
   rw [List.append_nil]
   exact ins_not (by unfold doneR; rw [List.any_eq_false]; intro x hx; simp [hA x hx])
 | A,b :: B,c,hA,hB=>ins_first (by unfold doneR; rw [List.any_eq_false]; intro x hx; simp [hA x hx]) (hB b (by simp))
theorem ins_len:∀ (C:List RCk) (c:RCk),(insR C c).length=C.length + 1
 | [],c=>rfl
 | a :: r,c=>by
   simp only [insR]
   split
   ·simp
   ·simp [ins_len r c]
def putR (C:List RCk) (t:ByteArray):List RCk × ByteArray × Bool × Int :=
 if t.size < 1 \/ 128 < t.size then (C,⟨#[]⟩,false,1) else
 match (List.range 256).find? (hitR C (prB t) t) with
 | some k=>(C,nameB (prB t) k,false,0)
 | none=>match (List.range 256).find? (freeR C (prB t)) with
   | some k=>(insR C (nameB (prB t) k,t,0),nameB (prB t) k,true,0)
   | none=>(C,⟨#[]⟩,false,4)
theorem range_first {f:Nat -> Bool} {k n:Nat} (hk:k < n) (h:f k=true) (hno:∀ j,j < k -> f j=false):(List.range n).find? f=some k:=by
 rw [List.find?_range_eq_some]
 exact ⟨h,List.mem_range.2 hk,fun j hj=>by simp [hno j hj]⟩
theorem range_none {f:Nat -> Bool} {n:Nat} (hno:∀ j,j < n -> f j=false):(List.range n).find? f=none:=by
 rw [List.find?_range_eq_none]
 exact fun j hj=>by simp [hno j hj]
theorem hit_rC {C:List Ck} {p t:ByteArray} {k:Nat}:hitR (rC C) p t k=true ↔ ∃ c,cAt C (nameB p k)=some c /\ c.text=t:=by
 unfold hitR
 rw [fnd_rC]
 cases cAt C (nameB p k) with
 | none=>simp
 | some c=>simp
theorem nohit_rC {C:List Ck} {p t:ByteArray} {i:Nat} (h:NoHit C p t i):∀ j,j < i -> hitR (rC C) p t j=false:=fun j hj=>by
 cases hq:hitR (rC C) p t j with
 | false=>rfl
 | true =>
   obtain ⟨c,h1,h2⟩:=hit_rC.1 hq
   exact absurd h2 (h j hj c h1)
theorem putR_hit {C:List Ck} {t:ByteArray} {k:Nat} {c:Ck} (h1:1 <= t.size) (h2:t.size <= 128) (hk:k < 256) (hc:cAt C (nameB (prB t) k)=some c) (ht:c.text=t) (hn:NoHit C (prB t) t k):putR (rC C) t=(rC C,nameB (prB t) k,false,0):=by
 unfold putR
 rw [if_neg (by omega),range_first hk (hit_rC.2 ⟨c,hc,ht⟩) (nohit_rC hn)]
theorem ins_rC {C C':List Ck} {c:Ck} (h:PutC c C C') (hn:cAt C c.id=none):insR (rC C) (c.id,c.text,c.cnt)=rC C':=by
 obtain ⟨A,B,rfl,h',hA,hB⟩:=h
 rcases h' with rfl | ⟨c0,e,rfl⟩
 ·unfold rC
  rw [List.map_append,List.map_append,List.map_cons]
  refine ins_mid (fun a ha=>?_) (fun b hb=>?_)
  ·obtain ⟨x,hx,rfl⟩:=List.mem_map.1 ha
   exact kless_asymm (hA x hx)
  ·obtain ⟨x,hx,rfl⟩:=List.mem_map.1 hb
   exact hB x hx
 ·exact absurd e (cAt_none hn c0 (by simp))
theorem putR_new {C C':List Ck} {t:ByteArray} {k page:Nat} (h1:1 <= t.size) (h2:t.size <= 128) (hk:k < 256) (hc:cAt C (nameB (prB t) k)=none) (hf:∀ j,j < k -> cAt C (nameB (prB t) j) ≠ none) (hn:NoHit C (prB t) t 256) (hp:PutC ⟨nameB (prB t) k,page,0,t⟩ C C'):putR (rC C) t=(rC C',nameB (prB t) k,true,0):=by
 have hfr:∀ j,freeR (rC C) (prB t) j=(cAt C (nameB (prB t) j)).isNone:=fun j=>by
  unfold freeR; rw [fnd_rC,Option.isNone_map]
 unfold putR
 rw [if_neg (by omega),range_none (nohit_rC hn),range_first hk (by rw [hfr,hc]; rfl) fun j hj=>by
  rw [hfr]
  cases hq:cAt C (nameB (prB t) j) with
  | none=>exact absurd hq (hf j hj)
  | some c=>rfl]
 have:=ins_rC hp hc
 simp only at this
 simp only [this]
theorem rL_snoc (L:List Lg) (e:Lg):rL (L ++ [e])=rL L ++ [(e.id,e.by)]:=by simp [rL]
def incR:List RCk -> ByteArray -> Int -> List RCk
 | [],_,_=>[]
 | c :: r,id,d=>if c.1=id then (c.1,c.2.1,c.2.2 + d) :: r else c :: incR r id d
theorem incR_len (C:List RCk) (id:ByteArray) (d:Int):(incR C id d).length=C.length:=by
 induction C with
 | nil=>rfl
 | cons c r ih=>simp only [incR]; split <;> simp [ih]
theorem incR_names (C:List RCk) (id:ByteArray) (d:Int):(incR C id d).map Prod.fst=C.map Prod.fst:=by
 induction C with
 | nil=>rfl
 | cons c r ih=>simp only [incR]; split <;> simp [ih]
theorem ixR_names {C D:List RCk} (h:C.map Prod.fst=D.map Prod.fst) (id:ByteArray):ixR C id=ixR D id:=by
 have:∀ (C:List RCk),C.findIdx? (fun c=>decide (c.1=id))=(C.map Prod.fst).findIdx? (fun c=>decide (c=id)):=fun C=>by
  rw [List.findIdx?_map]; rfl
 unfold ixR
 rw [this,this,h]
theorem incR_no {C:List RCk} {id:ByteArray} {d:Int} (h:∀ c ∈ C,c.1 ≠ id):incR C id d=C:=by
 induction C with
 | nil=>rfl
 | cons c r ih =>
   simp only [incR,if_neg (h c (by simp))]
   rw [ih fun x hx=>h x (by simp [hx])]
theorem incR_mid {A B:List RCk} {c:RCk} {d:Int} (h:∀ a ∈ A,a.1 ≠ c.1):incR (A ++ c :: B) c.1 d=A ++ (c.1,c.2.1,c.2.2 + d) :: B:=by
 induction A with
 | nil=>simp [incR]
 | cons a r ih =>
   simp only [List.cons_append,incR,if_neg (h a (by simp))]
   rw [ih fun x hx=>h x (by simp [hx])]
theorem incR_set {C:List RCk} {i:Nat} {id:ByteArray} {d:Int} (hi:i < C.length) (hid:C[i].1=id) (hno:∀ j (hj:j < i),(C[j]'(Nat.lt_trans hj hi)).1 ≠ id):incR C id d=C.set i (C[i].1,C[i].2.1,C[i].2.2 + d):=by
 have e:C=C.take i ++ C[i] :: C.drop (i + 1):=by rw [<- List.drop_eq_getElem_cons hi,List.take_append_drop]
 have h1:∀ a ∈ C.take i,a.1 ≠ C[i].1:=fun a ha=>by
  obtain ⟨j,hj,rfl⟩:=List.mem_iff_getElem.1 ha
  rw [List.length_take] at hj
  rw [List.getElem_take,hid]
  exact hno j (by omega)
 have h2:=incR_mid (B:=C.drop (i + 1)) (d:=d) h1
 rw [<- e,hid] at h2
 rw [h2,List.set_eq_take_append_cons_drop,if_pos hi,hid]
def mergeR (C:List RCk) (L:List REn):List RCk:=L.foldl (fun D e=>incR D e.1 e.2) C
theorem mergeR_snoc (C:List RCk) (L:List REn) (e:REn):mergeR C (L ++ [e])=incR (mergeR C L) e.1 e.2:=by
 unfold mergeR; rw [List.foldl_append]; rfl
theorem mergeR_names (C:List RCk) (L:List REn):(mergeR C L).map Prod.fst=C.map Prod.fst:=by
 have:∀ (L:List REn) (C:List RCk),(mergeR C L).map Prod.fst=C.map Prod.fst:=by
  intro L
  induction L with
  | nil=>intro C; rfl
  | cons e L ih=>intro C; exact (ih (incR C e.1 e.2)).trans (incR_names C e.1 e.2)
 exact this L C
theorem mergeR_len (C:List RCk) (L:List REn):(mergeR C L).length=C.length:=by
 have:=congrArg List.length (mergeR_names C L)
 simpa using this
theorem putC_at {C C':List Ck} {c:Ck} {id:ByteArray} {d:Int} (h:cAt C id=some c) (hp:PutC (c.add d) C C'):∃ A B,C=A ++ c :: B /\ C'=A ++ c.add d :: B /\ ∀ a ∈ A,a.id ≠ c.id:=by
 obtain ⟨hm,hid⟩:=cAt_some h
 obtain ⟨A,B,rfl,h',hA,hB⟩:=hp
 have nA:c ∉ A:=fun hc=>by
  have h1:=hA c hc
  have h2:kless c.id c.id=true:=h1
  rw [kless_irrefl] at h2; cases h2
 have nB:c ∉ B:=fun hc=>by
  have h1:=hB c hc
  have h2:kless c.id c.id=true:=h1
  rw [kless_irrefl] at h2; cases h2
 have hne:∀ a ∈ A,a.id ≠ c.id:=fun a ha=>kless_ne (hA a ha)
 rcases h' with rfl | ⟨c0,-,rfl⟩
 ·rcases List.mem_append.1 hm with hc | hc
  ·exact absurd hc nA
  ·exact absurd hc nB
 ·rcases List.mem_append.1 hm with hc | hc
  ·exact absurd hc nA
  ·rcases List.mem_cons.1 hc with rfl | hc
   ·exact ⟨A,B,rfl,rfl,hne⟩
   ·exact absurd hc nB
theorem incR_rC {C C':List Ck} {c:Ck} {id:ByteArray} {d:Int} (h:cAt C id=some c) (hp:PutC (c.add d) C C'):rC C'=incR (rC C) id d /\ cpg C'=cpg C:=by
 obtain ⟨A,B,rfl,rfl,hn⟩:=putC_at h hp
 have hid:=(cAt_some h).2
 refine ⟨?_,by simp [cpg,Ck.add]⟩
 have:=incR_mid (A:=rC A) (B:=rC B) (c:=(c.id,c.text,c.cnt)) (d:=d) fun a ha=>by
  obtain ⟨x,hx,rfl⟩:=List.mem_map.1 ha
  exact hn x hx
 rw [show (c.id,c.text,c.cnt).1=id from hid] at this
 simp only [rC,List.map_append,List.map_cons] at this ⊢
 rw [this]
 simp [Ck.add,hid]
theorem Mg.ref {C C':List Ck} {T:List Lg} (h:Mg C T C'):rC C'=mergeR (rC C) (rL T) /\ cpg C'=cpg C:=by
 induction h with
 | nil=>exact ⟨rfl,rfl⟩
 | @snoc T C1 C2 e h1 h2 ih =>
   rw [rL_snoc,mergeR_snoc,<- ih.1,<- ih.2]
   rcases h2 with ⟨hn,rfl⟩ | ⟨c,hc,hp⟩
   ·refine ⟨(incR_no fun a ha=>?_).symm,rfl⟩
    obtain ⟨x,hx,rfl⟩:=List.mem_map.1 ha
    exact cAt_none hn x hx
   ·exact incR_rC hc hp
def pendR:List REn -> ByteArray -> Int × Nat
 | [],_=>(0,0)
 | e :: r,id=>if e.1=id then ((pendR r id).1 + e.2,(pendR r id).2 + 1) else pendR r id
theorem pendR_snoc (L:List REn) (e:REn) (id:ByteArray):pendR (L ++ [e]) id=if e.1=id then ((pendR L id).1 + e.2,(pendR L id).2 + 1) else pendR L id:=by
 induction L with
 | nil=>simp [pendR]
 | cons x L ih =>
   simp only [List.cons_append,pendR,ih]
   by_cases h1:x.1=id <;> by_cases h2:e.1=id
   ·simp only [h1,h2,if_true]; refine Prod.ext ?_ rfl; simp only; omega
   ·simp only [h1,h2,if_true,if_false]
   ·simp only [h1,h2,if_true,if_false]
   ·simp only [h1,h2,if_false]
theorem pendR_len (L:List REn) (id:ByteArray):(pendR L id).2 <= L.length:=by
 induction L with
 | nil=>exact Nat.le_refl _
 | cons x L ih =>
   simp only [pendR,List.length_cons]
   split
   ·show (pendR L id).2 + 1 <= _; omega
   ·omega
theorem pendR_abs {L:List REn} (id:ByteArray) (h:∀ e ∈ L,-1 <= e.2 /\ e.2 <= 1):-(L.length:Int) <= (pendR L id).1 /\ (pendR L id).1 <= L.length:=by
 induction L with
 | nil=>simp [pendR]
 | cons x L ih =>
   have h1:=h x (by simp)
   have h2:=ih fun e he=>h e (by simp [he])
   simp only [pendR,List.length_cons]
   split
   ·show _ <= (pendR L id).1 + x.2 /\ (pendR L id).1 + x.2 <= _; omega
   ·omega
def busyL (L:List Lg) (id:ByteArray):Bool:=L.any fun e=>decide (e.id=id)
theorem pendR_rL (L:List Lg) (id:ByteArray):(pendR (rL L) id).1=pend L id /\ ((pendR (rL L) id).2=0 ↔ busyL L id=false):=by
 induction L with
 | nil=>exact ⟨rfl,by simp [rL,pendR,busyL]⟩
 | cons e L ih =>
   have e1:rL (e :: L)=(e.id,e.by) :: rL L:=rfl
   rw [e1]
   simp only [pendR,pend,busyL,List.any_cons]
   by_cases h:e.id=id
   ·simp only [h,if_true]; exact ⟨by rw [ih.1]; omega,by simp⟩
   ·simp only [h,if_false]
    refine ⟨by rw [ih.1]; omega,?_⟩
    rw [ih.2]; simp [busyL]
def reclR (L:List REn) (lim:Int):Nat -> List RCk -> List RCk × Nat
 | n,[]=>([],n)
 | n,c :: r=>if (n:Int) < lim /\ c.2.2 <= 0 /\ (pendR L c.1).2=0 then reclR L lim (n + 1) r else (c :: (reclR L lim n r).1,(reclR L lim n r).2)
def reclK (L:List Lg) (lim:Int):Nat -> List Ck -> List Ck × Nat
 | n,[]=>([],n)
 | n,c :: r=>if (n:Int) < lim /\ c.cnt <= 0 /\ busyL L c.id=false then reclK L lim (n + 1) r else (c :: (reclK L lim n r).1,(reclK L lim n r).2)
theorem reclR_y {L:List REn} {lim:Int} {n:Nat} {a:RCk} {P:List RCk} (h:(n:Int) < lim /\ a.2.2 <= 0 /\ (pendR L a.1).2=0):reclR L lim n (a :: P)=reclR L lim (n + 1) P:=by
 show (if _ then _ else _)=_
 exact if_pos h
theorem reclR_n {L:List REn} {lim:Int} {n:Nat} {a:RCk} {P:List RCk} (h:¬ ((n:Int) < lim /\ a.2.2 <= 0 /\ (pendR L a.1).2=0)):reclR L lim n (a :: P)=(a :: (reclR L lim n P).1,(reclR L lim n P).2):=by
 show (if _ then _ else _)=_
 exact if_neg h
theorem reclK_y {L:List Lg} {lim:Int} {n:Nat} {a:Ck} {P:List Ck} (h:(n:Int) < lim /\ a.cnt <= 0 /\ busyL L a.id=false):reclK L lim n (a :: P)=reclK L lim (n + 1) P:=by
 show (if _ then _ else _)=_
 exact if_pos h
theorem reclK_n {L:List Lg} {lim:Int} {n:Nat} {a:Ck} {P:List Ck} (h:¬ ((n:Int) < lim /\ a.cnt <= 0 /\ busyL L a.id=false)):reclK L lim n (a :: P)=(a :: (reclK L lim n P).1,(reclK L lim n P).2):=by
 show (if _ then _ else _)=_
 exact if_neg h
theorem recl_rC (L:List Lg) (lim:Int):∀ (C:List Ck) (n:Nat),reclR (rL L) lim n (rC C)=(rC (reclK L lim n C).1,(reclK L lim n C).2)
 | [],n=>rfl
 | c :: C,n=>by
   have e1:rC (c :: C)=(c.id,c.text,c.cnt) :: rC C:=rfl
   rw [e1]
   have hp:=(pendR_rL L c.id).2
   by_cases h:(n:Int) < lim /\ c.cnt <= 0 /\ busyL L c.id=false
   ·rw [reclK_y h,reclR_y ⟨h.1,h.2.1,hp.2 h.2.2⟩,recl_rC L lim C (n + 1)]
   ·rw [reclK_n h,reclR_n (fun g=>h ⟨g.1,g.2.1,hp.1 g.2.2⟩),recl_rC L lim C n]
    rfl
def rstep (L:List REn) (lim:Int) (c:RCk) (q:List RCk × Nat):List RCk × Nat:=if (q.2:Int) < lim /\ c.2.2 <= 0 /\ (pendR L c.1).2=0 then (q.1,q.2 + 1) else (q.1 ++ [c],q.2)
def kstep (L:List Lg) (lim:Int) (c:Ck) (q:List Ck × Nat):List Ck × Nat:=if (q.2:Int) < lim /\ c.cnt <= 0 /\ busyL L c.id=false then (q.1,q.2 + 1) else (q.1 ++ [c],q.2)
theorem rstep_cons (L:List REn) (lim:Int) (c a:RCk) (q:List RCk × Nat):rstep L lim c (a :: q.1,q.2)=(a :: (rstep L lim c q).1,(rstep L lim c q).2):=by
 unfold rstep
 split <;> rfl
theorem kstep_cons (L:List Lg) (lim:Int) (c a:Ck) (q:List Ck × Nat):kstep L lim c (a :: q.1,q.2)=(a :: (kstep L lim c q).1,(kstep L lim c q).2):=by
 unfold kstep
 split <;> rfl
theorem reclR_snoc (L:List REn) (lim:Int) (c:RCk):∀ (P:List RCk) (n:Nat),reclR L lim n (P ++ [c])=rstep L lim c (reclR L lim n P)
 | [],n=>rfl
 | a :: P,n=>by
   rw [List.cons_append]
   by_cases h:(n:Int) < lim /\ a.2.2 <= 0 /\ (pendR L a.1).2=0
   ·rw [reclR_y h,reclR_y h,reclR_snoc L lim c P (n + 1)]
   ·rw [reclR_n h,reclR_n h,reclR_snoc L lim c P n,rstep_cons]
theorem reclK_snoc (L:List Lg) (lim:Int) (c:Ck):∀ (P:List Ck) (n:Nat),reclK L lim n (P ++ [c])=kstep L lim c (reclK L lim n P)
 | [],n=>rfl
 | a :: P,n=>by
   rw [List.cons_append]
   by_cases h:(n:Int) < lim /\ a.cnt <= 0 /\ busyL L a.id=false
   ·rw [reclK_y h,reclK_y h,reclK_snoc L lim c P (n + 1)]
   ·rw [reclK_n h,reclK_n h,reclK_snoc L lim c P n,kstep_cons]
theorem reclK_full (L:List Lg) (lim:Int):∀ (C:List Ck) (n:Nat),lim <= n -> reclK L lim n C=(C,n)
 | [],n,_=>rfl
 | c :: C,n,h=>by
   rw [reclK_n (by omega),reclK_full L lim C n h]
theorem reclK_app (L:List Lg) (lim:Int) (Q:List Ck):∀ (P:List Ck) (n:Nat),reclK L lim n (P ++ Q)=((reclK L lim n P).1 ++ (reclK L lim (reclK L lim n P).2 Q).1,(reclK L lim (reclK L lim n P).2 Q).2)
 | [],n=>rfl
 | a :: P,n=>by
   rw [List.cons_append]
   by_cases h:(n:Int) < lim /\ a.cnt <= 0 /\ busyL L a.id=false
   ·rw [reclK_y h,reclK_y h]
    exact reclK_app L lim Q P (n + 1)
   ·rw [reclK_n h,reclK_n h,reclK_app L lim Q P n]; rfl
theorem reclK_len (L:List Lg) (lim:Int):∀ (C:List Ck) (n:Nat),(reclK L lim n C).1.length + (reclK L lim n C).2=C.length + n
 | [],n=>rfl
 | c :: C,n=>by
   by_cases h:(n:Int) < lim /\ c.cnt <= 0 /\ busyL L c.id=false
   ·rw [reclK_y h,reclK_len L lim C (n + 1),List.length_cons]; omega
   ·have:=reclK_len L lim C n
    rw [reclK_n h]
    simp only [List.length_cons]; omega
theorem reclR_len (L:List REn) (lim:Int):∀ (C:List RCk) (n:Nat),(reclR L lim n C).1.length + (reclR L lim n C).2=C.length + n
 | [],n=>rfl
 | c :: C,n=>by
   by_cases h:(n:Int) < lim /\ c.2.2 <= 0 /\ (pendR L c.1).2=0
   ·rw [reclR_y h,reclR_len L lim C (n + 1),List.length_cons]; omega
   ·have:=reclR_len L lim C n
    rw [reclR_n h]
    simp only [List.length_cons]; omega
theorem reclK_mem (L:List Lg) (lim:Int):∀ (C:List Ck) (n:Nat) (d:Ck),d ∈ (reclK L lim n C).1 -> d ∈ C
 | [],n,d,h=>by cases h
 | c :: C,n,d,h=>by
   by_cases hc:(n:Int) < lim /\ c.cnt <= 0 /\ busyL L c.id=false
   ·rw [reclK_y hc] at h
    exact List.mem_cons_of_mem _ (reclK_mem L lim C (n + 1) d h)
   ·rw [reclK_n hc] at h
    rcases List.mem_cons.1 h with rfl | h
    ·simp
    ·exact List.mem_cons_of_mem _ (reclK_mem L lim C n d h)
theorem filt_mid {K R:List Ck} {c:Ck} (h:CSrt (K ++ c :: R)):(K ++ c :: R).filter (fun x=>decide (x.id ≠ c.id))=K ++ R:=by
 obtain ⟨-,h2,h3⟩:=List.pairwise_append.1 h
 obtain ⟨h4,-⟩:=List.pairwise_cons.1 h2
 rw [List.filter_append,List.filter_cons,if_neg (by simp),List.filter_eq_self.2 fun x hx=>?_,List.filter_eq_self.2 fun x hx=>?_]
 ·simp only [decide_eq_true_eq]; exact fun e=>kless_ne (h4 x hx) e.symm
 ·simp only [decide_eq_true_eq]; exact kless_ne (h3 x hx c (by simp))
theorem DelC.mid {K R C':List Ck} {c:Ck} (hs:CSrt (K ++ c :: R)) (h:DelC c.id (K ++ c :: R) C'):C'=K ++ R:=by
 obtain ⟨A,B,d,hd,he,rfl⟩:=h
 have h1:=filt_mid hs
 rw [he] at hs h1
 rw [<- hd,filt_mid hs] at h1
 exact h1
theorem cpg_mid (K R:List Ck) (c:Ck):(cpg (K ++ c :: R)).Perm ((c.page,c.text) :: cpg (K ++ R)):=by
 simp only [cpg,List.map_append,List.map_cons]
 exact List.perm_middle
theorem cpg_new {c:Ck} {C C':List Ck} (hn:cAt C c.id=none) (h:PutC c C C'):((c.page,c.text) :: cpg C).Perm (cpg C'):=by
 obtain ⟨A,B,rfl,h',-,-⟩:=h
 rcases h' with rfl | ⟨c0,e,rfl⟩
 ·exact (cpg_mid A B c).symm
 ·exact absurd e (cAt_none hn c0 (by simp))
set_option maxHeartbeats 2000000
theorem row_short {w:World} {b:Nat} {e:TypeId} {size g k cap:Nat} {xs ys:List Value} (h:w.ownsRow b e size (.slice (some ⟨g,0,none⟩) (k + 1) cap) (k + 1) (xs ++ ys)) (hl:xs.length=k * size):w.ownsRow b e size (.slice (some ⟨g,0,none⟩) k cap) k xs:=by
 refine ⟨hl,.inr ?_⟩
 rcases h.2 with ⟨e,h0⟩ | ⟨g',cap',cur,e,h1,h2,h3,h4,h5,h6⟩
 ·cases h0
 ·cases e
  refine ⟨_,_,cur,rfl,h1,h2,by omega,h4,h5,?_⟩
  have:=congrArg (List.take (k * size)) h6
  rw [List.take_take,List.take_append_of_le_length (by omega),Nat.min_eq_left (by rw [Nat.add_mul]; omega)] at this
  rw [this,<- hl,List.take_length]
theorem wrs_snoc (l:List (Int × ByteArray)) (p:Int × ByteArray):wrs (l ++ [p])=wrs l ++ [.int .i64 p.1,.string p.2]:=by simp [wrs]
theorem wrs_len (l:List (Int × ByteArray)):(wrs l).length=l.length * 2:=by
 induction l with
 | nil=>rfl
 | cons p l ih=>rw [show p :: l=[p] ++ l from rfl]; simp [wrs] at ih ⊢; omega
def backM (m:List (Int × Value)) (l:List (Int × ByteArray)) (i:Int) (v:Value):List (Int × Value):=if idxs l 0 i=[] then del m i else put m i v
theorem back_step {w W:World} {F:Nat -> Prop} {tb lb mw g cap:Nat} {l:List (Int × ByteArray)} {p:Int × ByteArray} {m:List (Int × Value)} {v:Value} (h:IsTxc w F tb lb (l ++ [p]) (.slice (some ⟨g,0,none⟩) (l.length + 1) cap) mw m)
 (hv:idxs l 0 p.1 ≠ [] -> v.ownBlock=(rowOf m p.1).ownBlock /\ w.ownsRow 0 3 1 v (idxs l 0 p.1).length (ints (idxs l 0 p.1)))
 (hm:MapIs kInt id W mw (backM m l p.1 v)) (hu:Upd (·=mw) w W) :
 ∃ F',IsTxc (W.setCell ⟨tb,1,none⟩ (.slice (some ⟨g,0,none⟩) l.length cap)) F' tb lb l (.slice (some ⟨g,0,none⟩) l.length cap) mw (backM m l p.1 v) /\ Upd F w (W.setCell ⟨tb,1,none⟩ (.slice (some ⟨g,0,none⟩) l.length cap)) /\ ∀ k,F' k -> F k:=by
 have nmt:mw ≠ tb:=h.map.ne_cells h.cells
 have npm:g ≠ mw:=fun e=>by
  obtain ⟨cur,hc⟩:=ownsRow_cells h.row (k:=g) rfl
  exact h.map.ne_cells (e ▸ hc) rfl
 have npt:g ≠ tb:=fun e=>by
  obtain ⟨cur,hc⟩:=ownsRow_cells h.row (k:=g) rfl
  rw [e,h.cells] at hc; simp at hc
 have hc1:W.heap[tb]?=some (.cells #[.pointer (some ⟨lb,0,none⟩),.slice (some ⟨g,0,none⟩) (l.length + 1) cap,.map (some mw)] 120 (0,0)):=hu.at h.cells fun e=>nmt e.symm
 have hU:Upd (fun k=>k=mw \/ k=tb) w (W.setCell ⟨tb,1,none⟩ (.slice (some ⟨g,0,none⟩) l.length cap)):=(hu.mono fun _ _ e=>.inl e).trans ((upd_setCell _ _ _ _).mono fun _ _ e=>.inr e)
 have hlk:∀ j u,look (backM m l p.1 v) j=some u -> (j ≠ p.1 /\ look m j=some u) \/ (j=p.1 /\ idxs l 0 p.1 ≠ [] /\ u=v):=by
  intro j u hj
  unfold backM at hj
  split at hj
  ·rw [look_del] at hj
   by_cases e:p.1=j
   ·rw [if_pos e] at hj; cases hj
   ·rw [if_neg e] at hj; exact .inl ⟨fun e'=>e e'.symm,hj⟩
  ·rename_i hne
   rw [look_put] at hj
   by_cases e:p.1=j
   ·rw [if_pos e] at hj; cases hj; exact .inr ⟨e.symm,hne,rfl⟩
   ·rw [if_neg e] at hj; exact .inl ⟨fun e'=>e e'.symm,hj⟩
 have hoth:∀ j,j ≠ p.1 -> look (backM m l p.1 v) j=look m j:=by
  intro j hj
  unfold backM
  split
  ·rw [look_del,if_neg fun e=>hj e.symm]
  ·rw [look_put,if_neg fun e=>hj e.symm]
 have hrow:∃ u,look m p.1=some u /\ (rowOf m p.1)=u:=by
  rcases h.rows p.1 with ⟨a,b⟩ | ⟨u,a,-,-⟩
  ·rw [idxs_snoc,if_pos rfl] at b; simp at b
  ·exact ⟨u,a,by unfold rowOf; rw [a]; rfl⟩
 obtain ⟨u0,hu0,hr0⟩:=hrow
 have keep:∀ {n:Nat} {xs:List Value} {x:Value} {sz:Nat} {e:TypeId},w.ownsRow 0 e sz x n xs -> (∀ k,x.ownBlock=some k -> k ≠ tb) -> (W.setCell ⟨tb,1,none⟩ (.slice (some ⟨g,0,none⟩) l.length cap)).ownsRow 0 e sz x n xs:=fun hx hk=>ownsRow_upd hx hU fun k e=>by
  rintro (rfl | rfl)
  ·obtain ⟨cur,hc⟩:=ownsRow_cells hx e
   exact h.map.ne_cells hc rfl
  ·exact hk _ e rfl
 have rowt:∀ i u,look m i=some u -> ∀ k,u.ownBlock=some k -> k ≠ tb:=fun i u hi k hk e=>by
  rcases h.rows i with ⟨a,-⟩ | ⟨u',a,-,c⟩
  ·rw [a] at hi; cases hi
  ·rw [a] at hi; cases hi
   obtain ⟨cur,hc⟩:=ownsRow_cells c hk
   rw [e,h.cells] at hc; simp at hc
 refine ⟨fun k=>k=tb \/ k=mw \/ (Value.slice (some ⟨g,0,none⟩) l.length cap).ownBlock=some k \/ ∃ i u,look (backM m l p.1 v) i=some u /\ u.ownBlock=some k,⟨heap_set_lit hc1 _,?_,hm.upd (upd_setCell _ _ _ _) nmt,fun j=>?_,fun i j a b hij hi hj=>?_,fun k=>Iff.rfl⟩,hU.mono fun k _ e=>?_,fun k hk=>?_⟩
 ·refine keep (row_short (ys:=[.int .i64 p.1,.string p.2]) ?_ (wrs_len l)) (fun k e=>by
   have:g=k:=by simpa [Value.ownBlock] using e
   rw [<- this]; exact npt)
  rw [<- wrs_snoc]
  have:=h.row
  rwa [List.length_append] at this
 ·by_cases e:j=p.1
  ·subst e
   by_cases hn:idxs l 0 p.1=[]
   ·exact .inl ⟨by unfold backM; rw [if_pos hn,look_del,if_pos rfl],hn⟩
   ·obtain ⟨h1,h2⟩:=hv hn
    exact .inr ⟨v,by unfold backM; rw [if_neg hn,look_put,if_pos rfl],hn,keep h2 fun k hk=>rowt p.1 u0 hu0 k (by rw [<- hr0,<- h1]; exact hk)⟩
  ·rw [hoth j e]
   have e2:idxs (l ++ [p]) 0 j=idxs l 0 j:=by rw [idxs_snoc,if_neg fun e'=>e e'.symm]
   rcases h.rows j with ⟨a,b⟩ | ⟨u,a,b,c⟩
   ·rw [e2] at b; exact .inl ⟨a,b⟩
   ·rw [e2] at b c; exact .inr ⟨u,a,b,keep c (rowt j u a)⟩
 ·have big:∀ i a,look (backM m l p.1 v) i=some a -> ∃ a',look m i=some a' /\ a.ownBlock=a'.ownBlock:=fun i a hi=>by
   rcases hlk i a hi with ⟨-,x⟩ | ⟨x,y,z⟩
   ·exact ⟨a,x,rfl⟩
   ·exact ⟨u0,by rw [x]; exact hu0,by rw [z,(hv y).1,hr0]⟩
  obtain ⟨a',x1,x2⟩:=big i a hi
  obtain ⟨b',y1,y2⟩:=big j b hj
  rw [x2,y2]
  exact h.apart i j a' b' hij x1 y1
 ·rcases e with rfl | rfl
  ·exact (h.own _).2 (.inr (.inl rfl))
  ·exact (h.own _).2 (.inl rfl)
 ·rcases hk with rfl | rfl | e | ⟨i,u,h1,h2⟩
  ·exact (h.own _).2 (.inl rfl)
  ·exact (h.own _).2 (.inr (.inl rfl))
  ·exact (h.own _).2 (.inr (.inr (.inl e)))
  ·rcases hlk i u h1 with ⟨-,x⟩ | ⟨x,y,z⟩
   ·exact (h.own _).2 (.inr (.inr (.inr ⟨i,u,x,h2⟩)))
   ·exact (h.own _).2 (.inr (.inr (.inr ⟨p.1,u0,hu0,by rw [<- hr0,<- (hv y).1,<- z]; exact h2⟩)))
def BkRel (w:World) (F:Nat -> Prop) (tb lb:Nat) (base:List (Int × ByteArray)) (g:Nat) (wr:World):Prop:=∃ tl F2,g=tl.length /\ IsTx wr F2 tb lb (base ++ tl) /\ Upd F w wr /\ ∀ k,F2 k -> F k
theorem snoc_cases {α:Type} (l:List α):l=[] \/ ∃ l' a,l=l' ++ [a]:=by
 rcases List.eq_nil_or_concat l with h | ⟨l',a,h⟩
 ·exact .inl h
 ·exact .inr ⟨l',a,by simpa using h⟩
theorem BkRel.step {w wr W:World} {F F2:Nat -> Prop} {tb lb mw g cap L:Nat} {base tl:List (Int × ByteArray)} {p:Int × ByteArray} {m:List (Int × Value)} {v:Value} (hL:(base ++ tl).length=L) (h:IsTxc wr F2 tb lb ((base ++ tl) ++ [p]) (.slice (some ⟨g,0,none⟩) (L + 1) cap) mw m)
 (hu:Upd F w wr) (hs:∀ k,F2 k -> F k) (hv:idxs (base ++ tl) 0 p.1 ≠ [] -> v.ownBlock=(rowOf m p.1).ownBlock /\ wr.ownsRow 0 3 1 v (idxs (base ++ tl) 0 p.1).length (ints (idxs (base ++ tl) 0 p.1)))
 (hm:MapIs kInt id W mw (backM m (base ++ tl) p.1 v)) (hu2:Upd (·=mw) wr W):BkRel w F tb lb base tl.length (W.setCell ⟨tb,1,none⟩ (.slice (some ⟨g,0,none⟩) L cap)):=by
 subst hL
 obtain ⟨F',a,b,c⟩:=back_step h hv hm hu2
 exact ⟨tl,F',rfl,⟨_,_,_,a⟩,hu.trans (b.mono fun k _ e=>hs k e),fun k hk=>hs k (c k hk)⟩
theorem TBack_c (tb lb n:Nat) (FL F:Nat -> Prop) (base tail:List (Int × ByteArray)) (w:World) (h:Chg w FL F tb lb n (base ++ tail)) (hl:(base ++ tail).length <= 4000000) :
 Calls Tryz.prog 174 #[.pointer (some ⟨tb,0,none⟩),.int .i64 (base.length:Int)] w fun e w'=>e=.returned (.tuple #[]) /\ Hid (∃ F',Chg w' FL F' tb lb n base /\ Turn F F' w w'):=by
 have H:=Hd h
 have R0:Hid (BkRel w F tb lb base tail.length w):=Hd ⟨tail,F,rfl,h.tx,Upd.refl _ _,fun _ e=>e⟩
 have hmx:max (base.length:Int) 0=(base.length:Int):=by omega
 obtain ⟨bl,hbl⟩:=exE (base.length)
 rw [hbl] at hmx ⊢
 have HBL:=Hd hbl
 have HL:=Hd hl
 clear h hl hbl
 go_enter Tryz.func174,Tryz.ntmps174
 go_wp2_with fail
 go_loopg [4,5,6] tail.length (fun g s4 s5 s6 wr=>g <= tail.length /\ Hid (BkRel w F tb lb base g wr))
 case atStart=>exact ⟨Nat.le_refl _,R0⟩
 case round =>
  obtain ⟨hg,HR⟩:=hrel
  obtain ⟨tl,F2,hgl,ht,hu,hs⟩:=HR.out
  clear R0 HR
  obtain ⟨pv,mw,m,ht⟩:=ht
  obtain ⟨-,c1,c2⟩:=ht.c
  have f1:=frozen_lit ht.cells 1
  rcases snoc_cases tl with rfl | ⟨tl,p,rfl⟩
  ·obtain ⟨a,l,c,rfl⟩:=slice_form ht.row
   obtain rfl:=rlen ht.row
   have HE:Hid (∃ F',Chg _ FL F' tb lb n base /\ Turn F F' w _):=Hd ⟨F2,⟨H.out.log.frame hu fun k hk e=>H.out.apart k hk e,(by have:IsTx _ F2 tb lb (base ++ []):=⟨_,_,_,ht⟩; rwa [List.append_nil] at this),fun k hk e=>H.out.apart k hk (hs k e)⟩,hu,fun k hk=>.inl (hs k hk)⟩
   rw [List.append_nil,HBL.out] at c1
   clear ht hu hs
   go_wp2_with fail
   go_end0
   exact ⟨rfl,HE⟩
  ·have hap:base ++ (tl ++ [p])=(base ++ tl) ++ [p]:=by simp
   rw [hap] at ht
   obtain ⟨L,hL⟩:=exE ((base ++ tl).length)
   have hrow:=ht.row
   rw [List.length_append,hL,List.length_singleton] at hrow
   obtain ⟨gp,cap,rfl,-,-⟩:=hrow.form (by simp)
   have hLb:bl <= L:=by have:=HBL.out; rw [<- hL,List.length_append]; omega
   have hL4:L <= 4000000:=by
    have:=HL.out
    rw [List.length_append] at this
    rw [hgl,List.length_append] at hg
    rw [<- hL,List.length_append]
    simp at hg; omega
   have q1:(bl:Int) < (L:Int) + 1:=by omega
   have e0:((L + 1:Nat):Int)=(L:Int) + 1:=by omega
   have c3:wr.cell? ⟨gp,L * 2,none⟩=some (.int .i64 p.1):=by
    rw [hrow.cellAt (L * 2) (by omega),wrs_snoc,List.getElem?_append_right (by rw [wrs_len,hL]; exact Nat.le_refl _),wrs_len,hL,Nat.sub_self]; rfl
   have HCAP:Hid (L <= cap):=Hd (by
    rcases hrow.2 with ⟨e,h0⟩ | ⟨g',cap',cur,e,h1,h2,h3,-⟩
    ·cases h0
    ·cases e; omega)
   have hr0:=ht.rowOf p.1
   rw [idxs_snoc,if_pos rfl,hL,List.length_append] at hr0
   obtain ⟨gr,capr,hrv,hk1,hk2⟩:=hr0.form (by simp)
   have lk:=fun W (hW:W.heap[mw]?=wr.heap[mw]?)=>run_lookup (w:=W) (ht.map.of_heap hW) Tryz.underlying117 Tryz.underlying3 (zeroInts _) p.1
   simp only [kInt,Option.map_id] at lk
   change ∀ W,W.heap[mw]?=wr.heap[mw]? -> (Instr.lookup 117 (.map (some mw)) (.int .i64 p.1) false).run Tryz.prog W=.ok (rowOf m p.1) W at lk
   rw [hrv] at lk hr0
   have lk1:=lk wr rfl
   have HT:=Hd ht
   have HU:=Hd hu
   have HS:=Hd hs
   have HLL:=Hd hL
   have HG:Hid (tl.length < gk /\ tl.length <= tail.length):=Hd (by rw [hgl] at hg ⊢; simp at hg ⊢; omega)
   have HR0:=Hd hr0
   have HRV:=Hd hrv
   rw [e0] at *
   clear hap hrow hr0 hrv hk1 hk2 lk ht hu hs hL hgl hg
   cases hix:idxs (base ++ tl) 0 p.1 with
   | nil =>
     rw [hix] at lk1
     simp only [List.length_nil,List.length_singleton,Nat.zero_add] at lk1
     obtain ⟨W,hrun,hm2,hu2⟩:=run_delete (w:=wr) (ty:=0) HT.out.map Tryz.underlying117 Tryz.underlying3 p.1
     simp only [kInt] at hrun
     have hcW:=hu2.at HT.out.cells fun e=>HT.out.map.ne_cells HT.out.cells e.symm
     have d1:W.cell? ⟨tb,1,none⟩=some (.slice (some ⟨gp,0,none⟩) (L + 1) cap):=cell_lit hcW rfl
     have d2:=frozen_lit hcW 1
     have HST:=Hd (BkRel.step (v:=.slice none 0 0) HLL.out HT.out HU.out HS.out (fun e=>absurd hix e) (by unfold backM; rw [if_pos hix]; exact hm2) hu2)
     clear hm2 hu2 hcW hix e0
     go_wp2_with fail
     all_goals first
      | (exact absurd HCAP.out (by assumption))
      | (go_roundg tl.length)
     case measure=>exact HG.out.1
     case rel=>exact ⟨HG.out.2,HST⟩
   | cons x r =>
     rw [hix] at lk1 HR0 HRV
     simp only [List.length_cons,List.length_singleton,List.length_nil,Nat.zero_add] at lk1 HR0 HRV
     obtain ⟨R,hR⟩:=exE (r.length)
     rw [hR] at lk1 HR0 HRV
     have hrs:=row_short (xs:=ints (x :: r)) (ys:=[.int .i64 (L:Int)]) (by have:=HR0.out; simpa [ints] using this) (by simp [ints,hR])
     have hR4:R <= 4000000:=by
      have:=idxs_len (base ++ tl) 0 p.1
      rw [hix,List.length_cons,hR,HLL.out] at this; omega
     have lkd:=fun W (hW:W.heap[mw]?=wr.heap[mw]?)=>(run_lookup (w:=W) (HT.out.map.of_heap hW) Tryz.underlying117 Tryz.underlying3 (zeroInts _) p.1)
     obtain ⟨W,hrun,hm2,hu2⟩:=run_mapUpdate (w:=wr.drew) (HT.out.map.of_heap rfl) Tryz.underlying117 Tryz.underlying3 p.1 (Value.slice (some ⟨gr,0,none⟩) (R + 1) capr)
     simp only [kInt,id] at hrun
     have hu3:Upd (·=mw) wr W:=hu2.drew_left
     have hcW:=hu3.at HT.out.cells fun e=>HT.out.map.ne_cells HT.out.cells e.symm
     have d1:W.cell? ⟨tb,1,none⟩=some (.slice (some ⟨gp,0,none⟩) (L + 1) cap):=cell_lit hcW rfl
     have d2:=frozen_lit hcW 1
     have d3:W.cell? ⟨tb,2,none⟩=some (.map (some mw)):=cell_lit hcW rfl
     have hcR:R + 1 <= capr:=by
      rcases HR0.out.2 with ⟨e,h0⟩ | ⟨g',cap',cur,e,h1,h2,h3,-⟩
      ·cases h0
      ·cases e; omega
     have HST:=Hd (BkRel.step (v:=Value.slice (some ⟨gr,0,none⟩) (R + 1) capr) HLL.out HT.out HU.out HS.out (fun _=>⟨by rw [HRV.out]; rfl,by rw [hix,List.length_cons,hR]; exact hrs⟩) (by unfold backM; rw [if_neg (by rw [hix]; simp)]; exact hm2) hu3)
     clear hm2 hu2 hu3 hcW hix e0 lkd hrs hR HR0 HRV
     go_wp2_with fail
     have hcR':(R + 1 <= capr)=True:=eq_true hcR
     have hcR2:(R < capr)=True:=eq_true hcR
     have hcR3:(capr=R)=False:=eq_false (by omega)
     have hcR4:IntKind.i64.wrap ((R:Int) + 1)=(R:Int) + 1:=wr64 (by omega) (by omega)
     go_region_held (fun w'=>w'.cell? ⟨tb,2,none⟩=some (.map (some mw))) (go_keep) (fail)
     all_goals go_wp2_with fail
     all_goals first
      | (exact absurd HCAP.out (by assumption))
      | (exfalso; omega)
      | (go_roundg tl.length)
     case measure=>exact HG.out.1
     case rel=>exact ⟨HG.out.2,HST⟩
set_option maxHeartbeats 1000000
theorem RBack_c (G:Nat -> Prop) (rb n:Nat) (base tail:List (Int × ByteArray)) (w:World) (h:Rm w G rb n (base ++ tail)) (hl:(base ++ tail).length <= 4000000) :
 Calls Tryz.prog 119 #[.pointer (some ⟨rb,0,none⟩),.int .i64 (base.length:Int)] w fun e w'=>e=.returned (.tuple #[]) /\ Hid (∃ G',Rm w' G' rb n base /\ Turn G G' w w'):=by
 obtain ⟨tb,lb,FL,F,h⟩:=h
 obtain ⟨c0,-,-⟩:=h.c
 have TM:=TBack_c tb lb n FL F base tail w h.chg hl
 have H:=Hd h
 clear h hl
 generalize (base.length:Int)=bl at *
 go_enter Tryz.func119,Tryz.ntmps119
 go_wp2_with fail
 refine TM.mono ?_
 rintro e w1 ⟨rfl,HB⟩
 have HE:Hid (∃ G',Rm w1 G' rb n base /\ Turn G G' w w1):=Hd (by
  obtain ⟨F',a,b⟩:=HB.out
  obtain ⟨c,d⟩:=H.out.write a b
  exact ⟨_,⟨tb,lb,FL,F',c⟩,d⟩)
 go_wp2_with fail
 go_end0
 exact ⟨rfl,HE⟩
end Go.Proofs.YtdcjhpafipbpkaaGreatDoor
