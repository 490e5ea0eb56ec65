/- Parts of the proof of ChunksPages,joined: RcpL,RfsP,CrnP,LogI,RoomI,ChrA,ChrB,RdR,RcpM,RfsQ,RfsA,RfsB,SumQ,RprA,RprB,RprC,RdA. No condition. -/
import Derived.Test.YtdcjhpafipbpkaaGreatDoorCq6
import Derived.Lib.Strings
import Derived.Deep.RegionHeld3
import Derived.Deep.AppendSrc
set_option linter.unusedSimpArgs false
set_option linter.unusedVariables false
set_option linter.unusedSectionVars false
namespace Go.Proofs.YtdcjhpafipbpkaaGreatDoor
set_option maxRecDepth 100000
set_option maxHeartbeats 1000000
open Go.RowKit
abbrev RCk:=ByteArray × ByteArray × Int
abbrev REn:=ByteArray × Int
def rC (C:List Ck):List RCk:=C.map fun c=>(c.id,c.text,c.cnt)
def rL (L:List Lg):List REn:=L.map fun e=>(e.id,e.by)
def fndR (C:List RCk) (id:ByteArray):Option RCk:=C.find? fun c=>decide (c.1=id)
def ixR (C:List RCk) (id:ByteArray):Int:=match C.findIdx? (fun c=>decide (c.1=id)) with
 | some i=>(i:Int)
 | none=>-1
theorem fnd_rC (C:List Ck) (id:ByteArray):fndR (rC C) id=(cAt C id).map fun c=>(c.id,c.text,c.cnt):=by
 unfold fndR rC cAt
 rw [List.find?_map]
 rfl
theorem ixR_some {C:List RCk} {id:ByteArray} {c:RCk} (h:fndR C id=some c):∃ i,∃ hi:i<C.length,C[i]=c/\ixR C id=(i:Int)/\∀ j (hj:j<i),(C[j]'(Nat.lt_trans hj hi)).1≠id:=by
 unfold fndR at h
 obtain ⟨hp,i,hi,e,hno⟩:=List.find?_eq_some_iff_getElem.1 h
 refine ⟨i,hi,e,?_,fun j hj=>by have:=hno j hj;simpa using this⟩
 have:C.findIdx? (fun c=>decide (c.1=id))=some i:=by
  rw [List.findIdx?_eq_some_iff_getElem]
  refine ⟨hi,by rw [e];exact hp,fun j hj=>by have:=hno j hj;simpa using this⟩
 unfold ixR;rw [this]
theorem ixR_none {C:List RCk} {id:ByteArray} (h:fndR C id=none):ixR C id=-1/\∀ c∈C,c.1≠id:=by
 unfold fndR at h
 rw [List.find?_eq_none] at h
 have h2:∀ c∈C,c.1≠id:=fun c hc=>by have:=h c hc;simpa using this
 refine ⟨?_,h2⟩
 have:C.findIdx? (fun c=>decide (c.1=id))=none:=by
  rw [List.findIdx?_eq_none_iff]
  intro c hc;simp [h2 c hc]
 unfold ixR;rw [this]
def hitR (C:List RCk) (p t:ByteArray) (k:Nat):Bool:=match fndR C (nameB p k) with
 | some c=>decide (c.2.1=t)
 | none=>false
def freeR (C:List RCk) (p:ByteArray) (k:Nat):Bool:=(fndR C (nameB p k)).isNone
def insR:List RCk->RCk->List RCk
 | [],c=>[c]
 | d::r,c=>if kless c.1 d.1 then c::d::r else d::insR r c
def doneR (A:List RCk) (c:RCk):Bool:=A.any fun d=>kless c.1 d.1
theorem ins_not:∀ {A:List RCk} {c:RCk},doneR A c=false->insR A c=A++[c]
 | [],c,_=>rfl
 | d::r,c,h=>by
   simp only [doneR,List.any_cons,Bool.or_eq_false_iff] at h
   simp only [insR,h.1]
   rw [ins_not (A:=r) h.2];simp
theorem ins_first:∀ {A:List RCk} {c d:RCk} {B:List RCk},doneR A c=false->kless c.1 d.1=true->insR (A++d::B) c=A++c::d::B
 | [],c,d,B,_,h=>by simp [insR,h]
 | a::r,c,d,B,h,hd=>by
   simp only [doneR,List.any_cons,Bool.or_eq_false_iff] at h
   simp only [List.cons_append,insR,h.1]
   rw [ins_first (A:=r) h.2 hd];simp
theorem ins_done:∀ {A:List RCk} {c d:RCk},doneR A c=true->insR (A++[d]) c=insR A c++[d]
 | [],c,d,h=>by simp [doneR] at h
 | a::r,c,d,h=>by
   simp only [List.cons_append,insR]
   by_cases ha:kless c.1 a.1=true
   ·simp [ha]
   ·simp only [ha]
    have:doneR r c=true:=by
     simp only [doneR,List.any_cons,Bool.or_eq_true] at h
     exact h.resolve_left ha
    rw [ins_done (A:=r) this];simp
theorem done_snoc (A:List RCk) (c d:RCk):doneR (A++[d]) c=(doneR A c || kless c.1 d.1):=by
 simp [doneR]
theorem ins_mid:∀ {A B:List RCk} {c:RCk},(∀ a∈A,kless c.1 a.1=false)->(∀ b∈B,kless c.1 b.1=true)->insR (A++B) c=A++c::B
 | A,[],c,hA,_=>by
   rw [List.append_nil]
   exact ins_not (by unfold doneR;rw [List.any_eq_false];intro x hx;simp [hA x hx])
 | A,b::B,c,hA,hB=>ins_first (by unfold doneR;rw [List.any_eq_false];intro x hx;simp [hA x hx]) (hB b (by simp))
theorem ins_len:∀ (C:List RCk) (c:RCk),(insR C c).length=C.length+1
 | [],c=>rfl
 | a::r,c=>by
   simp only [insR]
   split
   ·simp
   ·simp [ins_len r c]
def putR (C:List RCk) (t:ByteArray):List RCk × ByteArray × Bool × Int :=
 if t.size<1\/128<t.size then (C,⟨#[]⟩,false,1) else
 match (List.range 256).find? (hitR C (prB t) t) with
 | some k=>(C,nameB (prB t) k,false,0)
 | none=>match (List.range 256).find? (freeR C (prB t)) with
   | some k=>(insR C (nameB (prB t) k,t,0),nameB (prB t) k,true,0)
   | none=>(C,⟨#[]⟩,false,4)
theorem range_first {f:Nat->Bool} {k n:Nat} (hk:k<n) (h:f k=true) (hno:∀ j,j<k->f j=false):(List.range n).find? f=some k:=by
 rw [List.find?_range_eq_some]
 exact ⟨h,List.mem_range.2 hk,fun j hj=>by simp [hno j hj]⟩
theorem range_none {f:Nat->Bool} {n:Nat} (hno:∀ j,j<n->f j=false):(List.range n).find? f=none:=by
 rw [List.find?_range_eq_none]
 exact fun j hj=>by simp [hno j hj]
theorem hit_rC {C:List Ck} {p t:ByteArray} {k:Nat}:hitR (rC C) p t k=true ↔ ∃ c,cAt C (nameB p k)=some c/\c.text=t:=by
 unfold hitR
 rw [fnd_rC]
 cases cAt C (nameB p k) with
 | none=>simp
 | some c=>simp
theorem nohit_rC {C:List Ck} {p t:ByteArray} {i:Nat} (h:NoHit C p t i):∀ j,j<i->hitR (rC C) p t j=false:=fun j hj=>by
 cases hq:hitR (rC C) p t j with
 | false=>rfl
 | true =>
   obtain ⟨c,h1,h2⟩:=hit_rC.1 hq
   exact absurd h2 (h j hj c h1)
theorem putR_hit {C:List Ck} {t:ByteArray} {k:Nat} {c:Ck} (h1:1<=t.size) (h2:t.size<=128) (hk:k<256) (hc:cAt C (nameB (prB t) k)=some c) (ht:c.text=t) (hn:NoHit C (prB t) t k):putR (rC C) t=(rC C,nameB (prB t) k,false,0):=by
 unfold putR
 rw [if_neg (by omega),range_first hk (hit_rC.2 ⟨c,hc,ht⟩) (nohit_rC hn)]
theorem ins_rC {C C':List Ck} {c:Ck} (h:PutC c C C') (hn:cAt C c.id=none):insR (rC C) (c.id,c.text,c.cnt)=rC C':=by
 obtain ⟨A,B,rfl,h',hA,hB⟩:=h
 rcases h' with rfl|⟨c0,e,rfl⟩
 ·unfold rC
  rw [List.map_append,List.map_append,List.map_cons]
  refine ins_mid (fun a ha=>?_) (fun b hb=>?_)
  ·obtain ⟨x,hx,rfl⟩:=List.mem_map.1 ha
   exact kless_asymm (hA x hx)
  ·obtain ⟨x,hx,rfl⟩:=List.mem_map.1 hb
   exact hB x hx
 ·exact absurd e (cAt_none hn c0 (by simp))
theorem putR_new {C C':List Ck} {t:ByteArray} {k page:Nat} (h1:1<=t.size) (h2:t.size<=128) (hk:k<256) (hc:cAt C (nameB (prB t) k)=none) (hf:∀ j,j<k->cAt C (nameB (prB t) j)≠none) (hn:NoHit C (prB t) t 256) (hp:PutC ⟨nameB (prB t) k,page,0,t⟩ C C'):putR (rC C) t=(rC C',nameB (prB t) k,true,0):=by
 have hfr:∀ j,freeR (rC C) (prB t) j=(cAt C (nameB (prB t) j)).isNone:=fun j=>by
  unfold freeR;rw [fnd_rC,Option.isNone_map]
 unfold putR
 rw [if_neg (by omega),range_none (nohit_rC hn),range_first hk (by rw [hfr,hc];rfl) fun j hj=>by
  rw [hfr]
  cases hq:cAt C (nameB (prB t) j) with
  | none=>exact absurd hq (hf j hj)
  | some c=>rfl]
 have:=ins_rC hp hc
 simp only at this
 simp only [this]
theorem rL_snoc (L:List Lg) (e:Lg):rL (L++[e])=rL L++[(e.id,e.by)]:=by simp [rL]
def incR:List RCk->ByteArray->Int->List RCk
 | [],_,_=>[]
 | c::r,id,d=>if c.1=id then (c.1,c.2.1,c.2.2+d)::r else c::incR r id d
theorem incR_len (C:List RCk) (id:ByteArray) (d:Int):(incR C id d).length=C.length:=by
 induction C with
 | nil=>rfl
 | cons c r ih=>simp only [incR];split <;> simp [ih]
theorem incR_names (C:List RCk) (id:ByteArray) (d:Int):(incR C id d).map Prod.fst=C.map Prod.fst:=by
 induction C with
 | nil=>rfl
 | cons c r ih=>simp only [incR];split <;> simp [ih]
theorem ixR_names {C D:List RCk} (h:C.map Prod.fst=D.map Prod.fst) (id:ByteArray):ixR C id=ixR D id:=by
 have:∀ (C:List RCk),C.findIdx? (fun c=>decide (c.1=id))=(C.map Prod.fst).findIdx? (fun c=>decide (c=id)):=fun C=>by
  rw [List.findIdx?_map];rfl
 unfold ixR
 rw [this,this,h]
theorem incR_no {C:List RCk} {id:ByteArray} {d:Int} (h:∀ c∈C,c.1≠id):incR C id d=C:=by
 induction C with
 | nil=>rfl
 | cons c r ih =>
   simp only [incR,if_neg (h c (by simp))]
   rw [ih fun x hx=>h x (by simp [hx])]
theorem incR_mid {A B:List RCk} {c:RCk} {d:Int} (h:∀ a∈A,a.1≠c.1):incR (A++c::B) c.1 d=A++(c.1,c.2.1,c.2.2+d)::B:=by
 induction A with
 | nil=>simp [incR]
 | cons a r ih =>
   simp only [List.cons_append,incR,if_neg (h a (by simp))]
   rw [ih fun x hx=>h x (by simp [hx])]
theorem incR_set {C:List RCk} {i:Nat} {id:ByteArray} {d:Int} (hi:i<C.length) (hid:C[i].1=id) (hno:∀ j (hj:j<i),(C[j]'(Nat.lt_trans hj hi)).1≠id):incR C id d=C.set i (C[i].1,C[i].2.1,C[i].2.2+d):=by
 have e:C=C.take i++C[i]::C.drop (i+1):=by rw [<-List.drop_eq_getElem_cons hi,List.take_append_drop]
 have h1:∀ a∈C.take i,a.1≠C[i].1:=fun a ha=>by
  obtain ⟨j,hj,rfl⟩:=List.mem_iff_getElem.1 ha
  rw [List.length_take] at hj
  rw [List.getElem_take,hid]
  exact hno j (by omega)
 have h2:=incR_mid (B:=C.drop (i+1)) (d:=d) h1
 rw [<-e,hid] at h2
 rw [h2,List.set_eq_take_append_cons_drop,if_pos hi,hid]
def mergeR (C:List RCk) (L:List REn):List RCk:=L.foldl (fun D e=>incR D e.1 e.2) C
theorem mergeR_snoc (C:List RCk) (L:List REn) (e:REn):mergeR C (L++[e])=incR (mergeR C L) e.1 e.2:=by
 unfold mergeR;rw [List.foldl_append];rfl
theorem mergeR_names (C:List RCk) (L:List REn):(mergeR C L).map Prod.fst=C.map Prod.fst:=by
 have:∀ (L:List REn) (C:List RCk),(mergeR C L).map Prod.fst=C.map Prod.fst:=by
  intro L
  induction L with
  | nil=>intro C;rfl
  | cons e L ih=>intro C;exact (ih (incR C e.1 e.2)).trans (incR_names C e.1 e.2)
 exact this L C
theorem mergeR_len (C:List RCk) (L:List REn):(mergeR C L).length=C.length:=by
 have:=congrArg List.length (mergeR_names C L)
 simpa using this
theorem putC_at {C C':List Ck} {c:Ck} {id:ByteArray} {d:Int} (h:cAt C id=some c) (hp:PutC (c.add d) C C'):∃ A B,C=A++c::B/\C'=A++c.add d::B/\∀ a∈A,a.id≠c.id:=by
 obtain ⟨hm,hid⟩:=cAt_some h
 obtain ⟨A,B,rfl,h',hA,hB⟩:=hp
 have nA:c ∉ A:=fun hc=>by
  have h1:=hA c hc
  have h2:kless c.id c.id=true:=h1
  rw [kless_irrefl] at h2;cases h2
 have nB:c ∉ B:=fun hc=>by
  have h1:=hB c hc
  have h2:kless c.id c.id=true:=h1
  rw [kless_irrefl] at h2;cases h2
 have hne:∀ a∈A,a.id≠c.id:=fun a ha=>kless_ne (hA a ha)
 rcases h' with rfl|⟨c0,-,rfl⟩
 ·rcases List.mem_append.1 hm with hc|hc
  ·exact absurd hc nA
  ·exact absurd hc nB
 ·rcases List.mem_append.1 hm with hc|hc
  ·exact absurd hc nA
  ·rcases List.mem_cons.1 hc with rfl|hc
   ·exact ⟨A,B,rfl,rfl,hne⟩
   ·exact absurd hc nB
theorem incR_rC {C C':List Ck} {c:Ck} {id:ByteArray} {d:Int} (h:cAt C id=some c) (hp:PutC (c.add d) C C'):rC C'=incR (rC C) id d/\cpg C'=cpg C:=by
 obtain ⟨A,B,rfl,rfl,hn⟩:=putC_at h hp
 have hid:=(cAt_some h).2
 refine ⟨?_,by simp [cpg,Ck.add]⟩
 have:=incR_mid (A:=rC A) (B:=rC B) (c:=(c.id,c.text,c.cnt)) (d:=d) fun a ha=>by
  obtain ⟨x,hx,rfl⟩:=List.mem_map.1 ha
  exact hn x hx
 rw [show (c.id,c.text,c.cnt).1=id from hid] at this
 simp only [rC,List.map_append,List.map_cons] at this ⊢
 rw [this]
 simp [Ck.add,hid]
theorem Mg.ref {C C':List Ck} {T:List Lg} (h:Mg C T C'):rC C'=mergeR (rC C) (rL T)/\cpg C'=cpg C:=by
 induction h with
 | nil=>exact ⟨rfl,rfl⟩
 | @snoc T C1 C2 e h1 h2 ih =>
   rw [rL_snoc,mergeR_snoc,<-ih.1,<-ih.2]
   rcases h2 with ⟨hn,rfl⟩|⟨c,hc,hp⟩
   ·refine ⟨(incR_no fun a ha=>?_).symm,rfl⟩
    obtain ⟨x,hx,rfl⟩:=List.mem_map.1 ha
    exact cAt_none hn x hx
   ·exact incR_rC hc hp
def pendR:List REn->ByteArray->Int × Nat
 | [],_=>(0,0)
 | e::r,id=>if e.1=id then ((pendR r id).1+e.2,(pendR r id).2+1) else pendR r id
theorem pendR_snoc (L:List REn) (e:REn) (id:ByteArray):pendR (L++[e]) id=if e.1=id then ((pendR L id).1+e.2,(pendR L id).2+1) else pendR L id:=by
 induction L with
 | nil=>simp [pendR]
 | cons x L ih =>
   simp only [List.cons_append,pendR,ih]
   by_cases h1:x.1=id <;> by_cases h2:e.1=id
   ·simp only [h1,h2,if_true];refine Prod.ext ?_ rfl;simp only;omega
   ·simp only [h1,h2,if_true,if_false]
   ·simp only [h1,h2,if_true,if_false]
   ·simp only [h1,h2,if_false]
theorem pendR_len (L:List REn) (id:ByteArray):(pendR L id).2<=L.length:=by
 induction L with
 | nil=>exact Nat.le_refl _
 | cons x L ih =>
   simp only [pendR,List.length_cons]
   split
   ·show (pendR L id).2+1<=_;omega
   ·omega
theorem pendR_abs {L:List REn} (id:ByteArray) (h:∀ e∈L,-1<=e.2/\e.2<=1):-(L.length:Int)<=(pendR L id).1/\(pendR L id).1<=L.length:=by
 induction L with
 | nil=>simp [pendR]
 | cons x L ih =>
   have h1:=h x (by simp)
   have h2:=ih fun e he=>h e (by simp [he])
   simp only [pendR,List.length_cons]
   split
   ·show _<=(pendR L id).1+x.2/\(pendR L id).1+x.2<=_;omega
   ·omega
def busyL (L:List Lg) (id:ByteArray):Bool:=L.any fun e=>decide (e.id=id)
theorem pendR_rL (L:List Lg) (id:ByteArray):(pendR (rL L) id).1=pend L id/\((pendR (rL L) id).2=0 ↔ busyL L id=false):=by
 induction L with
 | nil=>exact ⟨rfl,by simp [rL,pendR,busyL]⟩
 | cons e L ih =>
   have e1:rL (e::L)=(e.id,e.by)::rL L:=rfl
   rw [e1]
   simp only [pendR,pend,busyL,List.any_cons]
   by_cases h:e.id=id
   ·simp only [h,if_true];exact ⟨by rw [ih.1];omega,by simp⟩
   ·simp only [h,if_false]
    refine ⟨by rw [ih.1];omega,?_⟩
    rw [ih.2];simp [busyL]
def reclR (L:List REn) (lim:Int):Nat->List RCk->List RCk × Nat
 | n,[]=>([],n)
 | n,c::r=>if (n:Int)<lim/\c.2.2<=0/\(pendR L c.1).2=0 then reclR L lim (n+1) r else (c::(reclR L lim n r).1,(reclR L lim n r).2)
def reclK (L:List Lg) (lim:Int):Nat->List Ck->List Ck × Nat
 | n,[]=>([],n)
 | n,c::r=>if (n:Int)<lim/\c.cnt<=0/\busyL L c.id=false then reclK L lim (n+1) r else (c::(reclK L lim n r).1,(reclK L lim n r).2)
theorem reclR_y {L:List REn} {lim:Int} {n:Nat} {a:RCk} {P:List RCk} (h:(n:Int)<lim/\a.2.2<=0/\(pendR L a.1).2=0):reclR L lim n (a::P)=reclR L lim (n+1) P:=by
 show (if _ then _ else _)=_
 exact if_pos h
theorem reclR_n {L:List REn} {lim:Int} {n:Nat} {a:RCk} {P:List RCk} (h:¬((n:Int)<lim/\a.2.2<=0/\(pendR L a.1).2=0)):reclR L lim n (a::P)=(a::(reclR L lim n P).1,(reclR L lim n P).2):=by
 show (if _ then _ else _)=_
 exact if_neg h
theorem reclK_y {L:List Lg} {lim:Int} {n:Nat} {a:Ck} {P:List Ck} (h:(n:Int)<lim/\a.cnt<=0/\busyL L a.id=false):reclK L lim n (a::P)=reclK L lim (n+1) P:=by
 show (if _ then _ else _)=_
 exact if_pos h
theorem reclK_n {L:List Lg} {lim:Int} {n:Nat} {a:Ck} {P:List Ck} (h:¬((n:Int)<lim/\a.cnt<=0/\busyL L a.id=false)):reclK L lim n (a::P)=(a::(reclK L lim n P).1,(reclK L lim n P).2):=by
 show (if _ then _ else _)=_
 exact if_neg h
theorem recl_rC (L:List Lg) (lim:Int):∀ (C:List Ck) (n:Nat),reclR (rL L) lim n (rC C)=(rC (reclK L lim n C).1,(reclK L lim n C).2)
 | [],n=>rfl
 | c::C,n=>by
   have e1:rC (c::C)=(c.id,c.text,c.cnt)::rC C:=rfl
   rw [e1]
   have hp:=(pendR_rL L c.id).2
   by_cases h:(n:Int)<lim/\c.cnt<=0/\busyL L c.id=false
   ·rw [reclK_y h,reclR_y ⟨h.1,h.2.1,hp.2 h.2.2⟩,recl_rC L lim C (n+1)]
   ·rw [reclK_n h,reclR_n (fun g=>h ⟨g.1,g.2.1,hp.1 g.2.2⟩),recl_rC L lim C n]
    rfl
def rstep (L:List REn) (lim:Int) (c:RCk) (q:List RCk × Nat):List RCk × Nat:=if (q.2:Int)<lim/\c.2.2<=0/\(pendR L c.1).2=0 then (q.1,q.2+1) else (q.1++[c],q.2)
def kstep (L:List Lg) (lim:Int) (c:Ck) (q:List Ck × Nat):List Ck × Nat:=if (q.2:Int)<lim/\c.cnt<=0/\busyL L c.id=false then (q.1,q.2+1) else (q.1++[c],q.2)
theorem rstep_cons (L:List REn) (lim:Int) (c a:RCk) (q:List RCk × Nat):rstep L lim c (a::q.1,q.2)=(a::(rstep L lim c q).1,(rstep L lim c q).2):=by
 unfold rstep
 split <;> rfl
theorem kstep_cons (L:List Lg) (lim:Int) (c a:Ck) (q:List Ck × Nat):kstep L lim c (a::q.1,q.2)=(a::(kstep L lim c q).1,(kstep L lim c q).2):=by
 unfold kstep
 split <;> rfl
theorem reclR_snoc (L:List REn) (lim:Int) (c:RCk):∀ (P:List RCk) (n:Nat),reclR L lim n (P++[c])=rstep L lim c (reclR L lim n P)
 | [],n=>rfl
 | a::P,n=>by
   rw [List.cons_append]
   by_cases h:(n:Int)<lim/\a.2.2<=0/\(pendR L a.1).2=0
   ·rw [reclR_y h,reclR_y h,reclR_snoc L lim c P (n+1)]
   ·rw [reclR_n h,reclR_n h,reclR_snoc L lim c P n,rstep_cons]
theorem reclK_snoc (L:List Lg) (lim:Int) (c:Ck):∀ (P:List Ck) (n:Nat),reclK L lim n (P++[c])=kstep L lim c (reclK L lim n P)
 | [],n=>rfl
 | a::P,n=>by
   rw [List.cons_append]
   by_cases h:(n:Int)<lim/\a.cnt<=0/\busyL L a.id=false
   ·rw [reclK_y h,reclK_y h,reclK_snoc L lim c P (n+1)]
   ·rw [reclK_n h,reclK_n h,reclK_snoc L lim c P n,kstep_cons]
theorem reclK_full (L:List Lg) (lim:Int):∀ (C:List Ck) (n:Nat),lim<=n->reclK L lim n C=(C,n)
 | [],n,_=>rfl
 | c::C,n,h=>by
   rw [reclK_n (by omega),reclK_full L lim C n h]
theorem reclK_app (L:List Lg) (lim:Int) (Q:List Ck):∀ (P:List Ck) (n:Nat),reclK L lim n (P++Q)=((reclK L lim n P).1++(reclK L lim (reclK L lim n P).2 Q).1,(reclK L lim (reclK L lim n P).2 Q).2)
 | [],n=>rfl
 | a::P,n=>by
   rw [List.cons_append]
   by_cases h:(n:Int)<lim/\a.cnt<=0/\busyL L a.id=false
   ·rw [reclK_y h,reclK_y h]
    exact reclK_app L lim Q P (n+1)
   ·rw [reclK_n h,reclK_n h,reclK_app L lim Q P n];rfl
theorem reclK_len (L:List Lg) (lim:Int):∀ (C:List Ck) (n:Nat),(reclK L lim n C).1.length+(reclK L lim n C).2=C.length+n
 | [],n=>rfl
 | c::C,n=>by
   by_cases h:(n:Int)<lim/\c.cnt<=0/\busyL L c.id=false
   ·rw [reclK_y h,reclK_len L lim C (n+1),List.length_cons];omega
   ·have:=reclK_len L lim C n
    rw [reclK_n h]
    simp only [List.length_cons];omega
theorem reclR_len (L:List REn) (lim:Int):∀ (C:List RCk) (n:Nat),(reclR L lim n C).1.length+(reclR L lim n C).2=C.length+n
 | [],n=>rfl
 | c::C,n=>by
   by_cases h:(n:Int)<lim/\c.2.2<=0/\(pendR L c.1).2=0
   ·rw [reclR_y h,reclR_len L lim C (n+1),List.length_cons];omega
   ·have:=reclR_len L lim C n
    rw [reclR_n h]
    simp only [List.length_cons];omega
theorem reclK_mem (L:List Lg) (lim:Int):∀ (C:List Ck) (n:Nat) (d:Ck),d∈(reclK L lim n C).1->d∈C
 | [],n,d,h=>by cases h
 | c::C,n,d,h=>by
   by_cases hc:(n:Int)<lim/\c.cnt<=0/\busyL L c.id=false
   ·rw [reclK_y hc] at h
    exact List.mem_cons_of_mem _ (reclK_mem L lim C (n+1) d h)
   ·rw [reclK_n hc] at h
    rcases List.mem_cons.1 h with rfl|h
    ·simp
    ·exact List.mem_cons_of_mem _ (reclK_mem L lim C n d h)
theorem filt_mid {K R:List Ck} {c:Ck} (h:CSrt (K++c::R)):(K++c::R).filter (fun x=>decide (x.id≠c.id))=K++R:=by
 obtain ⟨-,h2,h3⟩:=List.pairwise_append.1 h
 obtain ⟨h4,-⟩:=List.pairwise_cons.1 h2
 rw [List.filter_append,List.filter_cons,if_neg (by simp),List.filter_eq_self.2 fun x hx=>?_,List.filter_eq_self.2 fun x hx=>?_]
 ·simp only [decide_eq_true_eq];exact fun e=>kless_ne (h4 x hx) e.symm
 ·simp only [decide_eq_true_eq];exact kless_ne (h3 x hx c (by simp))
theorem DelC.mid {K R C':List Ck} {c:Ck} (hs:CSrt (K++c::R)) (h:DelC c.id (K++c::R) C'):C'=K++R:=by
 obtain ⟨A,B,d,hd,he,rfl⟩:=h
 have h1:=filt_mid hs
 rw [he] at hs h1
 rw [<-hd,filt_mid hs] at h1
 exact h1
theorem cpg_mid (K R:List Ck) (c:Ck):(cpg (K++c::R)).Perm ((c.page,c.text)::cpg (K++R)):=by
 simp only [cpg,List.map_append,List.map_cons]
 exact List.perm_middle
theorem cpg_new {c:Ck} {C C':List Ck} (hn:cAt C c.id=none) (h:PutC c C C'):((c.page,c.text)::cpg C).Perm (cpg C'):=by
 obtain ⟨A,B,rfl,h',-,-⟩:=h
 rcases h' with rfl|⟨c0,e,rfl⟩
 ·exact (cpg_mid A B c).symm
 ·exact absurd e (cAt_none hn c0 (by simp))
set_option maxHeartbeats 2000000
theorem row_short {w:World} {b:Nat} {e:TypeId} {size g k cap:Nat} {xs ys:List Value} (h:w.ownsRow b e size (.slice (some ⟨g,0,none⟩) (k+1) cap) (k+1) (xs++ys)) (hl:xs.length=k*size):w.ownsRow b e size (.slice (some ⟨g,0,none⟩) k cap) k xs:=by
 refine ⟨hl,.inr ?_⟩
 rcases h.2 with ⟨e,h0⟩|⟨g',cap',cur,e,h1,h2,h3,h4,h5,h6⟩
 ·cases h0
 ·cases e
  refine ⟨_,_,cur,rfl,h1,h2,by omega,h4,h5,?_⟩
  have:=congrArg (List.take (k*size)) h6
  rw [List.take_take,List.take_append_of_le_length (by omega),Nat.min_eq_left (by rw [Nat.add_mul];omega)] at this
  rw [this,<-hl,List.take_length]
theorem wrs_snoc (l:List (Int × ByteArray)) (p:Int × ByteArray):wrs (l++[p])=wrs l++[.int .i64 p.1,.string p.2]:=by simp [wrs]
theorem wrs_len (l:List (Int × ByteArray)):(wrs l).length=l.length*2:=by
 induction l with
 | nil=>rfl
 | cons p l ih=>rw [show p::l=[p]++l from rfl];simp [wrs] at ih ⊢;omega
def backM (m:List (Int × Value)) (l:List (Int × ByteArray)) (i:Int) (v:Value):List (Int × Value):=if idxs l 0 i=[] then del m i else put m i v
theorem back_step {w W:World} {F:Nat->Prop} {tb lb mw g cap:Nat} {l:List (Int × ByteArray)} {p:Int × ByteArray} {m:List (Int × Value)} {v:Value} (h:IsTxc w F tb lb (l++[p]) (.slice (some ⟨g,0,none⟩) (l.length+1) cap) mw m)
 (hv:idxs l 0 p.1≠[]->v.ownBlock=(rowOf m p.1).ownBlock/\w.ownsRow 0 3 1 v (idxs l 0 p.1).length (ints (idxs l 0 p.1)))
 (hm:MapIs kInt id W mw (backM m l p.1 v)) (hu:Upd (·=mw) w W) :
 ∃ F',IsTxc (W.setCell ⟨tb,1,none⟩ (.slice (some ⟨g,0,none⟩) l.length cap)) F' tb lb l (.slice (some ⟨g,0,none⟩) l.length cap) mw (backM m l p.1 v)/\Upd F w (W.setCell ⟨tb,1,none⟩ (.slice (some ⟨g,0,none⟩) l.length cap))/\∀ k,F' k->F k:=by
 have nmt:mw≠tb:=h.map.ne_cells h.cells
 have npm:g≠mw:=fun e=>by
  obtain ⟨cur,hc⟩:=ownsRow_cells h.row (k:=g) rfl
  exact h.map.ne_cells (e ▸ hc) rfl
 have npt:g≠tb:=fun e=>by
  obtain ⟨cur,hc⟩:=ownsRow_cells h.row (k:=g) rfl
  rw [e,h.cells] at hc;simp at hc
 have hc1:W.heap[tb]?=some (.cells #[.pointer (some ⟨lb,0,none⟩),.slice (some ⟨g,0,none⟩) (l.length+1) cap,.map (some mw)] 120 (0,0)):=hu.at h.cells fun e=>nmt e.symm
 have hU:Upd (fun k=>k=mw\/k=tb) w (W.setCell ⟨tb,1,none⟩ (.slice (some ⟨g,0,none⟩) l.length cap)):=(hu.mono fun _ _ e=>.inl e).trans ((upd_setCell _ _ _ _).mono fun _ _ e=>.inr e)
 have hlk:∀ j u,look (backM m l p.1 v) j=some u->(j≠p.1/\look m j=some u)\/(j=p.1/\idxs l 0 p.1≠[]/\u=v):=by
  intro j u hj
  unfold backM at hj
  split at hj
  ·rw [look_del] at hj
   by_cases e:p.1=j
   ·rw [if_pos e] at hj;cases hj
   ·rw [if_neg e] at hj;exact .inl ⟨fun e'=>e e'.symm,hj⟩
  ·rename_i hne
   rw [look_put] at hj
   by_cases e:p.1=j
   ·rw [if_pos e] at hj;cases hj;exact .inr ⟨e.symm,hne,rfl⟩
   ·rw [if_neg e] at hj;exact .inl ⟨fun e'=>e e'.symm,hj⟩
 have hoth:∀ j,j≠p.1->look (backM m l p.1 v) j=look m j:=by
  intro j hj
  unfold backM
  split
  ·rw [look_del,if_neg fun e=>hj e.symm]
  ·rw [look_put,if_neg fun e=>hj e.symm]
 have hrow:∃ u,look m p.1=some u/\(rowOf m p.1)=u:=by
  rcases h.rows p.1 with ⟨a,b⟩|⟨u,a,-,-⟩
  ·rw [idxs_snoc,if_pos rfl] at b;simp at b
  ·exact ⟨u,a,by unfold rowOf;rw [a];rfl⟩
 obtain ⟨u0,hu0,hr0⟩:=hrow
 have keep:∀ {n:Nat} {xs:List Value} {x:Value} {sz:Nat} {e:TypeId},w.ownsRow 0 e sz x n xs->(∀ k,x.ownBlock=some k->k≠tb)->(W.setCell ⟨tb,1,none⟩ (.slice (some ⟨g,0,none⟩) l.length cap)).ownsRow 0 e sz x n xs:=fun hx hk=>ownsRow_upd hx hU fun k e=>by
  rintro (rfl|rfl)
  ·obtain ⟨cur,hc⟩:=ownsRow_cells hx e
   exact h.map.ne_cells hc rfl
  ·exact hk _ e rfl
 have rowt:∀ i u,look m i=some u->∀ k,u.ownBlock=some k->k≠tb:=fun i u hi k hk e=>by
  rcases h.rows i with ⟨a,-⟩|⟨u',a,-,c⟩
  ·rw [a] at hi;cases hi
  ·rw [a] at hi;cases hi
   obtain ⟨cur,hc⟩:=ownsRow_cells c hk
   rw [e,h.cells] at hc;simp at hc
 refine ⟨fun k=>k=tb\/k=mw\/(Value.slice (some ⟨g,0,none⟩) l.length cap).ownBlock=some k\/∃ i u,look (backM m l p.1 v) i=some u/\u.ownBlock=some k,⟨heap_set_lit hc1 _,?_,hm.upd (upd_setCell _ _ _ _) nmt,fun j=>?_,fun i j a b hij hi hj=>?_,fun k=>Iff.rfl⟩,hU.mono fun k _ e=>?_,fun k hk=>?_⟩
 ·refine keep (row_short (ys:=[.int .i64 p.1,.string p.2]) ?_ (wrs_len l)) (fun k e=>by
   have:g=k:=by simpa [Value.ownBlock] using e
   rw [<-this];exact npt)
  rw [<-wrs_snoc]
  have:=h.row
  rwa [List.length_append] at this
 ·by_cases e:j=p.1
  ·subst e
   by_cases hn:idxs l 0 p.1=[]
   ·exact .inl ⟨by unfold backM;rw [if_pos hn,look_del,if_pos rfl],hn⟩
   ·obtain ⟨h1,h2⟩:=hv hn
    exact .inr ⟨v,by unfold backM;rw [if_neg hn,look_put,if_pos rfl],hn,keep h2 fun k hk=>rowt p.1 u0 hu0 k (by rw [<-hr0,<-h1];exact hk)⟩
  ·rw [hoth j e]
   have e2:idxs (l++[p]) 0 j=idxs l 0 j:=by rw [idxs_snoc,if_neg fun e'=>e e'.symm]
   rcases h.rows j with ⟨a,b⟩|⟨u,a,b,c⟩
   ·rw [e2] at b;exact .inl ⟨a,b⟩
   ·rw [e2] at b c;exact .inr ⟨u,a,b,keep c (rowt j u a)⟩
 ·have big:∀ i a,look (backM m l p.1 v) i=some a->∃ a',look m i=some a'/\a.ownBlock=a'.ownBlock:=fun i a hi=>by
   rcases hlk i a hi with ⟨-,x⟩|⟨x,y,z⟩
   ·exact ⟨a,x,rfl⟩
   ·exact ⟨u0,by rw [x];exact hu0,by rw [z,(hv y).1,hr0]⟩
  obtain ⟨a',x1,x2⟩:=big i a hi
  obtain ⟨b',y1,y2⟩:=big j b hj
  rw [x2,y2]
  exact h.apart i j a' b' hij x1 y1
 ·rcases e with rfl|rfl
  ·exact (h.own _).2 (.inr (.inl rfl))
  ·exact (h.own _).2 (.inl rfl)
 ·rcases hk with rfl|rfl|e|⟨i,u,h1,h2⟩
  ·exact (h.own _).2 (.inl rfl)
  ·exact (h.own _).2 (.inr (.inl rfl))
  ·exact (h.own _).2 (.inr (.inr (.inl e)))
  ·rcases hlk i u h1 with ⟨-,x⟩|⟨x,y,z⟩
   ·exact (h.own _).2 (.inr (.inr (.inr ⟨i,u,x,h2⟩)))
   ·exact (h.own _).2 (.inr (.inr (.inr ⟨p.1,u0,hu0,by rw [<-hr0,<-(hv y).1,<-z];exact h2⟩)))
def BkRel (w:World) (F:Nat->Prop) (tb lb:Nat) (base:List (Int × ByteArray)) (g:Nat) (wr:World):Prop:=∃ tl F2,g=tl.length/\IsTx wr F2 tb lb (base++tl)/\Upd F w wr/\∀ k,F2 k->F k
theorem snoc_cases {α:Type} (l:List α):l=[]\/∃ l' a,l=l'++[a]:=by
 rcases List.eq_nil_or_concat l with h|⟨l',a,h⟩
 ·exact .inl h
 ·exact .inr ⟨l',a,by simpa using h⟩
theorem BkRel.step {w wr W:World} {F F2:Nat->Prop} {tb lb mw g cap L:Nat} {base tl:List (Int × ByteArray)} {p:Int × ByteArray} {m:List (Int × Value)} {v:Value} (hL:(base++tl).length=L) (h:IsTxc wr F2 tb lb ((base++tl)++[p]) (.slice (some ⟨g,0,none⟩) (L+1) cap) mw m)
 (hu:Upd F w wr) (hs:∀ k,F2 k->F k) (hv:idxs (base++tl) 0 p.1≠[]->v.ownBlock=(rowOf m p.1).ownBlock/\wr.ownsRow 0 3 1 v (idxs (base++tl) 0 p.1).length (ints (idxs (base++tl) 0 p.1)))
 (hm:MapIs kInt id W mw (backM m (base++tl) p.1 v)) (hu2:Upd (·=mw) wr W):BkRel w F tb lb base tl.length (W.setCell ⟨tb,1,none⟩ (.slice (some ⟨g,0,none⟩) L cap)):=by
 subst hL
 obtain ⟨F',a,b,c⟩:=back_step h hv hm hu2
 exact ⟨tl,F',rfl,⟨_,_,_,a⟩,hu.trans (b.mono fun k _ e=>hs k e),fun k hk=>hs k (c k hk)⟩
theorem TBack_c (tb lb n:Nat) (FL F:Nat->Prop) (base tail:List (Int × ByteArray)) (w:World) (h:Chg w FL F tb lb n (base++tail)) (hl:(base++tail).length<=4000000) :
 Calls Tryz.prog 174 #[.pointer (some ⟨tb,0,none⟩),.int .i64 (base.length:Int)] w fun e w'=>e=.returned (.tuple #[])/\Hid (∃ F',Chg w' FL F' tb lb n base/\Turn F F' w w'):=by
 have H:=Hd h
 have R0:Hid (BkRel w F tb lb base tail.length w):=Hd ⟨tail,F,rfl,h.tx,Upd.refl _ _,fun _ e=>e⟩
 have hmx:max (base.length:Int) 0=(base.length:Int):=by omega
 obtain ⟨bl,hbl⟩:=exE (base.length)
 rw [hbl] at hmx ⊢
 have HBL:=Hd hbl
 have HL:=Hd hl
 clear h hl hbl
 go_enter Tryz.func174,Tryz.ntmps174
 go_wp2_with fail
 go_loopg [4,5,6] tail.length (fun g s4 s5 s6 wr=>g<=tail.length/\Hid (BkRel w F tb lb base g wr))
 case atStart=>exact ⟨Nat.le_refl _,R0⟩
 case round =>
  obtain ⟨hg,HR⟩:=hrel
  obtain ⟨tl,F2,hgl,ht,hu,hs⟩:=HR.out
  clear R0 HR
  obtain ⟨pv,mw,m,ht⟩:=ht
  obtain ⟨-,c1,c2⟩:=ht.c
  have f1:=frozen_lit ht.cells 1
  rcases snoc_cases tl with rfl|⟨tl,p,rfl⟩
  ·obtain ⟨a,l,c,rfl⟩:=slice_form ht.row
   obtain rfl:=rlen ht.row
   have HE:Hid (∃ F',Chg _ FL F' tb lb n base/\Turn F F' w _):=Hd ⟨F2,⟨H.out.log.frame hu fun k hk e=>H.out.apart k hk e,(by have:IsTx _ F2 tb lb (base++[]):=⟨_,_,_,ht⟩;rwa [List.append_nil] at this),fun k hk e=>H.out.apart k hk (hs k e)⟩,hu,fun k hk=>.inl (hs k hk)⟩
   rw [List.append_nil,HBL.out] at c1
   clear ht hu hs
   go_wp2_with fail
   go_end0
   exact ⟨rfl,HE⟩
  ·have hap:base++(tl++[p])=(base++tl)++[p]:=by simp
   rw [hap] at ht
   obtain ⟨L,hL⟩:=exE ((base++tl).length)
   have hrow:=ht.row
   rw [List.length_append,hL,List.length_singleton] at hrow
   obtain ⟨gp,cap,rfl,-,-⟩:=hrow.form (by simp)
   have hLb:bl<=L:=by have:=HBL.out;rw [<-hL,List.length_append];omega
   have hL4:L<=4000000:=by
    have:=HL.out
    rw [List.length_append] at this
    rw [hgl,List.length_append] at hg
    rw [<-hL,List.length_append]
    simp at hg;omega
   have q1:(bl:Int)<(L:Int)+1:=by omega
   have e0:((L+1:Nat):Int)=(L:Int)+1:=by omega
   have c3:wr.cell? ⟨gp,L*2,none⟩=some (.int .i64 p.1):=by
    rw [hrow.cellAt (L*2) (by omega),wrs_snoc,List.getElem?_append_right (by rw [wrs_len,hL];exact Nat.le_refl _),wrs_len,hL,Nat.sub_self];rfl
   have HCAP:Hid (L<=cap):=Hd (by
    rcases hrow.2 with ⟨e,h0⟩|⟨g',cap',cur,e,h1,h2,h3,-⟩
    ·cases h0
    ·cases e;omega)
   have hr0:=ht.rowOf p.1
   rw [idxs_snoc,if_pos rfl,hL,List.length_append] at hr0
   obtain ⟨gr,capr,hrv,hk1,hk2⟩:=hr0.form (by simp)
   have lk:=fun W (hW:W.heap[mw]?=wr.heap[mw]?)=>run_lookup (w:=W) (ht.map.of_heap hW) Tryz.underlying117 Tryz.underlying3 (zeroInts _) p.1
   simp only [kInt,Option.map_id] at lk
   change ∀ W,W.heap[mw]?=wr.heap[mw]?->(Instr.lookup 117 (.map (some mw)) (.int .i64 p.1) false).run Tryz.prog W=.ok (rowOf m p.1) W at lk
   rw [hrv] at lk hr0
   have lk1:=lk wr rfl
   have HT:=Hd ht
   have HU:=Hd hu
   have HS:=Hd hs
   have HLL:=Hd hL
   have HG:Hid (tl.length<gk/\tl.length<=tail.length):=Hd (by rw [hgl] at hg ⊢;simp at hg ⊢;omega)
   have HR0:=Hd hr0
   have HRV:=Hd hrv
   rw [e0] at *
   clear hap hrow hr0 hrv hk1 hk2 lk ht hu hs hL hgl hg
   cases hix:idxs (base++tl) 0 p.1 with
   | nil =>
     rw [hix] at lk1
     simp only [List.length_nil,List.length_singleton,Nat.zero_add] at lk1
     obtain ⟨W,hrun,hm2,hu2⟩:=run_delete (w:=wr) (ty:=0) HT.out.map Tryz.underlying117 Tryz.underlying3 p.1
     simp only [kInt] at hrun
     have hcW:=hu2.at HT.out.cells fun e=>HT.out.map.ne_cells HT.out.cells e.symm
     have d1:W.cell? ⟨tb,1,none⟩=some (.slice (some ⟨gp,0,none⟩) (L+1) cap):=cell_lit hcW rfl
     have d2:=frozen_lit hcW 1
     have HST:=Hd (BkRel.step (v:=.slice none 0 0) HLL.out HT.out HU.out HS.out (fun e=>absurd hix e) (by unfold backM;rw [if_pos hix];exact hm2) hu2)
     clear hm2 hu2 hcW hix e0
     go_wp2_with fail
     all_goals first
      | (exact absurd HCAP.out (by assumption))
      | (go_roundg tl.length)
     case measure=>exact HG.out.1
     case rel=>exact ⟨HG.out.2,HST⟩
   | cons x r =>
     rw [hix] at lk1 HR0 HRV
     simp only [List.length_cons,List.length_singleton,List.length_nil,Nat.zero_add] at lk1 HR0 HRV
     obtain ⟨R,hR⟩:=exE (r.length)
     rw [hR] at lk1 HR0 HRV
     have hrs:=row_short (xs:=ints (x::r)) (ys:=[.int .i64 (L:Int)]) (by have:=HR0.out;simpa [ints] using this) (by simp [ints,hR])
     have hR4:R<=4000000:=by
      have:=idxs_len (base++tl) 0 p.1
      rw [hix,List.length_cons,hR,HLL.out] at this;omega
     have lkd:=fun W (hW:W.heap[mw]?=wr.heap[mw]?)=>(run_lookup (w:=W) (HT.out.map.of_heap hW) Tryz.underlying117 Tryz.underlying3 (zeroInts _) p.1)
     obtain ⟨W,hrun,hm2,hu2⟩:=run_mapUpdate (w:=wr.drew) (HT.out.map.of_heap rfl) Tryz.underlying117 Tryz.underlying3 p.1 (Value.slice (some ⟨gr,0,none⟩) (R+1) capr)
     simp only [kInt,id] at hrun
     have hu3:Upd (·=mw) wr W:=hu2.drew_left
     have hcW:=hu3.at HT.out.cells fun e=>HT.out.map.ne_cells HT.out.cells e.symm
     have d1:W.cell? ⟨tb,1,none⟩=some (.slice (some ⟨gp,0,none⟩) (L+1) cap):=cell_lit hcW rfl
     have d2:=frozen_lit hcW 1
     have d3:W.cell? ⟨tb,2,none⟩=some (.map (some mw)):=cell_lit hcW rfl
     have hcR:R+1<=capr:=by
      rcases HR0.out.2 with ⟨e,h0⟩|⟨g',cap',cur,e,h1,h2,h3,-⟩
      ·cases h0
      ·cases e;omega
     have HST:=Hd (BkRel.step (v:=Value.slice (some ⟨gr,0,none⟩) (R+1) capr) HLL.out HT.out HU.out HS.out (fun _=>⟨by rw [HRV.out];rfl,by rw [hix,List.length_cons,hR];exact hrs⟩) (by unfold backM;rw [if_neg (by rw [hix];simp)];exact hm2) hu3)
     clear hm2 hu2 hu3 hcW hix e0 lkd hrs hR HR0 HRV
     go_wp2_with fail
     have hcR':(R+1<=capr)=True:=eq_true hcR
     have hcR2:(R<capr)=True:=eq_true hcR
     have hcR3:(capr=R)=False:=eq_false (by omega)
     have hcR4:IntKind.i64.wrap ((R:Int)+1)=(R:Int)+1:=wr64 (by omega) (by omega)
     go_region_held (fun w'=>w'.cell? ⟨tb,2,none⟩=some (.map (some mw))) (go_keep) (fail)
     all_goals go_wp2_with fail
     all_goals first
      | (exact absurd HCAP.out (by assumption))
      | (exfalso;omega)
      | (go_roundg tl.length)
     case measure=>exact HG.out.1
     case rel=>exact ⟨HG.out.2,HST⟩
set_option maxHeartbeats 1000000
theorem RBack_c (G:Nat->Prop) (rb n:Nat) (base tail:List (Int × ByteArray)) (w:World) (h:Rm w G rb n (base++tail)) (hl:(base++tail).length<=4000000) :
 Calls Tryz.prog 119 #[.pointer (some ⟨rb,0,none⟩),.int .i64 (base.length:Int)] w fun e w'=>e=.returned (.tuple #[])/\Hid (∃ G',Rm w' G' rb n base/\Turn G G' w w'):=by
 obtain ⟨tb,lb,FL,F,h⟩:=h
 obtain ⟨c0,-,-⟩:=h.c
 have TM:=TBack_c tb lb n FL F base tail w h.chg hl
 have H:=Hd h
 clear h hl
 generalize (base.length:Int)=bl at *
 go_enter Tryz.func119,Tryz.ntmps119
 go_wp2_with fail
 refine TM.mono ?_
 rintro e w1 ⟨rfl,HB⟩
 have HE:Hid (∃ G',Rm w1 G' rb n base/\Turn G G' w w1):=Hd (by
  obtain ⟨F',a,b⟩:=HB.out
  obtain ⟨c,d⟩:=H.out.write a b
  exact ⟨_,⟨tb,lb,FL,F',c⟩,d⟩)
 go_wp2_with fail
 go_end0
 exact ⟨rfl,HE⟩
set_option maxHeartbeats 2000000
structure ChMk (w1 w0 w:World) (K:Nat->Prop) (sb rb ti tl n N a:Nat) (C:List Ck) (L:List Lg) (nx:Nat) (X:List (Nat × ByteArray)) (puts:List (Int × ByteArray)) (S:RS) (o0 o1:Option TT):Prop where
 go:CGo w1 w0 w K sb rb ti tl n (300*a) S
 base:S.base=puts
 rep:Rep n puts S
 len:puts.length<=300*a
 two:TwoM S n (24*(N-a)) o0 o1 a a X
 c:CRel (entsO o0) C
 g:GRel (entsO o1) L nx
 rt:S.root 2=nx
 nx:nx<=a
section
variable {w1 w0 w W w':World} {K:Nat->Prop} {sb rb ti tl n N a m nx:Nat} {C:List Ck} {L:List Lg} {X:List (Nat × ByteArray)} {puts:List (Int × ByteArray)} {S:RS} {o0 o1:Option TT}
theorem Chs.mark (h:Chs w1 w0 w K sb rb ti tl n N a C L nx X):∃ puts S o0 o1,ChMk w1 w0 w K sb rb ti tl n N a C L nx X puts S o0 o1/\Calls Tryz.prog 61 #[.pointer (some ⟨sb,0,none⟩)] w fun e w'=>e=.returned (.int .i64 (puts.length:Int))/\w=w':=by
 obtain ⟨S0,o0,o1,h1,h2,h3,h4,h5,h6⟩:=h
 obtain ⟨⟨⟨G,⟨puts,x1,x2,x3⟩,x4,x5,x6⟩,x7⟩,x8⟩:=h1
 have r3:Rep n puts ⟨S0.root,S0.used,S0.cont,puts⟩:=⟨x3.r0,x3.rb,x3.bits,x3.lim,x3.page,List.prefix_refl _⟩
 refine ⟨puts,⟨S0.root,S0.used,S0.cont,puts⟩,o0,o1,⟨⟨⟨⟨G,⟨puts,x1,x2,r3⟩,x4,x5,x6⟩,x7⟩,x8⟩,rfl,r3,x1,⟨h2.t0.keep rfl fun q hq=>⟨rfl,rfl⟩,h2.t1.keep rfl fun q hq=>⟨rfl,rfl⟩,h2.sp,h2.w0,h2.w1,h2.pg,h2.nd,h2.al⟩,h3,h4,h5,h6⟩,?_⟩
 have MK:=RMark_c G rb n puts w x2
 obtain ⟨s0,s1,s2⟩:=x7.cells
 go_enter Tryz.func61,Tryz.ntmps61
 go_wp2_with fail
 refine MK.mono ?_
 rintro e w2 ⟨rfl,rfl⟩
 go_wp2_with fail
 go_ret
 exact ⟨rfl,rfl⟩
theorem ChMk.chs (h:ChMk w1 w0 w K sb rb ti tl n N a C L nx X puts S o0 o1) (g:CGo w1 W w' K sb rb ti tl n (300*a) S):Chs w1 W w' K sb rb ti tl n N a C L nx X :=
 ⟨S,o0,o1,g,h.two,h.c,h.g,h.rt,h.nx⟩
theorem back_c (h:CGo w1 w0 W K sb rb ti tl n m S) (hm:m<=4000000) (hb:S.base=puts) (hr:Rep n puts S) (hl:puts.length<=300*a) :
 Calls Tryz.prog 77 #[.pointer (some ⟨sb,0,none⟩),.int .i64 (puts.length:Int)] W fun e w'=>e=.returned (.tuple #[])/\Hid (CGo w1 W w' K sb rb ti tl n (300*a) S):=by
 obtain ⟨h1,h2⟩:=h
 obtain ⟨⟨G,⟨puts3,x1,x2,x3⟩,x4,x5,x6⟩,x7⟩:=id h1
 have hpre:=x3.base
 rw [hb] at hpre
 obtain ⟨tail,rfl⟩:=hpre
 have BK:=RBack_c G rb n puts tail W x2 (by omega)
 have HE:Hid (∀ w',(∃ G',Rm w' G' rb n puts/\Turn G G' W w')->CGo w1 W w' K sb rb ti tl n (300*a) S):=Hd fun w' ⟨G2,c1,c2⟩=>by
  have hg:=RSt.of x4 x5 x6 (S':=S) (m':=300*a) ⟨G2,⟨puts,hl,c1,hr⟩,c2⟩
  exact h1.of hg.1 hg.2
 obtain ⟨s0,s1,s2⟩:=x7.cells
 have hk:Hid (∀ w',Turn G G w' w'->True):=Hd fun _ _=>trivial
 generalize (puts.length:Int)=pl at *
 clear h1 h2 x1 x2 x3 x4 x5 x6 x7 hb hr hl hm hk
 go_enter Tryz.func77,Tryz.ntmps77
 go_wp2_with fail
 refine BK.mono ?_
 rintro e w1 ⟨rfl,HB⟩
 have HF:=Hd (HE.out _ HB.out)
 go_wp2_with fail
 go_end0
 exact ⟨rfl,HF⟩
theorem undo_back (eb:Nat) (er k:Int) (u:FrameMode) (w:World) {Q:World->Prop} (he:w.cell? ⟨eb,0,none⟩=some (.int .i64 er)) (h0:er≠0)
 (BK:Calls Tryz.prog 77 #[.pointer (some ⟨sb,0,none⟩),.int .i64 k] w fun e w'=>e=.returned (.tuple #[])/\Hid (Q w')) :
 CallsD Tryz.prog 60 #[.pointer (some ⟨sb,0,none⟩),.int .i64 k,.pointer (some ⟨eb,0,none⟩)] u w fun e u' w'=>u'=u/\(e=.returned (.tuple #[])/\Hid (Q w')):=by
 have hne:(er != 0)=true:=by simp [h0]
 clear h0
 go_enter_d Tryz.func60,Tryz.ntmps60
 go_wp2_with fail
 refine BK.mono ?_
 rintro e w1 ⟨rfl,HB⟩
 go_wp2_with fail
 go_end0
 exact ⟨rfl,HB⟩
end
theorem find_longC (w1 w:World) (K:Nat->Prop) (sb rb ti tl n m:Nat) (S:RS) (id:ByteArray) (h:CSt w1 w K sb rb ti tl n m S) (hm:m<=3900000) (hi:96<id.size) :
 Calls Tryz.prog 62 #[.pointer (some ⟨sb,0,none⟩),.string id] w fun e w'=>e=.returned (.tuple #[ck0,.bool false,.int .i64 0])/\Hid (CGo w1 w w' K sb rb ti tl n m S):=by
 obtain ⟨w0,hw0⟩:=exE (w.alloc (.cells #[.int .i64 0,.int .i64 0,.int .i64 0] 124))
 have blk:Hid (w0.heap[w.heap.size]?=some (.cells #[.int .i64 0,.int .i64 0,.int .i64 0] 124 (0,0))):=Hd (by
  subst hw0;exact heap_alloc_new _ _)
 have HB0:Hid (Below w.heap.size w w0):=Hd (by subst hw0;exact (Below.refl w.heap.size w).alloc (Nat.le_refl _) _)
 have G0:Hid (CGo w1 w0 w0 (fun k=>K k\/k=w.heap.size) sb rb ti tl n m S):=Hd ⟨h.new HB0.out _ (Nat.le_refl _) (lt_of_heap blk.out),fun _ _=>rfl⟩
 obtain ⟨c,US⟩:∃ c:Nat,Calls Tryz.prog 53 #[.pointer (some ⟨rb,0,none⟩)] w0 fun e w'=>e=.returned (.tuple #[.int .i64 (c:Int),.int .i64 0])/\Hid (CGo w1 w0 w' (fun k=>K k\/k=w.heap.size) sb rb ti tl n m S):=by
  obtain ⟨G,⟨puts,hp,hr,hrep⟩,-⟩:=G0.out.1.1
  exact ⟨cnt S.used (pagesN n),(Used_c G rb n puts S w0 hr hrep (by omega)).mono fun e w' h=>⟨h.1,Hd (G0.out.below h.2)⟩⟩
 obtain ⟨s0,s1,s2⟩:=G0.out.1.2.cells
 have HH:=Hd h
 have hi':id.size > 96:=hi
 have hi2:((96:Int)<id.size)=True:=by simp;omega
 clear h hm hi
 go_enter Tryz.func62,Tryz.ntmps62
 go_wp2_with fail
 refine US.mono ?_
 rintro e w2 ⟨rfl,G2⟩
 have hb2:w2.heap[w.heap.size]?=some (.cells #[.int .i64 0,.int .i64 0,.int .i64 0] 124 (0,0)):=(G2.out.2 _ (.inr rfl)).trans blk.out
 obtain ⟨c0,c1,c2⟩:=cells3 hb2
 have f0:∀ i,w2.frozen? ⟨w.heap.size,i,none⟩=false:=fun i=>frozen_lit hb2 i
 clear hb2 US
 go_wp2_with fail
 refine bodyPost_ret (v:=.tuple #[ck0,.bool false,.int .i64 0]) (by simp [results,Tryz.results62,go_sem,c0,c1,c2,f0,ck0]) rfl ⟨rfl,Hd (HH.out.fin G2.out HB0.out _ _ _)⟩
section
variable {w1 wA w0 w W w' wb:World} {x:Nat} {er:Int} {K:Nat->Prop} {sb rb ti tl n N a m nx:Nat} {C:List Ck} {L:List Lg} {X:List (Nat × ByteArray)} {puts:List (Int × ByteArray)} {S:RS} {o0 o1:Option TT}
theorem find_any {K2:Nat->Prop} (id:ByteArray) (M:ChMk w1 w0 w K2 sb rb ti tl n N a C L nx X puts S o0 o1) (hN:a<=N/\N<=1000) (h:CSt w1 W K sb rb ti tl n (300*a) S) :
 ∃ p q c,(∀ d,cAt C id=some d->p=(d.page:Int)/\q=(d.text.size:Int)/\c=d.cnt)/\Calls Tryz.prog 62 #[.pointer (some ⟨sb,0,none⟩),.string id] W fun e w'=>e=.returned (.tuple #[.agg #[.int .i64 p,.int .i64 q,.int .i64 c],.bool (cAt C id).isSome,.int .i64 0])/\Hid (CGo w1 W w' K sb rb ti tl n (300*a) S):=by
 cases hf:cAt C id with
 | none =>
   refine ⟨0,0,0,fun d e=>(by cases e),?_⟩
   by_cases hi:id.size<=96
   ·exact find_noC w1 W K sb rb ti tl n (300*a) S o0 C id h (Hd ⟨M.two.t0,M.c,M.two.hgt0 (by omega)⟩) (by omega) hi hf
   ·exact find_longC w1 W K sb rb ti tl n (300*a) S id h (by omega) (by omega)
 | some c =>
   have hid:id.size=33:=by
    obtain ⟨h1,h2⟩:=cAt_some hf
    rw [<-h2];exact (M.c.ok c h1).id
   exact ⟨_,_,_,fun d e=>(by cases e;exact ⟨rfl,rfl,rfl⟩),find_yesC w1 W K sb rb ti tl n (300*a) S o0 C id h (Hd ⟨M.two.t0,M.c,M.two.hgt0 (by omega)⟩) (by omega) (by omega) c hf⟩
structure ChS (w1 wA:World) (x:Nat) (er:Int) (w:World) (K:Nat->Prop) (sb rb ti tl n m:Nat) (S:RS):Prop where
 st:CSt w1 w (fun k=>K k\/k=x) sb rb ti tl n m S
 kp:Kept K wA w
 bx:w.heap[x]?=some (.cells #[.int .i64 er] 34 (0,0))
 lo:w1.heap.size<=x
 ne:x≠sb/\x≠ti/\x≠tl
 nk:¬K x
theorem ChS.start (E:ChE w1 w x er wb K sb rb ti tl n N a C L nx X) (M:ChMk w1 wb wb (fun k=>K k\/k=x) sb rb ti tl n N a C L nx X puts S o0 o1):ChS w1 w x er wb K sb rb ti tl n (300*a) S :=
 ⟨M.go.1,E.kp,E.bx,E.lo.1,E.ne,E.nk⟩
theorem ChS.step (h:ChS w1 wA x er w K sb rb ti tl n m S) (g:CGo w1 w w' (fun k=>K k\/k=x) sb rb ti tl n m S):ChS w1 wA x er w' K sb rb ti tl n m S :=
 ⟨g.1,h.kp.trans (g.2.mono fun k hk=>.inl hk),(g.2 x (.inr rfl)).trans h.bx,h.lo,h.ne,h.nk⟩
theorem ChS.below (h:ChS w1 wA x er w K sb rb ti tl n m S) (hb:Below w.heap.size w w'):ChS w1 wA x er w' K sb rb ti tl n m S:=h.step ⟨h.st.below hb,h.st.keep hb⟩
theorem ChS.set (h:ChS w1 wA x er w K sb rb ti tl n m S) (e2:Int):ChS w1 wA x e2 (w.setCell ⟨x,0,none⟩ (.int .i64 e2)) K sb rb ti tl n m S:=by
 refine ⟨h.st.set (.inr rfl) h.lo h.ne 0 _,fun k hk=>?_,heap_set_lit h.bx _,h.lo,h.ne,h.nk⟩
 have hne:k≠x:=fun e=>h.nk (by rw [<-e];exact hk)
 rw [heap_set_ne _ hne,h.kp k hk]
theorem ChS.cell (h:ChS w1 wA x er w K sb rb ti tl n m S):w.cell? ⟨x,0,none⟩=some (.int .i64 er)/\w.frozen? ⟨x,0,none⟩=false/\x<w.heap.size:=⟨cell_lit h.bx rfl,frozen_lit h.bx 0,lt_of_heap h.bx⟩
theorem ChS.back (h:ChS w1 wA x er W K sb rb ti tl n m S) (hm:m<=4000000) (M:ChMk w1 wb wb (fun k=>K k\/k=x) sb rb ti tl n N a C L nx X puts S o0 o1) (h0:Kept K w0 wA) :
 Calls Tryz.prog 77 #[.pointer (some ⟨sb,0,none⟩),.int .i64 (puts.length:Int)] W fun e w'=>e=.returned (.tuple #[])/\Hid (w'.cell? ⟨x,0,none⟩=some (.int .i64 er)/\Chs w1 w0 w' K sb rb ti tl n N a C L nx X):=by
 refine (back_c (w0:=W) ⟨h.st,fun _ _=>rfl⟩ hm M.base M.rep M.len).mono ?_
 rintro e w' ⟨rfl,hE⟩
 refine ⟨rfl,Hd ⟨cell_lit ((hE.out.2 x (.inr rfl)).trans h.bx) rfl,?_⟩⟩
 have h1:=(M.chs hE.out).mono (K':=K) fun k hk=>.inl hk
 exact h1.to (h0.trans h.kp)
end
section
variable (w1 w w0:World) (K:Nat->Prop) (sb rb ti tl n N a nx:Nat) (C:List Ck) (L:List Lg) (X:List (Nat × ByteArray))
theorem Add_err (id:ByteArray) (by_ er:Int) (h:Hid (Chs w1 w0 w K sb rb ti tl n N a C L nx X)) (hN:a<=N/\N<=1000) (hc:((by_≠1/\by_≠-1)/\er=1)\/((by_=1\/by_=-1)/\cAt C id=none/\er=6)) :
 Calls Tryz.prog 19 #[.pointer (some ⟨sb,0,none⟩),.string id,.int .i64 by_] w fun e w'=>e=.returned (.int .i64 er)/\Hid (Chs w1 w0 w' K sb rb ti tl n N a C L nx X):=by
 obtain ⟨x,hx⟩:=exE (w.heap.size)
 obtain ⟨wb,hwb⟩:=exE (w.alloc (.cells #[.int .i64 0] 34))
 have E0:Hid (ChE w1 w x 0 wb K sb rb ti tl n N a C L nx X):=Hd (by subst hx hwb;exact ChE.start h.out)
 obtain ⟨puts,S,o0,o1,M,MK⟩:=E0.out.st.mark
 have S0:=Hd (ChS.start E0.out M)
 obtain ⟨p,q,c,-,FA⟩:=find_any id M hN S0.out.st
 have HM:=Hd M
 have H0:=Hd h.out.kept
 have HN:=Hd hN
 have BK:Hid (∀ W er,ChS w1 w x er W K sb rb ti tl n (300*a) S->_):=Hd fun W er hW=>hW.back (by omega) M h.out.kept
 obtain ⟨pl,hpl⟩:∃ pl:Int,(puts.length:Int)=pl:=⟨_,rfl⟩
 rw [hpl] at MK BK
 clear h hN M E0 hpl
 rcases hc with ⟨⟨n1,n2⟩,rfl⟩|⟨hc,hf,rfl⟩
 ·have d1:(by_ != 1)=true:=by simpa using n1
  have d2:(by_ != -1)=true:=by simpa using n2
  clear n1 n2
  go_enter_defers Tryz.func19,Tryz.ntmps19
  go_wp2_with fail
  subst hx
  refine MK.mono ?_
  rintro e wm ⟨rfl,rfl⟩
  go_wp2_with fail
  refine FA.mono ?_
  rintro e w2 ⟨rfl,G2⟩
  have E2:=Hd (S0.out.step G2.out)
  obtain ⟨cx,fx,lx⟩:=E2.out.cell
  have E3:=Hd fun o=>((E2.out.set 0).set 1).below ((Below.refl _ _).alloc (Nat.le_refl _) o)
  have hfin:=fun o=>(E3.out o).cell.1
  have B3:=fun o=>BK.out _ _ (E3.out o)
  clear FA MK G2 BK
  go_wp2_with fail
  refine leaves_cons (f:=60) (args:=#[.pointer (some ⟨sb,0,none⟩),.int .i64 pl,.pointer (some ⟨w.heap.size,0,none⟩)]) (by simp) (by simp [go_sem]) ?_
  refine (undo_back _ _ _ _ _ (hfin _) (by decide) (B3 _)).mono ?_
  rintro e u' w9 ⟨rfl,rfl,HQ⟩
  have hq:=HQ.out.1
  have HG:=Hd HQ.out.2
  simp [Leaves,settle,results,Tryz.results19,go_sem,hq]
  exact HG
 ·rw [hf] at FA
  clear hf
  rcases hc with rfl|rfl
  all_goals (
   go_enter_defers Tryz.func19,Tryz.ntmps19
   go_wp2_with fail
   subst hx
   refine MK.mono ?_
   rintro e wm ⟨rfl,rfl⟩
   go_wp2_with fail
   refine FA.mono ?_
   rintro e w2 ⟨rfl,G2⟩
   have E2:=Hd (S0.out.step G2.out)
   obtain ⟨cx,fx,lx⟩:=E2.out.cell
   have E3:=Hd fun o=>((E2.out.set 0).set 6).below ((Below.refl _ _).alloc (Nat.le_refl _) o)
   have hfin:=fun o=>(E3.out o).cell.1
   have B3:=fun o=>BK.out _ _ (E3.out o)
   clear FA MK G2 BK
   go_wp2_with fail
   refine leaves_cons (f:=60) (args:=#[.pointer (some ⟨sb,0,none⟩),.int .i64 pl,.pointer (some ⟨w.heap.size,0,none⟩)]) (by simp) (by simp [go_sem]) ?_
   refine (undo_back _ _ _ _ _ (hfin _) (by decide) (B3 _)).mono ?_
   rintro e u' w9 ⟨rfl,rfl,HQ⟩
   have hq:=HQ.out.1
   have HG:=Hd HQ.out.2
   simp [Leaves,settle,results,Tryz.results19,go_sem,hq]
   exact HG)
theorem Apply_err (id:ByteArray) (by_ er:Int) (h:Hid (Chs w1 w0 w K sb rb ti tl n N a C L nx X)) (hN:a<=N/\N<=1000) (hc:((by_≠1/\by_≠-1)/\er=1)\/((by_=1\/by_=-1)/\cAt C id=none/\er=6)) :
 Calls Tryz.prog 96 #[.pointer (some ⟨sb,0,none⟩),.string id,.int .i64 by_] w fun e w'=>e=.returned (.int .i64 er)/\Hid (Chs w1 w0 w' K sb rb ti tl n N a C L nx X):=by
 obtain ⟨x,hx⟩:=exE (w.heap.size)
 obtain ⟨wb,hwb⟩:=exE (w.alloc (.cells #[.int .i64 0] 34))
 have E0:Hid (ChE w1 w x 0 wb K sb rb ti tl n N a C L nx X):=Hd (by subst hx hwb;exact ChE.start h.out)
 obtain ⟨puts,S,o0,o1,M,MK⟩:=E0.out.st.mark
 have S0:=Hd (ChS.start E0.out M)
 obtain ⟨p,q,c,-,FA⟩:=find_any id M hN S0.out.st
 have HM:=Hd M
 have H0:=Hd h.out.kept
 have HN:=Hd hN
 have BK:Hid (∀ W er,ChS w1 w x er W K sb rb ti tl n (300*a) S->_):=Hd fun W er hW=>hW.back (by omega) M h.out.kept
 obtain ⟨pl,hpl⟩:∃ pl:Int,(puts.length:Int)=pl:=⟨_,rfl⟩
 rw [hpl] at MK BK
 clear h hN M E0 hpl
 rcases hc with ⟨⟨n1,n2⟩,rfl⟩|⟨hc,hf,rfl⟩
 ·have d1:(by_ != 1)=true:=by simpa using n1
  have d2:(by_ != -1)=true:=by simpa using n2
  clear n1 n2
  go_enter_defers Tryz.func96,Tryz.ntmps96
  go_wp2_with fail
  subst hx
  refine MK.mono ?_
  rintro e wm ⟨rfl,rfl⟩
  go_wp2_with fail
  refine FA.mono ?_
  rintro e w2 ⟨rfl,G2⟩
  have E2:=Hd (S0.out.step G2.out)
  obtain ⟨cx,fx,lx⟩:=E2.out.cell
  have E3:=Hd fun o=>((E2.out.set 0).set 1).below ((Below.refl _ _).alloc (Nat.le_refl _) o)
  have hfin:=fun o=>(E3.out o).cell.1
  have B3:=fun o=>BK.out _ _ (E3.out o)
  clear FA MK G2 BK
  go_wp2_with fail
  refine leaves_cons (f:=60) (args:=#[.pointer (some ⟨sb,0,none⟩),.int .i64 pl,.pointer (some ⟨w.heap.size,0,none⟩)]) (by simp) (by simp [go_sem]) ?_
  refine (undo_back _ _ _ _ _ (hfin _) (by decide) (B3 _)).mono ?_
  rintro e u' w9 ⟨rfl,rfl,HQ⟩
  have hq:=HQ.out.1
  have HG:=Hd HQ.out.2
  simp [Leaves,settle,results,Tryz.results96,go_sem,hq]
  exact HG
 ·rw [hf] at FA
  clear hf
  rcases hc with rfl|rfl
  all_goals (
   go_enter_defers Tryz.func96,Tryz.ntmps96
   go_wp2_with fail
   subst hx
   refine MK.mono ?_
   rintro e wm ⟨rfl,rfl⟩
   go_wp2_with fail
   refine FA.mono ?_
   rintro e w2 ⟨rfl,G2⟩
   have E2:=Hd (S0.out.step G2.out)
   obtain ⟨cx,fx,lx⟩:=E2.out.cell
   have E3:=Hd fun o=>((E2.out.set 0).set 6).below ((Below.refl _ _).alloc (Nat.le_refl _) o)
   have hfin:=fun o=>(E3.out o).cell.1
   have B3:=fun o=>BK.out _ _ (E3.out o)
   clear FA MK G2 BK
   go_wp2_with fail
   refine leaves_cons (f:=60) (args:=#[.pointer (some ⟨sb,0,none⟩),.int .i64 pl,.pointer (some ⟨w.heap.size,0,none⟩)]) (by simp) (by simp [go_sem]) ?_
   refine (undo_back _ _ _ _ _ (hfin _) (by decide) (B3 _)).mono ?_
   rintro e u' w9 ⟨rfl,rfl,HQ⟩
   have hq:=HQ.out.1
   have HG:=Hd HQ.out.2
   simp [Leaves,settle,results,Tryz.results96,go_sem,hq]
   exact HG)
end
theorem Drop_b (G:Nat->Prop) (rb n m:Nat) (S:RS) (p:Nat) (s:ByteArray) (w:World) (h:RmS w G rb n m S) (hm:m<=3900000) (hs:s.size<=128) (hu:S.used p=true) (hc:S.cont p=pad (pgB s)) :
 Calls Tryz.prog 103 #[.pointer (some ⟨rb,0,none⟩),.int .i64 (p:Int)] w fun e w'=>e=.returned (.int .i64 0)/\Hid (StGo w w' G rb n (m+1) (frS S p)):=by
 have WK:=walk_b G rb n m S p s w h (by omega) hs hu hc
 have FR:Hid (∀ W,Below w.heap.size w W->Calls Tryz.prog 132 #[.pointer (some ⟨rb,0,none⟩),.int .i64 (p:Int)] W fun e w'=>e=.returned (.int .i64 0)/\Hid (StGo w w' G rb n (m+1) (frS S p))):=Hd fun W hW=>by
  obtain ⟨puts,h1,h2,h3⟩:=h
  refine (Free_c G rb n puts S p W (h2.below hW) h3 (by omega) hu).mono ?_
  rintro e w' ⟨rfl,hg⟩
  exact ⟨rfl,Hd ((StGo.of_room hg.out h1).below_left hW)⟩
 clear h hm hs hu hc
 go_enter Tryz.func103,Tryz.ntmps103
 go_wp2_with fail
 refine WK.mono ?_
 rintro e w1 ⟨v,rfl,H1⟩
 obtain ⟨g,vc,rfl,hcell⟩:∃ g c,v=.slice (some ⟨g,0,none⟩) 1 c/\w1.cell? ⟨g,0,none⟩=some (.int .i64 (p:Int)):=by
  have hr:=H1.out.1
  rcases hr.2 with ⟨e,h0⟩|⟨g,cap,cur,e,hb,hg,-⟩
  ·cases h0
  ·subst e
   exact ⟨g,cap,rfl,(hr.cellAt 0 (by simp)).trans rfl⟩
 have F1:=FR.out w1 H1.out.2
 clear WK FR H1
 go_wp2_with fail
 refine wp_loop_rounds 2 ?_
 rw [rounds_succ]
 go_wp2_with fail
 refine F1.mono ?_
 rintro e w2 ⟨rfl,H2⟩
 clear F1
 go_wp2_with fail
 rw [rounds_succ]
 go_wp2_with fail
 go_ret
 exact ⟨rfl,H2⟩
theorem TwoM.drop {S:RS} {n c a0 a1 p:Nat} {o0 o1:Option TT} {s:ByteArray} {X:List (Nat × ByteArray)} (h:TwoM S n c o0 o1 a0 a1 ((p,s)::X)):TwoM (frS S p) n c o0 o1 a0 a1 X:=by
 have hp:=h.pg (p,s) (by simp)
 obtain ⟨q1,q2,q3,q4⟩:=h.parts
 have n0:=q2 (p,s) (by simp)
 have n1:=q4 (p,s) (by simp)
 obtain ⟨d1,d2,d3⟩:=List.nodup_append.1 h.nd
 obtain ⟨d4,d5,d6⟩:=List.nodup_append.1 d2
 rw [List.map_cons] at d5
 obtain ⟨d7,d8⟩:=List.nodup_cons.1 d5
 have ku:∀ q,q≠p->(frS S p).used q=S.used q/\(frS S p).cont q=S.cont q:=fun q hq=>⟨by show flip S.used p q=_;unfold flip;rw [if_neg hq],rfl⟩
 refine ⟨h.t0.keep rfl fun q hq=>ku q fun e=>n0 (e ▸ hq),h.t1.keep rfl fun q hq=>ku q fun e=>n1 (e ▸ hq),h.sp.freeS hp.1,h.w0,h.w1,fun x hx=>?_,List.nodup_append.2 ⟨d1,List.nodup_append.2 ⟨d4,d8,fun a ha b hb=>d6 a ha b (by simp [hb])⟩,fun a ha b hb=>d3 a ha b ?_⟩,fun q hq=>?_⟩
 ·have hx':=h.pg x (by simp [hx])
  have hne:x.1≠p:=fun e=>d7 (List.mem_map.2 ⟨x,hx,e⟩)
  exact ⟨(ku _ hne).1.trans hx'.1,(ku _ hne).2.trans hx'.2⟩
 ·rcases List.mem_append.1 hb with hb|hb
  ·exact List.mem_append_left _ hb
  ·exact List.mem_append_right _ (by rw [List.map_cons];exact List.mem_cons_of_mem _ hb)
 ·have hq':flip S.used p q=true:=hq
  unfold flip at hq'
  by_cases e:q=p
  ·rw [if_pos e,e,hp.1] at hq';cases hq'
  ·rw [if_neg e] at hq'
   have:=h.al q hq'
   simp only [List.mem_append,List.map_cons,List.mem_cons] at this ⊢
   rcases this with h1|h1|h1|h1
   ·exact .inl h1
   ·exact .inr (.inl h1)
   ·exact absurd h1 e
   ·exact .inr (.inr h1)
section
variable (w1 w w0:World) (K:Nat->Prop) (sb rb ti tl n N a nx:Nat) (C:List Ck) (L:List Lg) (X:List (Nat × ByteArray))
theorem Chs.perm {w1 w w0:World} {K:Nat->Prop} {sb rb ti tl n N a nx:Nat} {C:List Ck} {L:List Lg} {X Y:List (Nat × ByteArray)} (h:Chs w1 w0 w K sb rb ti tl n N a C L nx X) (hp:X.Perm Y):Chs w1 w0 w K sb rb ti tl n N a C L nx Y:=by
 obtain ⟨S,o0,o1,h1,h2,h3⟩:=h
 exact ⟨S,o0,o1,h1,h2.perm hp,h3⟩
theorem blob_drop (p:Nat) (s:ByteArray) (hs:s.size<=128) (h:Hid (Chs w1 w0 w K sb rb ti tl n N a C L nx ((p,s)::X))) (hN:a<N/\N<=1000) :
 Calls Tryz.prog 103 #[.pointer (some ⟨rb,0,none⟩),.int .i64 (p:Int)] w fun e w'=>e=.returned (.int .i64 0)/\Hid (Chs w1 w0 w' K sb rb ti tl n N (a+1) C L nx X):=by
 obtain ⟨S,o0,o1,h1,h2,h3,h4,h5,h6⟩:=h.out
 obtain ⟨G,x1,x2,x3,x4⟩:=h1.1.1
 have hp:=h2.pg (p,s) (by simp)
 refine (Drop_b G rb n (300*a) S p s w x1 (by omega) hs hp.1 hp.2).mono ?_
 rintro e w' ⟨rfl,hE⟩
 have hg:=RSt.of x2 x3 x4 hE.out
 have hh:=h1.1.of hg.1 hg.2
 exact ⟨rfl,Hd ⟨frS S p,o0,o1,⟨hh.1.more (by omega),h1.2.trans hh.2⟩,h2.drop.less (by omega) (by omega) (by omega),h3,h4,h5,by omega⟩⟩
theorem idx_del (id:ByteArray) (c:Ck) (h:Hid (Chs w1 w0 w K sb rb ti tl n N a C L nx X)) (hN:a<N/\N<=1000) (hf:cAt C id=some c) :
 Calls Tryz.prog 74 #[.pointer (some ⟨ti,0,none⟩),.string id] w fun e' w'=>e'=.returned (.tuple #[.bool true,.int .i64 0])/\Hid (∃ C',Chs w1 w0 w' K sb rb ti tl n N (a+1) C' L nx X/\DelC id C C'):=by
 obtain ⟨S,o0,o1,h1,h2,h3,h4,h5,h6⟩:=h.out
 obtain ⟨hm,hid⟩:=cAt_some hf
 have hh:=wtO_hgt (k:=10) h2.t0 h2.w0 (by omega)
 refine (del_r w1 w _ ti rb 0 n (300*a) S o0 id h1.1.1 h1.1.2.2.1 (.inr (.inr (.inl rfl))) h2.t0 (by decide) (by omega) (by omega)).mono ?_
 rintro e' w' ⟨was,rfl,hE⟩
 obtain ⟨S',o',x1,x2,g1⟩:=hE.out
 rcases g1 with ⟨rfl,g1,g2,g3,g4,g5,g6⟩|⟨rfl,-,-,g3⟩
 ·have hg:=h1.1.of x1 x2
  have hr:S'.root 2=S.root 2:=g1.frm.root 2 (by decide)
  obtain ⟨C',y1,y2⟩:=h3.del g2
  refine ⟨rfl,Hd ⟨C',⟨S',o',o1,⟨hg.1.more (by omega),h1.2.trans hg.2⟩,(h2.go0 (c':=24*(N-(a+1))) (b0:=a+1) g1 (g4 _ (h2.sp.less (by omega))) (by have:=h2.w0;omega)).less (Nat.le_refl _) (Nat.le_refl _) (by omega),y1,h4,hr.trans h5,by omega⟩,y2⟩⟩
 ·exact absurd hid (g3 (encC c) (by rw [h3.eq];exact List.mem_map.2 ⟨c,hm,rfl⟩))
end
set_option maxHeartbeats 1000000
def RdRow (w:World) (v:Value) (n sz:Nat) (xs:List Value):Prop :=
 ∃ a cap,v=.slice a n cap/\xs.length=n*sz/\n<=cap/\(a=none->n=0)/\∀ ad,a=some ad->∃ b off,ad=⟨b,off,none⟩/\b<w.heap.size/\∀ j u,xs[j]?=some u->w.cell? ⟨b,off+j,none⟩=some u
theorem addr_addO (g o j:Nat):(⟨g,o,none⟩:Addr).add j=⟨g,o+j,none⟩:=by unfold Addr.add;split <;> simp_all
theorem RdRow.below {w w':World} {v:Value} {n sz:Nat} {xs:List Value} (h:RdRow w v n sz xs) (hb:Below w.heap.size w w'):RdRow w' v n sz xs:=by
 obtain ⟨a,cap,rfl,hl,hc,h0,h1⟩:=h
 refine ⟨a,cap,rfl,hl,hc,h0,fun ad e=>?_⟩
 obtain ⟨b,off,e1,h2,h3⟩:=h1 ad e
 exact ⟨b,off,e1,Nat.lt_of_lt_of_le h2 hb.size,fun j u hu=>(hb.cell (p:=⟨b,off+j,none⟩) h2).trans (h3 j u hu)⟩
theorem RdRow.nil (w:World) (sz:Nat):RdRow w (.slice none 0 0) 0 sz []:=⟨none,0,rfl,by simp,Nat.le_refl _,fun _=>rfl,fun ad e=>by cases e⟩
theorem RdRow.own {w:World} {base n sz:Nat} {e:TypeId} {v:Value} {xs:List Value} (h:w.ownsRow base e sz v n xs):RdRow w v n sz xs:=by
 have hl:=h.1
 rcases h.2 with ⟨rfl,rfl⟩|⟨g,cap,cur,rfl,h1,h2,h3,-⟩
 ·refine ⟨none,0,rfl,hl,Nat.le_refl _,fun _=>rfl,fun ad e=>by cases e⟩
 ·refine ⟨some ⟨g,0,none⟩,cap,rfl,hl,h3,fun e=>(by cases e),fun ad e=>?_⟩
  cases e
  refine ⟨g,0,rfl,(h.lt g rfl).2,fun j u hu=>?_⟩
  have:=h.cells rfl j u hu
  rwa [addr_addO] at this
theorem RdRow.yields {w:World} {v:Value} {n sz:Nat} {xs:List Value} (h:RdRow w v n sz xs):Yields w v n xs:=by
 obtain ⟨a,cap,rfl,hl,hc,h0,h1⟩:=h
 refine ⟨a,cap,rfl,h0,fun ad e j u hu=>?_⟩
 obtain ⟨b,off,rfl,h2,h3⟩:=h1 ad e
 rw [addr_addO]
 exact h3 j u hu
theorem RdRow.form {w:World} {v:Value} {n sz:Nat} {xs:List Value} (h:RdRow w v n sz xs):∃ a cap,v=.slice a n cap/\n<=cap:=by
 obtain ⟨a,cap,rfl,_,hc,_⟩:=h;exact ⟨a,cap,rfl,hc⟩
theorem RdRow.get {w:World} {a:Option Addr} {n m cap sz:Nat} {xs:List Value} (h:RdRow w (.slice a m cap) n sz xs) {j:Nat} {u:Value} (hu:xs[j]?=some u):∃ b off,a=some ⟨b,off,none⟩/\b<w.heap.size/\∀ j u,xs[j]?=some u->w.cell? ⟨b,off+j,none⟩=some u:=by
 obtain ⟨a',cap',e,hl,hc,h0,h1⟩:=h
 cases e
 cases a with
 | none =>
   obtain rfl:=h0 rfl
   rw [Nat.zero_mul] at hl
   rw [List.length_eq_zero_iff.1 hl] at hu
   cases hu
 | some ad =>
   obtain ⟨b,off,e1,h2,h3⟩:=h1 ad rfl
   exact ⟨b,off,by rw [e1],h2,h3⟩
theorem RdRow.part {w:World} {b off n cap:Nat} {xs:List Value} (h:RdRow w (.slice (some ⟨b,off,none⟩) n cap) n 1 xs) (lo k c:Nat) (hk:lo+k<=n) (hc:k<=c):RdRow w (.slice (some ⟨b,off+lo,none⟩) k c) k 1 ((xs.drop lo).take k):=by
 obtain ⟨a',cap',e,hl,hc',h0,h1⟩:=h
 cases e
 obtain ⟨b',off',e1,h2,h3⟩:=h1 _ rfl
 cases e1
 refine ⟨_,_,rfl,by rw [List.length_take,List.length_drop];omega,hc,fun e=>(by cases e),fun ad e=>?_⟩
 cases e
 refine ⟨b,off+lo,rfl,h2,fun j u hu=>?_⟩
 rw [Nat.add_assoc]
 refine h3 (lo+j) u ?_
 rw [List.getElem?_take] at hu
 split at hu
 ·rwa [List.getElem?_drop] at hu
 ·cases hu
def u64C (l:List Nat):List Value:=l.map fun (x:Nat)=>Value.int .u64 (x:Int)
theorem u64C_get {l:List Nat} {i:Nat} (h:i<l.length):(u64C l)[i]?=some (.int .u64 (l.getD i 0:Nat)):=by
 unfold u64C List.getD
 rw [List.getElem?_map,List.getElem?_eq_getElem h];rfl
theorem u64C_len (l:List Nat):(u64C l).length=l.length:=by unfold u64C;simp
theorem u64C_snoc (l:List Nat) (x:Nat):u64C (l++[x])=u64C l++[.int .u64 (x:Int)]:=by simp [u64C]
theorem own_same {w w':World} {base:Nat} {e:TypeId} {s:Nat} {v:Value} {n:Nat} {xs:List Value} (h:w.ownsRow base e s v n xs) (hk:∀ k,v.ownBlock=some k->w'.heap[k]?=w.heap[k]?):w'.ownsRow base e s v n xs:=by
 refine ⟨h.1,?_⟩
 rcases h.2 with hn|⟨g,cap,cur,rfl,hb,hgg,rest⟩
 ·exact .inl hn
 ·exact .inr ⟨g,cap,cur,rfl,hb,(hk g rfl).trans hgg,rest⟩
theorem wrapU64 (x:Int) (h0:0<=x) (h1:x<18446744073709551616):IntKind.u64.wrap x=x:=by
 simp [IntKind.wrap,IntKind.bits,IntKind.signed]
 omega
set_option maxHeartbeats 4000000
set_option maxHeartbeats 1000000
def ckC (C:List RCk):List Value:=C.flatMap fun c=>[.string c.1,.string c.2.1,.int .i64 c.2.2]
def enC (L:List REn):List Value:=L.flatMap fun e=>[.string e.1,.int .i64 e.2]
theorem ckC_len (C:List RCk):(ckC C).length=C.length*3:=by
 induction C with
 | nil=>rfl
 | cons c C ih =>
   simp only [ckC,List.flatMap_cons,List.length_append,List.length_cons,List.length_nil] at ih ⊢
   rw [ih];omega
theorem enC_len (L:List REn):(enC L).length=L.length*2:=by
 induction L with
 | nil=>rfl
 | cons c C ih =>
   simp only [enC,List.flatMap_cons,List.length_append,List.length_cons,List.length_nil] at ih ⊢
   rw [ih];omega
theorem ckC_snoc (C:List RCk) (c:RCk):ckC (C++[c])=ckC C++[.string c.1,.string c.2.1,.int .i64 c.2.2]:=by simp [ckC]
theorem enC_snoc (L:List REn) (e:REn):enC (L++[e])=enC L++[.string e.1,.int .i64 e.2]:=by simp [enC]
theorem ckC_get:∀ {C:List RCk} {k:Nat} (h:k<C.length),(ckC C)[k*3]?=some (.string C[k].1)/\(ckC C)[k*3+1]?=some (.string C[k].2.1)/\(ckC C)[k*3+2]?=some (.int .i64 C[k].2.2)
 | [],k,h=>by simp at h
 | c::C,0,h=>⟨rfl,rfl,rfl⟩
 | c::C,k+1,h=>by
   have ih:=ckC_get (C:=C) (k:=k) (by simpa using h)
   have e:ckC (c::C)=.string c.1::.string c.2.1::.int .i64 c.2.2::ckC C:=rfl
   rw [e,show (k+1)*3=k*3+1+1+1 by omega]
   simp only [List.getElem?_cons_succ,List.getElem_cons_succ]
   exact ih
theorem enC_get:∀ {L:List REn} {k:Nat} (h:k<L.length),(enC L)[k*2]?=some (.string L[k].1)/\(enC L)[k*2+1]?=some (.int .i64 L[k].2)
 | [],k,h=>by simp at h
 | c::C,0,h=>⟨rfl,rfl⟩
 | c::C,k+1,h=>by
   have ih:=enC_get (L:=C) (k:=k) (by simpa using h)
   have e:enC (c::C)=.string c.1::.int .i64 c.2::enC C:=rfl
   rw [e,show (k+1)*2=k*2+1+1 by omega]
   simp only [List.getElem?_cons_succ,List.getElem_cons_succ]
   exact ih
def StR (w:World) (v:Value) (C:List RCk) (L:List REn):Prop :=
 ∃ va vl,v=.agg #[va,vl]/\RdRow w va C.length 3 (ckC C)/\RdRow w vl L.length 2 (enC L)
theorem StR.below {w w':World} {v:Value} {C:List RCk} {L:List REn} (h:StR w v C L) (hb:Below w.heap.size w w'):StR w' v C L:=by
 obtain ⟨va,vl,rfl,h1,h2⟩:=h
 exact ⟨va,vl,rfl,h1.below hb,h2.below hb⟩
theorem StR.nil (w:World):StR w (.agg #[.slice none 0 0,.slice none 0 0]) [] []:=⟨_,_,rfl,RdRow.nil w 3,RdRow.nil w 2⟩
set_option maxHeartbeats 2000000
theorem ixR_at {C:List RCk} {id:ByteArray} {k:Nat} (hk:k<C.length) (e:C[k].1=id) (hno:∀ j (hj:j<k),(C[j]'(Nat.lt_trans hj hk)).1≠id):ixR C id=(k:Int):=by
 have:C.findIdx? (fun c=>decide (c.1=id))=some k:=by
  rw [List.findIdx?_eq_some_iff_getElem]
  exact ⟨hk,by simp [e],fun j hj=>by simpa using hno j hj⟩
 unfold ixR;rw [this]
theorem ixR_miss {C:List RCk} {id:ByteArray} (hno:∀ j (hj:j<C.length),C[j].1≠id):ixR C id=-1:=by
 have:C.findIdx? (fun c=>decide (c.1=id))=none:=by
  rw [List.findIdx?_eq_none_iff]
  intro c hc
  obtain ⟨j,hj,rfl⟩:=List.mem_iff_getElem.1 hc
  simpa using hno j hj
 unfold ixR;rw [this]
theorem ba_neR {a b:ByteArray} (h:a≠b):(a.toList == b.toList)=false:=by
 rw [beq_eq_false_iff_ne]
 intro e
 rw [Lib.toList_data,Lib.toList_data] at e
 exact h (ByteArray.ext (Array.toList_inj.1 e))
theorem At_rc (v:Value) (C:List RCk) (L:List REn) (id:ByteArray) (w:World) (h:StR w v C L) (hC:C.length<=1000000) :
 Calls Tryz.prog 102 #[v,.string id] w fun e w'=>e=.returned (.int .i64 (ixR C id))/\Hid (Below w.heap.size w w'):=by
 obtain ⟨va,vl,rfl,h1,-⟩:=h
 obtain ⟨wb,hwb⟩:=exE (w.alloc (.cells #[va,vl] 52))
 have HB:Hid (Below w.heap.size w wb):=Hd (by rw [<-hwb];exact (Below.refl _ _).alloc (Nat.le_refl _) _)
 have HR:=Hd (h1.below HB.out)
 have cb:wb.cell? ⟨w.heap.size,0,none⟩=some va:=by rw [<-hwb];exact cell_lit (heap_alloc_new _ _) rfl
 obtain ⟨a,cap,rfl,hcap⟩:=h1.form
 have HCL:=Hd hC
 clear h1 hcap hC
 go_enter Tryz.func102,Tryz.ntmps102
 go_wp2_with fail
 clear hwb
 go_loopg [5] C.length (fun g s5 wr=>∃ (k:Nat),g=C.length-k/\k<=C.length/\s5=.int .i64 (k:Int)/\Hid (∀ j (hj:j<k) (hk:j<C.length),C[j].1≠id)/\wb=wr)
 case atStart=>exact ⟨0,rfl,Nat.zero_le _,rfl,Hd fun j hj=>absurd hj (by omega),rfl⟩
 case round =>
  obtain ⟨k,rfl,hk,rfl,HN,rfl⟩:=hrel
  by_cases hlt:k<C.length
  ·obtain ⟨c1,-,-⟩:=ckC_get hlt
   obtain ⟨b,off,rfl,hb,hc⟩:=HR.out.get c1
   have ck:=hc _ _ c1
   have HLT:=Hd hlt
   have hsm:C.length<=1000000:=HCL.out
   by_cases he:C[k].1=id
   ·have HE:=Hd (ixR_at hlt he fun j hj=>HN.out j hj _)
    have heq:(C[k].1.toList == id.toList)=true:=by rw [he];simp
    clear HN hc he
    generalize C[k].1=i at *
    go_wp2_with fail
    go_ret
    exact ⟨congrArg (fun z=>Ending.returned (.int .i64 z)) HE.out.symm,HB⟩
   ·have HN2:Hid (∀ j (hj:j<k+1) (hk:j<C.length),C[j].1≠id):=Hd fun j hj hk'=>by
     by_cases e:j=k
     ·subst e;exact he
     ·exact HN.out j (by omega) hk'
    have heq:(C[k].1.toList == id.toList)=false:=by
     exact ba_neR he
    clear HN hc he
    generalize C[k].1=i at *
    go_wp2_with fail
    go_roundg (C.length-(k+1))
    case measure=>have:=HLT.out;omega
    case rel=>exact ⟨k+1,rfl,HLT.out,by congr 1,HN2,rfl⟩
  ·obtain rfl:k=C.length:=by omega
   have HE:=Hd (ixR_miss fun j hj=>HN.out j hj hj)
   clear HN hk hlt
   go_wp2_with fail
   go_ret
   exact ⟨congrArg (fun z=>Ending.returned (.int .i64 z)) HE.out.symm,HB⟩
def getR (C:List RCk) (id:ByteArray):ByteArray × Int:=match fndR C id with
 | some c=>(c.2.1,0)
 | none=>(⟨#[]⟩,6)
theorem Get_rc (v:Value) (C:List RCk) (L:List REn) (id:ByteArray) (w:World) (h:StR w v C L) (hC:C.length<=1000000) :
 Calls Tryz.prog 86 #[v,.string id] w fun e w'=>e=.returned (.tuple #[.string (getR C id).1,.int .i64 (getR C id).2])/\Hid (Below w.heap.size w w'):=by
 obtain ⟨va,vl,rfl,h1,h2⟩:=h
 obtain ⟨wb,hwb⟩:=exE (w.alloc (.cells #[va,vl] 52))
 have HB:Hid (Below w.heap.size w wb):=Hd (by rw [<-hwb];exact (Below.refl _ _).alloc (Nat.le_refl _) _)
 have AT:=At_rc (.agg #[va,vl]) C L id wb ⟨va,vl,rfl,h1.below HB.out,h2.below HB.out⟩ hC
 have hbl:wb.heap[w.heap.size]?=some (.cells #[va,vl] 52 (0,0)):=by rw [<-hwb];exact heap_alloc_new _ _
 have HBL:=Hd hbl
 have cb:=cell_lit hbl (i:=0) rfl
 have cb1:=cell_lit hbl (i:=1) rfl
 have HR:=Hd (h1.below HB.out)
 obtain ⟨a,cap,rfl,hcap⟩:=h1.form
 clear h1 h2 hbl hcap
 cases hf:fndR C id with
 | none =>
   have hx:=(ixR_none hf).1
   have HE:=Hd (show getR C id=(⟨#[]⟩,6) by unfold getR;rw [hf])
   rw [hx] at AT
   clear hx hf HR
   go_enter Tryz.func86,Tryz.ntmps86
   go_wp2_with fail
   refine AT.mono ?_
   rintro e w2 ⟨rfl,H2⟩
   have HG:=Hd (HB.out.trans (H2.out.mono HB.out.size))
   clear AT H2 hwb
   go_wp2_with fail
   go_ret2
   rw [HE.out]
   exact ⟨rfl,HG⟩
 | some c =>
   obtain ⟨i,hi,hc,hx,-⟩:=ixR_some hf
   have HE:=Hd (show getR C id=(c.2.1,0) by unfold getR;rw [hf])
   rw [hx] at AT
   obtain ⟨-,c1,-⟩:=ckC_get hi
   obtain ⟨b,off,rfl,hb,hcell⟩:=HR.out.get c1
   have ck:=hcell _ _ c1
   rw [hc] at ck
   have HCK:Hid (∀ w2,Below wb.heap.size wb w2->w2.cell? ⟨w.heap.size,0,none⟩=some (.slice (some ⟨b,off,none⟩) C.length cap)/\w2.cell? ⟨b,off+i*3+1,none⟩=some (.string c.2.1)):=Hd fun w2 h=>⟨(h.cell (p:=⟨w.heap.size,0,none⟩) (lt_of_heap HBL.out)).trans cb,(h.cell (p:=⟨b,off+i*3+1,none⟩) hb).trans ck⟩
   have hi0:((i:Int)<0)=False:=eq_false (by omega)
   clear hx hf HR hcell ck c1 hc hb
   go_enter Tryz.func86,Tryz.ntmps86
   go_wp2_with fail
   refine AT.mono ?_
   rintro e w2 ⟨rfl,H2⟩
   obtain ⟨d0,d1⟩:=HCK.out w2 H2.out
   have HG:=Hd (HB.out.trans (H2.out.mono HB.out.size))
   clear AT H2 hwb cb cb1 HCK
   go_wp2_with fail
   go_ret2
   rw [HE.out]
   exact ⟨rfl,HG⟩
set_option maxHeartbeats 1000000
theorem ch_eq (e f g:Nat) (he:e<4294967296) (hf:f<4294967296) (hg:g<4294967296):g ^^^ (e &&& (f ^^^ g))=(e &&& f)+((4294967295-e) &&& g):=by
 have hz:(BitVec.ofNat 32 e &&& BitVec.ofNat 32 f) &&& (~~~(BitVec.ofNat 32 e) &&& BitVec.ofNat 32 g)=0#32:=by
  ext i hi
  simp
  intro h1 _ h2;rw [h1] at h2;cases h2
 have h1:=congrArg BitVec.toNat (BitVec.add_eq_or_of_and_eq_zero _ _ hz)
 have hx:BitVec.ofNat 32 g ^^^ (BitVec.ofNat 32 e &&& (BitVec.ofNat 32 f ^^^ BitVec.ofNat 32 g))=(BitVec.ofNat 32 e &&& BitVec.ofNat 32 f) ||| (~~~(BitVec.ofNat 32 e) &&& BitVec.ofNat 32 g):=by
  ext i hi
  simp
  cases (BitVec.ofNat 32 e)[i] <;> cases (BitVec.ofNat 32 f)[i] <;> cases (BitVec.ofNat 32 g)[i] <;> rfl
 have h2:=congrArg BitVec.toNat hx
 simp only [BitVec.toNat_add,BitVec.toNat_and,BitVec.toNat_or,BitVec.toNat_xor,BitVec.toNat_not,BitVec.toNat_ofNat] at h1 h2
 rw [Nat.mod_eq_of_lt he,Nat.mod_eq_of_lt hf,Nat.mod_eq_of_lt hg] at h1 h2
 have hs:(e &&& f)+((2 ^ 32-1-e) &&& g)<2 ^ 32:=by
  have a1:e &&& f<=e:=Nat.and_le_left
  have a2:(2 ^ 32-1-e) &&& g<=2 ^ 32-1-e:=Nat.and_le_left
  have a3:(2:Nat) ^ 32=4294967296:=by decide
  omega
 rw [Nat.mod_eq_of_lt hs] at h1
 rw [h2,<-h1]
theorem maj_eq (a b c:Nat):(a &&& b) ||| (c &&& (a ||| b))=((a &&& b) ||| (a &&& c)) ||| (b &&& c):=by
 apply Nat.eq_of_testBit_eq
 intro i
 simp only [Nat.testBit_or,Nat.testBit_and]
 cases a.testBit i <;> cases b.testBit i <;> cases c.testBit i <;> rfl
def refOne (v:V8) (k w:Nat):Nat:=v.h+great v.e 6 11 25+((v.e &&& v.f)+((4294967295-v.e) &&& v.g))+k+w
def refTwo (v:V8):Nat:=great v.a 2 13 22+(((v.a &&& v.b) ||| (v.a &&& v.c)) ||| (v.b &&& v.c))
def refStep (v:V8) (k w:Nat):V8:=⟨(refOne v k w+refTwo v)%4294967296,v.a,v.b,v.c,(v.d+refOne v k w)%4294967296,v.e,v.f,v.g⟩
theorem step_eq {v:V8} (h:v.Ok) (k w:Nat):v.next k w=refStep v k w:=by
 have hu:v.up k w=refOne v k w%4294967296:=by
  unfold V8.up refOne add32
  rw [ch_eq _ _ _ h.e h.f h.g]
  omega
 have ho:v.over=refTwo v%4294967296:=by
  unfold V8.over refTwo add32
  rw [maj_eq]
 unfold V8.next refStep
 rw [hu,ho]
 unfold add32
 congr 1 <;> omega
def nxW (w:List Nat) (t:Nat):Nat:=(w.getD (t-16) 0+small (w.getD (t-15) 0) 7 18 3+w.getD (t-7) 0+small (w.getD (t-2) 0) 17 19 10)%4294967296
def extW (b:List Nat):Nat->List Nat
 | 0=>b
 | j+1=>extW b j++[nxW (extW b j) (16+j)]
theorem extW_len (b:List Nat):∀ j,(extW b j).length=b.length+j
 | 0=>rfl
 | j+1=>by simp only [extW,List.length_append,List.length_singleton,extW_len b j];omega
theorem getD_app {l m:List Nat} {i:Nat} (h:i<l.length):(l++m).getD i 0=l.getD i 0:=by
 unfold List.getD;rw [List.getElem?_append_left h]
theorem getD_last (l:List Nat) (x:Nat):(l++[x]).getD l.length 0=x:=by
 unfold List.getD;simp
theorem extW_get (b:List Nat) (j:Nat):∀ d i,i<b.length+j->(extW b (j+d)).getD i 0=(extW b j).getD i 0
 | 0,_,_=>rfl
 | d+1,i,hi=>by
   rw [<-Nat.add_assoc]
   show (extW b (j+d)++_).getD i 0=_
   rw [getD_app (by rw [extW_len];omega)]
   exact extW_get b j d i hi
def extA (b:List Nat) (i:Nat):Nat:=(extW b 48).getD i 0
theorem extA_lo {b:List Nat} (hb:b.length=16) {i:Nat} (hi:i<16):extA b i=b.getD i 0:=extW_get b 0 48 i (by omega)
theorem extA_hi {b:List Nat} (hb:b.length=16) {t:Nat} (h1:16<=t) (h2:t<64):extA b t=(extA b (t-16)+small (extA b (t-15)) 7 18 3+extA b (t-7)+small (extA b (t-2)) 17 19 10)%4294967296:=by
 have e:∀ i,i<t->extA b i=(extW b (t-16)).getD i 0:=fun i hi=>by
  unfold extA
  have:=extW_get b (t-16) (48-(t-16)) i (by omega)
  rwa [show t-16+(48-(t-16))=48 by omega] at this
 have e2:extA b t=(extW b (t-16+1)).getD t 0:=by
  unfold extA
  have:=extW_get b (t-16+1) (48-(t-16+1)) t (by omega)
  rwa [show t-16+1+(48-(t-16+1))=48 by omega] at this
 rw [e2]
 show (extW b (t-16)++[nxW (extW b (t-16)) (16+(t-16))]).getD t 0=_
 have hl:t=(extW b (t-16)).length:=by rw [extW_len,hb];omega
 rw [show ((extW b (t-16)++[nxW (extW b (t-16)) (16+(t-16))]).getD t 0)=nxW (extW b (t-16)) (16+(t-16)) by
  conv=>lhs;arg 2;rw [hl]
  exact getD_last _ _]
 unfold nxW
 rw [show 16+(t-16)=t by omega,<-e (t-16) (by omega),<-e (t-15) (by omega),<-e (t-7) (by omega),<-e (t-2) (by omega)]
def refR (v:V8) (b:List Nat):Nat->V8
 | 0=>v
 | t+1=>refStep (refR v b t) (kN t) (extA b t)
theorem getD_set_eq {l:List Nat} {i x:Nat} (h:i<l.length):(l.set i x).getD i 0=x:=by
 unfold List.getD;rw [List.getElem?_set_self h];rfl
theorem getD_set_ne {l:List Nat} {i j x:Nat} (h:i≠j):(l.set i x).getD j 0=l.getD j 0:=by
 unfold List.getD;rw [List.getElem?_set_ne h]
theorem rnd_eq {v:V8} {b:List Nat} (hv:v.Ok) (hb:b.length=16) (h32:All32 b):∀ t,t<=64->(rndN v b t).1=refR v b t/\∀ i,t<=i+16->i<max t 16->(rndN v b t).2.getD (i%16) 0=extA b i
 | 0,_=>⟨rfl,fun i _ hi=>by
    have:i<16:=by omega
    rw [Nat.mod_eq_of_lt this]
    exact (extA_lo hb this).symm⟩
 | t+1,ht=>by
   obtain ⟨h1,h2⟩:=rnd_eq hv hb h32 t (by omega)
   obtain ⟨o1,o2,o3⟩:=rndN_ok hv h32 t
   have hw:wAt (rndN v b t).2 t=extA b t:=by
    unfold wAt
    by_cases h16:t<16
    ·rw [if_pos h16];exact h2 t (by omega) (by omega)
    ·rw [if_neg h16,extA_hi hb (by omega) (by omega)]
     have x0:=h2 (t-16) (by omega) (by omega)
     have x1:=h2 (t-15) (by omega) (by omega)
     have x2:=h2 (t-7) (by omega) (by omega)
     have x3:=h2 (t-2) (by omega) (by omega)
     rw [show (t-16)%16=t%16 by omega] at x0
     rw [show (t-15)%16=(t+1)%16 by omega] at x1
     rw [show (t-7)%16=(t+9)%16 by omega] at x2
     rw [show (t-2)%16=(t+14)%16 by omega] at x3
     unfold laterN laterX add32
     rw [x0,x1,x2,x3]
     omega
   refine ⟨?_,fun i hi1 hi2=>?_⟩
   ·show (rndN v b t).1.next (kN t) (wAt (rndN v b t).2 t)=refStep (refR v b t) (kN t) (extA b t)
    rw [hw,step_eq o1,h1]
   ·show (wNext (rndN v b t).2 t).getD (i%16) 0=_
    unfold wNext
    by_cases h16:t<16
    ·rw [if_pos h16];exact h2 i (by omega) (by omega)
    ·rw [if_neg h16]
     by_cases hit:i=t
     ·subst hit
      rw [getD_set_eq (by rw [o3,hb];exact Nat.mod_lt _ (by decide))]
      unfold wAt at hw
      rwa [if_neg h16] at hw
     ·rw [getD_set_ne (by omega)]
      exact h2 i (by omega) (by omega)
def refBlk (h b:List Nat):List Nat:=addTo h (refR (V8.of h) b 64).list 8
theorem stir_eq {h b:List Nat} {n:Nat} (hh:All32 h) (hb:b.length=16) (h32:All32 b):(Pn.stir ⟨h,b,n⟩).h=refBlk h b:=by
 unfold Pn.stir Pn.stirM refBlk
 rw [(rnd_eq (V8.of_ok hh) hb h32 64 (by decide)).1]
def w4 (c0 c1 c2 c3:Nat):Nat:=c0*16777216+c1*65536+c2*256+c3
def wordsL:List Nat->List Nat
 | c0::c1::c2::c3::l=>w4 c0 c1 c2 c3::wordsL l
 | _=>[]
def Pn.word (p:Pn) (x:Nat):Pn:=if p.n+4=64 then (Pn.stir ⟨p.h,p.W.set (p.n / 4) x,p.n+4⟩).zero else ⟨p.h,p.W.set (p.n / 4) x,p.n+4⟩
theorem zero_h (q:Pn):q.zero.h=q.h:=rfl
theorem set_set' (l:List Nat) (i x y:Nat):(l.set i x).set i y=l.set i y:=by simp
theorem more8_four (x c0 c1 c2 c3:Nat) (h0:c0<256) (h1:c1<256) (h2:c2<256) (h3:c3<256):more8 (more8 (more8 (more8 x c0) c1) c2) c3=w4 c0 c1 c2 c3:=by
 unfold more8 w4;omega
theorem put_four {p:Pn} (h:p.Ok) (hn:p.n%4=0) (c0 c1 c2 c3:Nat) (h0:c0<256) (h1:c1<256) (h2:c2<256) (h3:c3<256):(((p.put c0).put c1).put c2).put c3=p.word (w4 c0 c1 c2 c3):=by
 have hlt:=h.n
 have hl:=h.W
 obtain ⟨hh,W,n⟩:=p
 simp only at hn hlt hl
 obtain ⟨i,rfl⟩:∃ i,n=4*i:=⟨n / 4,by omega⟩
 have e0:(Pn.mk hh W (4*i)).put c0=⟨hh,W.set i (more8 (W.getD i 0) c0),4*i+1⟩:=by
  unfold Pn.put
  rw [if_neg (by show ¬4*i+1=64;omega)]
  simp only [Pn.fed,show 4*i / 4=i by omega]
 have e1:∀ x,(Pn.mk hh (W.set i x) (4*i+1)).put c1=⟨hh,W.set i (more8 x c1),4*i+2⟩:=fun x=>by
  unfold Pn.put
  rw [if_neg (by show ¬4*i+1+1=64;omega)]
  simp only [Pn.fed,show (4*i+1) / 4=i by omega,set_set',getD_set_eq (show i<W.length by omega)]
 have e2:∀ x,(Pn.mk hh (W.set i x) (4*i+2)).put c2=⟨hh,W.set i (more8 x c2),4*i+3⟩:=fun x=>by
  unfold Pn.put
  rw [if_neg (by show ¬4*i+2+1=64;omega)]
  simp only [Pn.fed,show (4*i+2) / 4=i by omega,set_set',getD_set_eq (show i<W.length by omega)]
 rw [e0,e1,e2]
 unfold Pn.put Pn.word
 simp only [Pn.fed,show (4*i+3) / 4=i by omega,show 4*i / 4=i by omega,set_set',getD_set_eq (show i<W.length by omega),more8_four _ _ _ _ _ h0 h1 h2 h3]
theorem word_ok {p:Pn} (h:p.Ok) {x:Nat} (hx:x<4294967296) (hn:p.n%4=0):(p.word x).Ok/\(p.word x).n%4=0/\(p.word x).n=(p.n+4)%64:=by
 have hW:All32 (p.W.set (p.n / 4) x):=h.W32.set _ hx
 have hlt:=h.n
 unfold Pn.word
 split
 ·next hq=>exact ⟨Pn.stir_ok (p:=⟨p.h,p.W.set (p.n / 4) x,p.n+4⟩) h.h (by rw [List.length_set];exact h.W) h.h32 hW,rfl,by show 0=_;omega⟩
 ·next hq =>
  exact ⟨⟨h.h,by rw [List.length_set];exact h.W,h.h32,hW,by show p.n+4<64;omega⟩,by show (p.n+4)%4=0;omega,by show p.n+4=_;omega⟩
theorem w4_lt {c0 c1 c2 c3:Nat} (h0:c0<256) (h1:c1<256) (h2:c2<256) (h3:c3<256):w4 c0 c1 c2 c3<4294967296:=by unfold w4;omega
theorem puts_words:∀ (m:Nat) (l:List Nat) (p:Pn),l.length=4*m->p.Ok->p.n%4=0->(∀ c∈l,c<256)->p.puts l=(wordsL l).foldl Pn.word p
 | 0,l,p,hl,_,_,_=>by
   have:l=[]:=List.length_eq_zero_iff.1 (by omega)
   subst this;rfl
 | m+1,c0::c1::c2::c3::l,p,hl,hp,hn,hc=>by
   have h0:=hc c0 (by simp)
   have h1:=hc c1 (by simp)
   have h2:=hc c2 (by simp)
   have h3:=hc c3 (by simp)
   obtain ⟨k1,k2,-⟩:=word_ok hp (w4_lt h0 h1 h2 h3) hn
   show ((((p.put c0).put c1).put c2).put c3).puts l=_
   rw [put_four hp hn _ _ _ _ h0 h1 h2 h3]
   simp only [List.length_cons] at hl
   exact puts_words m l (p.word (w4 c0 c1 c2 c3)) (by omega) k1 k2 fun c hc'=>hc c (by simp [hc'])
 | m+1,[],_,hl,_,_,_=>by simp at hl
 | m+1,[_],_,hl,_,_,_=>by simp at hl;omega
 | m+1,[_,_],_,hl,_,_,_=>by simp at hl;omega
 | m+1,[_,_,_],_,hl,_,_,_=>by simp at hl;omega
theorem wordsL_lt:∀ (m:Nat) (l:List Nat),l.length=4*m->(∀ c∈l,c<256)->(wordsL l).length=m/\All32 (wordsL l)
 | 0,l,hl,_=>by
   have:l=[]:=List.length_eq_zero_iff.1 (by omega)
   subst this;exact ⟨rfl,fun x hx=>by cases hx⟩
 | m+1,c0::c1::c2::c3::l,hl,hc=>by
   simp only [List.length_cons] at hl
   obtain ⟨h1,h2⟩:=wordsL_lt m l (by omega) fun c hc'=>hc c (by simp [hc'])
   refine ⟨by simp [wordsL,h1],fun x hx=>?_⟩
   simp only [wordsL,List.mem_cons] at hx
   rcases hx with rfl|hx
   ·exact w4_lt (hc c0 (by simp)) (hc c1 (by simp)) (hc c2 (by simp)) (hc c3 (by simp))
   ·exact h2 x hx
 | m+1,[],hl,_=>by simp at hl
 | m+1,[_],hl,_=>by simp at hl;omega
 | m+1,[_,_],hl,_=>by simp at hl;omega
 | m+1,[_,_,_],hl,_=>by simp at hl;omega
theorem words_part:∀ (b:List Nat) (p:Pn),p.Ok->All32 b->b≠[]->p.n+4*b.length=64->(b.foldl Pn.word p).Ok/\(b.foldl Pn.word p).n=0/\(b.foldl Pn.word p).h=(Pn.stir ⟨p.h,p.W.take (p.n / 4)++b,64⟩).h
 | [],_,_,_,h,_=>absurd rfl h
 | [x],p,hp,hb,_,hn=>by
   simp only [List.length_singleton] at hn
   obtain ⟨k1,-,k3⟩:=word_ok hp (hb x (by simp)) (by omega)
   refine ⟨k1,by rw [List.foldl_cons,List.foldl_nil,k3];omega,?_⟩
   show (p.word x).h=_
   unfold Pn.word
   rw [if_pos (by omega)]
   have:p.W.set (p.n / 4) x=p.W.take (p.n / 4)++[x]:=by
    have hl:=hp.W
    have hi:p.n / 4=15:=by omega
    rw [hi]
    apply List.ext_getElem?
    intro j
    by_cases hj:j=15
    ·subst hj
     rw [List.getElem?_set_self (by omega),List.getElem?_append_right (by simp;omega)]
     simp [hl]
    ·rw [List.getElem?_set_ne (by omega)]
     by_cases hj2:j<15
     ·rw [List.getElem?_append_left (by simp;omega),List.getElem?_take_of_lt hj2]
     ·rw [List.getElem?_eq_none (by omega),List.getElem?_eq_none (by simp;omega)]
   rw [this,zero_h,show p.n+4=64 by omega]
 | x::y::b,p,hp,hb,_,hn=>by
   simp only [List.length_cons] at hn
   obtain ⟨k1,k2,k3⟩:=word_ok hp (hb x (by simp)) (by omega)
   have hlt:=hp.n
   have e:p.word x=⟨p.h,p.W.set (p.n / 4) x,p.n+4⟩:=by unfold Pn.word;rw [if_neg (by omega)]
   obtain ⟨r1,r2,r3⟩:=words_part (y::b) (p.word x) k1 (fun z hz=>hb z (by simp at hz ⊢;right;exact hz)) (by simp) (by rw [e];simp only [List.length_cons];omega)
   refine ⟨r1,r2,?_⟩
   rw [List.foldl_cons,r3,e]
   have:(p.W.set (p.n / 4) x).take ((p.n+4) / 4)++y::b=p.W.take (p.n / 4)++x::y::b:=by
    have hl:=hp.W
    rw [show (p.n+4) / 4=p.n / 4+1 by omega]
    have h1:p.n / 4<p.W.length:=by omega
    rw [List.take_set]
    apply List.ext_getElem?
    intro j
    by_cases hj:j<p.n / 4
    ·rw [List.getElem?_append_left (by simp;omega),List.getElem?_append_left (by simp;omega),List.getElem?_set_ne (by omega),List.getElem?_take_of_lt (by omega),List.getElem?_take_of_lt hj]
    ·by_cases hj2:j=p.n / 4
     ·subst hj2
      rw [List.getElem?_append_left (by simp;omega),List.getElem?_set_self (by simp;omega),List.getElem?_append_right (by simp;omega)]
      simp [Nat.min_eq_left (Nat.le_of_lt h1)]
     ·rw [List.getElem?_append_right (by simp;omega),List.getElem?_append_right (by simp;omega)]
      simp only [List.length_set,List.length_take]
      rw [show j-min (p.n / 4) p.W.length=(j-min (p.n / 4+1) p.W.length)+1 by omega,List.getElem?_cons_succ]
   show (Pn.stir ⟨p.h,(p.W.set (p.n / 4) x).take ((p.n+4) / 4)++y::b,64⟩).h=_
   rw [this]
def refAll (h:List Nat) (ws:List Nat):Nat->List Nat
 | 0=>h
 | m+1=>refBlk (refAll h ws m) ((ws.drop (16*m)).take 16)
theorem refBlk_ok {h b:List Nat} (hh:All32 h) (hl:h.length=8):All32 (refBlk h b)/\(refBlk h b).length=8:=⟨addTo_32 hh _ _,(addTo_len _ _ _).trans hl⟩
theorem refAll_ok {h ws:List Nat} (hh:All32 h) (hl:h.length=8):∀ m,All32 (refAll h ws m)/\(refAll h ws m).length=8
 | 0=>⟨hh,hl⟩
 | m+1=>refBlk_ok (refAll_ok hh hl m).1 (refAll_ok hh hl m).2
theorem all_blocks {ws:List Nat} (hw:All32 ws) {p:Pn} (hp:p.Ok) (hn:p.n=0):∀ m,16*m<=ws.length->((ws.take (16*m)).foldl Pn.word p).Ok/\((ws.take (16*m)).foldl Pn.word p).n=0/\((ws.take (16*m)).foldl Pn.word p).h=refAll p.h ws m
 | 0,_=>⟨hp,hn,rfl⟩
 | m+1,hm=>by
   obtain ⟨h1,h2,h3⟩:=all_blocks hw hp hn m (by omega)
   have e:ws.take (16*(m+1))=ws.take (16*m)++(ws.drop (16*m)).take 16:=by
    rw [show 16*(m+1)=16*m+16 by omega,List.take_add]
   have hbl:((ws.drop (16*m)).take 16).length=16:=by rw [List.length_take,List.length_drop];omega
   have hb32:All32 ((ws.drop (16*m)).take 16):=fun x hx=>hw x (List.mem_of_mem_drop (List.mem_of_mem_take hx))
   rw [e,List.foldl_append]
   generalize (ws.take (16*m)).foldl Pn.word p=q at *
   obtain ⟨r1,r2,r3⟩:=words_part _ q h1 hb32 (by intro h0;rw [h0] at hbl;cases hbl) (by rw [hbl,h2])
   refine ⟨r1,r2,?_⟩
   rw [r3,h2]
   simp only [Nat.zero_div,List.take_zero,List.nil_append]
   rw [stir_eq h1.h32 hbl hb32,h3]
   rfl
theorem puts_n:∀ (l:List Nat) (p:Pn),p.n<64->(p.puts l).n=(p.n+l.length)%64
 | [],p,h=>by show p.n=_;rw [List.length_nil,Nat.add_zero,Nat.mod_eq_of_lt h]
 | c::l,p,h=>by
   have e:=Pn.put_n p c
   show ((p.put c).puts l).n=_
   rw [puts_n l (p.put c) (by rw [e];split <;> omega),e,List.length_cons]
   split <;> omega
theorem puts_app (p:Pn) (l m:List Nat):p.puts (l++m)=(p.puts l).puts m:=by simp [Pn.puts]
theorem puts_one (p:Pn) (c:Nat):p.puts [c]=p.put c:=rfl
def padL (s:ByteArray):List Nat:=byteL s++128::List.replicate (zerosN ((s.size+1)%64)) 0
def fullL (s:ByteArray):List Nat:=padL s++sizeL s.size
theorem byteL_len (s:ByteArray):(byteL s).length=s.size:=by unfold byteL;rw [List.length_map,Lib.size_eq]
theorem padL_len (s:ByteArray):(padL s).length%64=56:=by
 unfold padL zerosN
 simp only [List.length_append,List.length_cons,List.length_replicate,byteL_len]
 omega
theorem fullL_len (s:ByteArray):(fullL s).length%64=0:=by
 have:=padL_len s
 unfold fullL
 rw [List.length_append,show (sizeL s.size).length=8 by simp [sizeL]]
 omega
theorem fullL_lt (s:ByteArray):∀ c∈fullL s,c<256:=by
 intro c hc
 unfold fullL padL at hc
 rcases List.mem_append.1 hc with hc|hc
 ·rcases List.mem_append.1 hc with hc|hc
  ·exact byteL_lt s c hc
  ·rcases List.mem_cons.1 hc with rfl|hc
   ·decide
   ·rw [List.eq_of_mem_replicate hc];decide
 ·exact sizeL_lt _ c hc
theorem pnA_n (s:ByteArray):(pnA s).n=(s.size+1)%64:=by
 unfold pnA
 rw [<-puts_one,<-puts_app,puts_n _ _ (by decide),List.length_append,byteL_len]
 show (0+(s.size+1))%64=_
 rw [Nat.zero_add]
theorem pnC_full (s:ByteArray):pnC s=pn0.puts (fullL s):=by
 unfold pnC pnB fullL padL
 rw [pnA_n]
 unfold pnA
 rw [<-puts_one,<-puts_app,<-puts_app,<-puts_app]
 simp
theorem wordsL_app:∀ (m:Nat) (l r:List Nat),l.length=4*m->wordsL (l++r)=wordsL l++wordsL r
 | 0,l,r,hl=>by
   have:l=[]:=List.length_eq_zero_iff.1 (by omega)
   subst this;rfl
 | m+1,c0::c1::c2::c3::l,r,hl=>by
   simp only [List.length_cons] at hl
   show w4 c0 c1 c2 c3::wordsL (l++r)=_
   rw [wordsL_app m l r (by omega)];rfl
 | m+1,[],_,hl=>by simp at hl
 | m+1,[_],_,hl=>by simp at hl;omega
 | m+1,[_,_],_,hl=>by simp at hl;omega
 | m+1,[_,_,_],_,hl=>by simp at hl;omega
theorem sizeL_words (n:Nat) (h:n*8<18446744073709551616):wordsL (sizeL n)=[n*8 / 4294967296,n*8%4294967296]:=by
 show wordsL [n*8 / 2 ^ 56%256,n*8 / 2 ^ 48%256,n*8 / 2 ^ 40%256,n*8 / 2 ^ 32%256,n*8 / 2 ^ 24%256,n*8 / 2 ^ 16%256,n*8 / 2 ^ 8%256,n*8 / 2 ^ 0%256]=_
 simp only [wordsL,w4,List.cons.injEq,and_true]
 omega
def refWords (s:ByteArray):List Nat:=wordsL (padL s)++[s.size*8 / 4294967296,s.size*8%4294967296]
theorem full_words (s:ByteArray) (h:s.size*8<18446744073709551616):wordsL (fullL s)=refWords s:=by
 have:=padL_len s
 unfold fullL refWords
 rw [wordsL_app ((padL s).length / 4) _ _ (by omega),sizeL_words _ h]
theorem pr_ref (s:ByteArray) (h:s.size*8<18446744073709551616):prB s=⟨(outL (refAll pn0.h (refWords s) ((refWords s).length / 16))).toArray⟩:=by
 have h0:=fullL_len s
 obtain ⟨q1,q2⟩:=wordsL_lt ((fullL s).length / 4) (fullL s) (by omega) (fullL_lt s)
 obtain ⟨-,-,r3⟩:=all_blocks q2 pn0_ok rfl ((wordsL (fullL s)).length / 16) (by omega)
 have e:(wordsL (fullL s)).take (16*((wordsL (fullL s)).length / 16))=wordsL (fullL s):=List.take_of_length_le (by rw [q1];omega)
 rw [e,<-puts_words ((fullL s).length / 4) (fullL s) pn0 (by omega) pn0_ok rfl (fullL_lt s),<-pnC_full,full_words s h] at r3
 unfold prB
 rw [r3]
theorem low_c (x:Nat) (w:World):Calls Tryz.prog 231 #[.int .u64 (x:Int)] w fun e w'=>e=.returned (.int .u64 ((x%4294967296:Nat):Int))/\w=w':=by
 go_enter Tryz.func231,Tryz.ntmps231
 go_wp2_with fail
 go_ret
 exact ⟨by simp,rfl⟩
theorem rotr_lt2 (x n:Nat) (hx:x<4294967296):rotr x n<8589934592:=by
 unfold rotr
 have h1:x*2 ^ (32-n)%4294967296<4294967296:=Nat.mod_lt _ (by decide)
 have h2:x / 2 ^ n<=x:=Nat.div_le_self _ _
 omega
theorem right_c (x n:Nat) (w:World) (hx:x<4294967296) (hn:n<=31):Calls Tryz.prog 264 #[.int .u64 (x:Int),.int .u64 (n:Int)] w fun e w'=>e=.returned (.int .u64 ((rotr x n:Nat):Int))/\w=w':=by
 have hp:x*2 ^ (32-n)<18446744073709551616:=by
  have h1:(2:Nat) ^ (32-n)<=2 ^ 32:=Nat.pow_le_pow_right (by decide) (by omega)
  have h2:x*2 ^ (32-n)<=x*4294967296:=Nat.mul_le_mul_left _ h1
  omega
 have e1:IntKind.u64.wrap ((x:Int)*2 ^ (32-n))=((x*2 ^ (32-n):Nat):Int):=by
  have:=wrap_u64 (v:=x*2 ^ (32-n)) hp
  rw [<-this];push_cast;rfl
 have LW:=low_c (x*2 ^ (32-n)) w
 have e0:((x*2 ^ (32-n):Nat):Int)=(x:Int)*2 ^ (32-n):=by push_cast;rfl
 rw [e0] at LW e1
 have hr:=rotr_lt2 x n hx
 have e3:((x:Int)*2 ^ (32-n))%4294967296+(x:Int) / 2 ^ n=((rotr x n:Nat):Int):=by
  rw [<-e0]
  unfold rotr
  rw [Int.natCast_add,Int.natCast_emod,Int.natCast_ediv,Int.natCast_pow]
  rfl
 have e2:IntKind.u64.wrap (((x:Int)*2 ^ (32-n))%4294967296+(x:Int) / 2 ^ n)=((rotr x n:Nat):Int):=by
  rw [e3]
  exact wrap_u64 (by omega)
 have HE2:=Hd e2
 clear hp hr e2 e3
 go_enter Tryz.func264,Tryz.ntmps264
 go_wp2_with fail
 refine LW.mono ?_
 rintro e w1 ⟨rfl,rfl⟩
 clear LW
 go_wp2_with fail
 go_ret
 exact ⟨congrArg (fun z=>Ending.returned (.int .u64 z)) HE2.out,rfl⟩
theorem xor64 (x y:Nat) (hx:x<4294967296) (hy:y<4294967296):bits .xor .u64 (x:Int) (y:Int)=((x ^^^ y:Nat):Int):=bits_xor_u64_nat x y (by omega) (by omega)
theorem small_c (x a b c:Nat) (w:World) (hx:x<4294967296) (ha:1<=a/\a<=31) (hb:1<=b/\b<=31) (hc:c<=31):Calls Tryz.prog 232 #[.int .u64 (x:Int),.int .u64 (a:Int),.int .u64 (b:Int),.int .u64 (c:Int)] w fun e w'=>e=.returned (.int .u64 ((small x a b c:Nat):Int))/\w=w':=by
 have R1:=right_c x a w hx ha.2
 have R2:=right_c x b w hx hb.2
 have e1:=rot_lt x a ha.1 ha.2 hx
 have e2:=rot_lt x b hb.1 hb.2 hx
 have e3:x / 2 ^ c<4294967296:=Nat.lt_of_le_of_lt (Nat.div_le_self _ _) hx
 have v1:=xor64 _ _ e1 e2
 have v2:=xor64 _ _ (xor_lt e1 e2) e3
 have hm:min c 64=c:=by omega
 have e4:((x / 2 ^ c:Nat):Int)=(x:Int) / 2 ^ c:=by rw [Int.natCast_ediv,Int.natCast_pow];rfl
 rw [e4] at v2
 have HE:Hid (small x a b c=(rotr x a ^^^ rotr x b) ^^^ (x / 2 ^ c)):=Hd rfl
 clear hx ha hb hc e1 e2 e3 e4
 generalize rotr x a=ra at *
 generalize rotr x b=rb at *
 generalize ra ^^^ rb=rab at *
 go_enter Tryz.func232,Tryz.ntmps232
 go_wp2_with fail
 refine R1.mono ?_
 rintro e w1 ⟨rfl,rfl⟩
 go_wp2_with fail
 refine R2.mono ?_
 rintro e w1 ⟨rfl,rfl⟩
 go_wp2_with fail
 go_ret
 exact ⟨by rw [HE.out,<-v2];rfl,rfl⟩
theorem great_c (x a b c:Nat) (w:World) (hx:x<4294967296) (ha:1<=a/\a<=31) (hb:1<=b/\b<=31) (hc:1<=c/\c<=31):Calls Tryz.prog 233 #[.int .u64 (x:Int),.int .u64 (a:Int),.int .u64 (b:Int),.int .u64 (c:Int)] w fun e w'=>e=.returned (.int .u64 ((great x a b c:Nat):Int))/\w=w':=by
 have R1:=right_c x a w hx ha.2
 have R2:=right_c x b w hx hb.2
 have R3:=right_c x c w hx hc.2
 have e1:=rot_lt x a ha.1 ha.2 hx
 have e2:=rot_lt x b hb.1 hb.2 hx
 have e3:=rot_lt x c hc.1 hc.2 hx
 have v1:=xor64 _ _ e1 e2
 have v2:=xor64 _ _ (xor_lt e1 e2) e3
 have HE:Hid (great x a b c=(rotr x a ^^^ rotr x b) ^^^ rotr x c):=Hd rfl
 clear hx ha hb hc e1 e2 e3
 generalize rotr x a=ra at *
 generalize rotr x b=rb at *
 generalize rotr x c=rc at *
 generalize ra ^^^ rb=rab at *
 go_enter Tryz.func233,Tryz.ntmps233
 go_wp2_with fail
 refine R1.mono ?_
 rintro e w1 ⟨rfl,rfl⟩
 go_wp2_with fail
 refine R2.mono ?_
 rintro e w1 ⟨rfl,rfl⟩
 go_wp2_with fail
 refine R3.mono ?_
 rintro e w1 ⟨rfl,rfl⟩
 go_wp2_with fail
 go_ret
 exact ⟨by rw [HE.out,<-v2];rfl,rfl⟩
set_option maxHeartbeats 2000000
def valD (c:Nat):Int:=if 48<=c/\c<=57 then (c:Int)-48 else if 97<=c/\c<=102 then (c:Int)-87 else -1
theorem valD_lt (c:Nat):-1<=valD c/\valD c<=15:=by unfold valD;split <;> (try split) <;> omega
theorem value_c (c:Nat) (w:World) (hc:c<256):Calls Tryz.prog 265 #[.int .u8 (c:Int)] w fun e w'=>e=.returned (.int .i64 (valD c))/\w=w':=by
 by_cases h1:48<=c
 ·have d1:decide ((c:Int) >= 48)=true:=decide_eq_true (by omega)
  by_cases h2:c<=57
  ·have d2:decide ((c:Int)<=57)=true:=decide_eq_true (by omega)
   have hv:valD c=(c:Int)-48:=by unfold valD;rw [if_pos ⟨h1,h2⟩]
   have w1:IntKind.i64.wrap (c:Int)=(c:Int):=wrap_small (x:=(c:Int)) (by omega) (by omega)
   have w2:wrap64 ((c:Int)-48)=(c:Int)-48:=by unfold wrap64;omega
   rw [hv]
   clear h1 h2 hc hv
   go_enter Tryz.func265,Tryz.ntmps265
   go_wp2_with fail
   go_ret
   exact ⟨congrArg (fun z=>Ending.returned (.int .i64 z)) w2,rfl⟩
  ·have d2:decide ((c:Int)<=57)=false:=decide_eq_false (by omega)
   by_cases h3:97<=c
   ·have d3:decide ((c:Int) >= 97)=true:=decide_eq_true (by omega)
    by_cases h4:c<=102
    ·have d4:decide ((c:Int)<=102)=true:=decide_eq_true (by omega)
     have hv:valD c=(c:Int)-87:=by unfold valD;rw [if_neg (by omega),if_pos ⟨h3,h4⟩]
     have w1:IntKind.i64.wrap (c:Int)=(c:Int):=wrap_small (x:=(c:Int)) (by omega) (by omega)
     have w2:wrap64 ((c:Int)-87)=(c:Int)-87:=by unfold wrap64;omega
     rw [hv]
     clear h1 h2 h3 h4 hc hv
     go_enter Tryz.func265,Tryz.ntmps265
     go_wp2_with fail
     go_ret
     exact ⟨congrArg (fun z=>Ending.returned (.int .i64 z)) w2,rfl⟩
    ·have d4:decide ((c:Int)<=102)=false:=decide_eq_false (by omega)
     have hv:valD c=-1:=by unfold valD;rw [if_neg (by omega),if_neg (by omega)]
     rw [hv]
     clear h1 h2 h3 h4 hc hv
     go_enter Tryz.func265,Tryz.ntmps265
     go_wp2_with fail
     go_ret
     exact ⟨rfl,rfl⟩
   ·have d3:decide ((c:Int) >= 97)=false:=decide_eq_false (by omega)
    have hv:valD c=-1:=by unfold valD;rw [if_neg (by omega),if_neg (by omega)]
    rw [hv]
    clear h1 h2 h3 hc hv
    go_enter Tryz.func265,Tryz.ntmps265
    go_wp2_with fail
    go_ret
    exact ⟨rfl,rfl⟩
 ·have d1:decide ((c:Int) >= 48)=false:=decide_eq_false (by omega)
  have d3:decide ((c:Int) >= 97)=false:=decide_eq_false (by omega)
  have hv:valD c=-1:=by unfold valD;rw [if_neg (by omega),if_neg (by omega)]
  rw [hv]
  clear h1 hc hv
  go_enter Tryz.func265,Tryz.ntmps265
  go_wp2_with fail
  go_ret
  exact ⟨rfl,rfl⟩
def numS (s:List Nat × Nat × Nat) (c:UInt8):List Nat × Nat × Nat :=
 if valD c.toNat<0 then s else if s.2.2+1=8 then (s.1++[16*s.2.1+(valD c.toNat).toNat],0,0) else (s.1,16*s.2.1+(valD c.toNat).toNat,s.2.2+1)
def numK (l:List UInt8):List Nat × Nat × Nat:=l.foldl numS ([],0,0)
def numL (l:List UInt8):List Nat:=(numK l).1
structure NumOk (s:List Nat × Nat × Nat) (k:Nat):Prop where
 dg:s.2.2<=7
 n:s.2.1<16 ^ s.2.2
 len:s.1.length<=k
theorem NumOk.step {s:List Nat × Nat × Nat} {k:Nat} (h:NumOk s k) (c:UInt8):NumOk (numS s c) (k+1):=by
 obtain ⟨h1,h2,h3⟩:=h
 have hv:=valD_lt c.toNat
 unfold numS
 split
 ·exact ⟨h1,h2,by omega⟩
 ·split
  ·exact ⟨by simp,by simp,by simp;omega⟩
  ·rename_i hn h8
   refine ⟨by simp only;omega,?_,by simp only;omega⟩
   simp only
   rw [Nat.pow_succ]
   omega
theorem numK_snoc (l:List UInt8) (c:UInt8):numK (l++[c])=numS (numK l) c:=by unfold numK;rw [List.foldl_append];rfl
theorem numK_ok (l:List UInt8):∀ k,k<=l.length->NumOk (numK (l.take k)) k
 | 0,_=>⟨by simp [numK],by simp [numK],by simp [numK]⟩
 | k+1,h=>by
   rw [List.take_succ_eq_append_getElem h,numK_snoc]
   exact (numK_ok l k (by omega)).step _
theorem infoU64:(Tryz.prog.info? 134).map (fun i=>(i.zero,i.size,i.bytes))=some (some (.int .u64 0),1,8):=by kernel_rfl
def NmO (w:World) (o:List Nat) (v:Value) (wr:World):Prop:=wr.ownsRow w.heap.size 134 1 v o.length (u64C o)/\Below w.heap.size w wr
theorem NmO.nil (w wr:World) (h:Below w.heap.size w wr):NmO w [] (.slice none 0 0) wr:=⟨World.ownsRow_nil _ _ _ _,h⟩
theorem NmO.snoc {w W W5:World} {o:List Nat} {v v5:Value} {x:Nat} (h:NmO w o v W) (ob:Obj) (hg:(W.alloc ob).grownBy W5 v.ownBlock) (h5:W5.ownsRow w.heap.size 134 1 v5 (o.length+1) (u64C o++[.int .u64 (x:Int)])):NmO w (o++[x]) v5 W5 :=
 ⟨by rw [List.length_append,List.length_singleton,u64C_snoc];exact h5,(h.2.alloc h.2.size ob).grown hg (by have:=h.2.size;simp;omega) fun j e=>(h.1.lt j e).1⟩
theorem numbers_c (s:ByteArray) (w:World) (hs:s.size<=1000000):Calls Tryz.prog 234 #[.string s] w fun e w'=>∃ v,e=.returned v/\Hid (NmO w (numL s.data.toList) v w'):=by
 obtain ⟨jU,hjU,hU0,hU1,hU2⟩:=info_parts infoU64
 have HSL:=Hd hs
 have hl:=Lib.size_eq s
 have R0:Hid (NmO w (numK (s.data.toList.take 0)).1 (.slice none 0 0) w):=Hd (NmO.nil _ _ (Below.refl _ _))
 go_enter Tryz.func234,Tryz.ntmps234
 go_wp2_with fail
 go_loopg [3,4,5,6] s.size (fun g s3 s4 s5 s6 wr=>∃ (k:Nat) (v:Value),g=s.size-k/\k<=s.size/\s6=.int .i64 (k:Int)/\v=s3/\s4=.int .u64 ((numK (s.data.toList.take k)).2.1:Nat)/\s5=.int .i64 ((numK (s.data.toList.take k)).2.2:Nat)/\Hid (NmO w (numK (s.data.toList.take k)).1 v wr))
 case atStart=>exact ⟨0,_,rfl,Nat.zero_le _,rfl,rfl,rfl,rfl,R0⟩
 case round =>
  obtain ⟨k,v,rfl,hk,rfl,rfl,rfl,rfl,HR⟩:=hrel
  clear R0
  have hok:=numK_ok s.data.toList k (by omega)
  by_cases hlt:k<s.size
  ·obtain ⟨c,hc,-⟩:=byteL_at hlt
   have hidx:=fun W=>strIdx (P:=Tryz.prog) 9 s k c Tryz.underlying9 hc W
   have hce:s.data.toList[k]'(by omega)=c:=by
    rw [getElem?_pos _ k hlt] at hc
    exact Option.some.inj hc
   have HT:Hid (numK (s.data.toList.take (k+1))=numS (numK (s.data.toList.take k)) c):=Hd (by
    rw [List.take_succ_eq_append_getElem (by omega),numK_snoc,hce])
   have HLT:=Hd hlt
   have hsm:k<=1000000:=by have:=HSL.out;omega
   have VC:=fun W=>value_c c.toNat W c.toNat_lt
   have hv:=valD_lt c.toNat
   obtain ⟨h7,hn,hlen⟩:=hok
   obtain ⟨ST,hST⟩:=exE (numK (s.data.toList.take k))
   rw [hST] at HT HR h7 hn hlen
   have hn2:ST.2.1<268435456:=Nat.lt_of_lt_of_le hn (by
    have:(16:Nat) ^ ST.2.2<=16 ^ 7:=Nat.pow_le_pow_right (by decide) h7
    omega)
   rw [hST]
   obtain ⟨NX,hNX⟩:=exE (numK (s.data.toList.take (k+1)))
   have HNX:=Hd hNX
   rw [hNX] at HT
   have HNS:Hid (numS ST c=if valD c.toNat<0 then ST else if ST.2.2+1=8 then (ST.1++[16*ST.2.1+(valD c.toNat).toNat],0,0) else (ST.1,16*ST.2.1+(valD c.toNat).toNat,ST.2.2+1)):=Hd rfl
   obtain ⟨d,hd⟩:=exE (valD c.toNat)
   rw [hd] at HNS VC hv
   obtain ⟨o,n,dg⟩:=ST
   simp only at HNS HR h7 hn2 hlen HT ⊢
   clear hST hNX hd hc hce hn hk hl
   by_cases hd0:d<0
   ·have d0:decide (d<0)=true:=decide_eq_true hd0
    have HN2:Hid (NX=(o,n,dg)):=Hd (by rw [HT.out,HNS.out,if_pos hd0])
    clear hd0 hv HNS HT h7 hn2 hlen
    go_wp2_with fail
    refine (VC _).mono ?_
    rintro e wa ⟨rfl,rfl⟩
    clear VC hidx hlt
    go_wp2_with fail
    go_roundg (s.size-(k+1))
    case measure=>have:=HLT.out;omega
    case rel=>exact ⟨k+1,_,rfl,HLT.out,by congr 1,rfl,by rw [HNX.out,HN2.out],by rw [HNX.out,HN2.out],by rw [HNX.out,HN2.out];exact HR⟩
   ·obtain ⟨m,rfl⟩:∃ m:Nat,d=(m:Int):=⟨d.toNat,by omega⟩
    have d0:decide ((m:Int)<0)=false:=decide_eq_false hd0
    have hm:m<=15:=by omega
    rw [Int.toNat_natCast] at HNS
    have hW:Hid ((16*(n:Int))%18446744073709551616=16*(n:Int)/\(m:Int)%18446744073709551616=(m:Int)/\(16*(n:Int)+(m:Int))%18446744073709551616=16*(n:Int)+(m:Int)):=Hd (by omega)
    clear hd0 hv
    by_cases h8:dg+1=8
    ·obtain rfl:dg=7:=by omega
     have HN2:Hid (NX=(o++[16*n+m],0,0)):=Hd (by rw [HT.out,HNS.out,if_neg (by omega),if_pos h8])
     have L1:=Hd (show o.length+1<=maxLen/\(o.length+1)*8<=140737488355328 from ⟨by unfold maxLen;omega,by omega⟩)
     clear h8 HNS HT h7 hn2 hlen hm
     go_wp2_with fail
     refine (VC _).mono ?_
     rintro e wa ⟨rfl,rfl⟩
     clear VC hidx hlt
     have HO:=Hd HR.out.1
     have HZ:=Hd HR.out.2.size
     have HAZ:Hid (∀ o:Obj,w.heap.size<=(wr.alloc o).heap.size):=Hd fun o=>by have:=HZ.out;simp;omega
     have HST:Hid (∀ ob W5 v5,(wr.alloc ob).grownBy W5 v.ownBlock->W5.ownsRow w.heap.size 134 1 v5 (o.length+1) (u64C o++[.int .u64 (16*(n:Int)+(m:Int))])->NmO w (o++[16*n+m]) v5 W5):=Hd fun ob W5 v5 hg h5=>HR.out.snoc ob hg (by push_cast;exact h5)
     obtain ⟨w16,wm,ws⟩:=hW.out
     clear HR hW
     go_wp2_with (first
      | (refine chkA 277 277 ⟨_,_,by with_reducible rfl⟩ ?_
         refine wpList_append_y (by rfl) _ _ _ rfl w.heap.size 134 jU _ 1 8 Tryz.underlying277 hjU hU0 hU1 hU2 rfl (by decide) _ _ _ (by rfl) (HO.out.alloc _) _ 1 _ (by rfl) (yields_boxL _ #[.int .u64 (16*(n:Int)+(m:Int))] _ 1 1) rfl (one1 _ rfl) L1.out.1 L1.out.2 (HAZ.out _) ?_
         intro v5 W5 ho5 hg5 ha5
         have HN5:=Hd (HST.out _ W5 v5 hg5 ho5)
         clear ho5 hg5 ha5))
     go_roundg (s.size-(k+1))
     case measure=>have:=HLT.out;omega
     case rel=>exact ⟨k+1,_,rfl,HLT.out,by congr 1,rfl,by rw [HNX.out,HN2.out];rfl,by rw [HNX.out,HN2.out];rfl,by rw [HNX.out,HN2.out];exact HN5⟩
    ·have HN2:Hid (NX=(o,16*n+m,dg+1)):=Hd (by rw [HT.out,HNS.out,if_neg (by omega),if_neg h8])
     have d8:((dg:Int)+1 == 8)=false:=by simp only [beq_eq_false_iff_ne,ne_eq];omega
     have hdg:dg<=6:=by omega
     clear h8 HNS HT h7 hn2 hlen hm
     go_wp2_with fail
     refine (VC _).mono ?_
     rintro e wa ⟨rfl,rfl⟩
     clear VC hidx hlt
     obtain ⟨w16,wm,ws⟩:=hW.out
     clear hW
     go_wp2_with fail
     go_roundg (s.size-(k+1))
     case measure=>have:=HLT.out;omega
     case rel=>exact ⟨k+1,_,rfl,HLT.out,by congr 1,rfl,by rw [HNX.out,HN2.out];push_cast;rfl,by rw [HNX.out,HN2.out];push_cast;rfl,by rw [HNX.out,HN2.out];exact HR⟩
  ·obtain rfl:k=s.size:=by omega
   have HG:Hid (NmO w (numL s.data.toList) v wr):=by
    rw [List.take_of_length_le (by omega)] at HR
    exact HR
   generalize numK (s.data.toList.take s.size)=ST at *
   clear HR hok hlt hk hl
   go_wp2_with fail
   go_ret
   exact ⟨_,rfl,HG⟩
theorem squares_c (w:World):Calls Tryz.prog 194 #[] w fun e w'=>∃ v,e=.returned v/\Hid (NmO w pn0.h v w'):=by
 go_enter Tryz.func194,Tryz.ntmps194
 go_wp2_with fail
 refine (numbers_c _ _ (by decide +kernel)).mono ?_
 rintro e w1 ⟨v,rfl,HE⟩
 have HG:Hid (NmO w pn0.h v w1):=HE
 clear HE
 go_wp2_with fail
 go_ret
 exact ⟨_,rfl,HG⟩
def kL:List Nat:=(List.range 64).map kN
theorem cubes1_c (w:World):Calls Tryz.prog 195 #[] w fun e w'=>∃ v,e=.returned v/\Hid (NmO w kL v w'):=by
 go_enter Tryz.func195,Tryz.ntmps195
 go_wp2_with fail
 refine (numbers_c _ _ (by decide +kernel)).mono ?_
 rintro e w1 ⟨v,rfl,HE⟩
 have HG:Hid (NmO w kL v w1):=HE
 clear HE
 go_wp2_with fail
 go_ret
 exact ⟨_,rfl,HG⟩
def padR (s:ByteArray) (j:Nat):List UInt8:=s.data.toList++128::List.replicate j 0
theorem padR_len (s:ByteArray) (j:Nat):(padR s j).length=s.size+1+j:=by
 unfold padR
 rw [List.length_append,List.length_cons,List.length_replicate,<-Lib.size_eq];omega
theorem padR_map (s:ByteArray):(padR s (zerosN ((s.size+1)%64))).map (fun c=>c.toNat)=padL s:=by
 unfold padR padL byteL
 rw [List.map_append,List.map_cons,List.map_replicate];rfl
theorem padR_succ (s:ByteArray) (j:Nat):padR s (j+1)=padR s j++[0]:=by
 unfold padR
 rw [List.replicate_succ'];simp
theorem wordsL_step {l:List Nat} {m:Nat} (h:4*m+3<l.length):wordsL (l.take (4*(m+1)))=wordsL (l.take (4*m))++[w4 (l.getD (4*m) 0) (l.getD (4*m+1) 0) (l.getD (4*m+2) 0) (l.getD (4*m+3) 0)]:=by
 have e:l.take (4*(m+1))=l.take (4*m)++[l.getD (4*m) 0,l.getD (4*m+1) 0,l.getD (4*m+2) 0,l.getD (4*m+3) 0]:=by
  have g:∀ i,i<l.length->l.take (i+1)=l.take i++[l.getD i 0]:=fun i hi=>by
   rw [List.take_succ_eq_append_getElem hi];unfold List.getD;rw [List.getElem?_eq_getElem hi];rfl
  rw [show 4*(m+1)=4*m+3+1 by omega,g _ h,g (4*m+2) (by omega),g (4*m+1) (by omega),g (4*m) (by omega)]
  simp
 rw [e,wordsL_app m _ _ (by rw [List.length_take];omega)]
 rfl
theorem byte_at {t:ByteArray} {i:Nat} (h:i<t.size):∃ c:UInt8,t[i]?=some c/\(t.data.toList.map fun c=>c.toNat).getD i 0=c.toNat:=by
 have hl:i<t.data.toList.length:=by rw [<-Lib.size_eq];exact h
 refine ⟨t.data.toList[i],by rw [getElem?_pos _ i h];rfl,?_⟩
 unfold List.getD
 rw [List.getElem?_map,List.getElem?_eq_getElem hl];rfl
theorem words_c (s:ByteArray) (w:World) (hs:s.size<=100000):Calls Tryz.prog 230 #[.string s] w fun e w'=>∃ v,e=.returned v/\Hid (NmO w (refWords s) v w'):=by
 obtain ⟨jU,hjU,hU0,hU1,hU2⟩:=info_parts infoU64
 have HSL:=Hd hs
 obtain ⟨z,hz⟩:=exE (zerosN ((s.size+1)%64))
 have hz2:z<64/\∀ j,j<=z->((s.size+1+j)%64=56 ↔ j=z):=by
  rw [<-hz];unfold zerosN
  refine ⟨by omega,fun j hj=>?_⟩
  omega
 have HZ:=Hd hz
 have HZ2:=Hd hz2
 have hp:(s++(⟨#[128]⟩:ByteArray)).data.toList=padR s 0:=by unfold padR;simp
 have R0:Hid ((s++(⟨#[128]⟩:ByteArray)).data.toList=padR s 0):=Hd hp
 have hps:(s++(⟨#[128]⟩:ByteArray)).size=s.size+1:=by rw [ByteArray.size_append];rfl
 have hb1:(s.size+1 > 9223372036854775807)=False:=by simp;omega
 have hb2:¬(9223372036854775807<s.size+1):=by omega
 clear hz hz2 hp
 go_enter Tryz.func230,Tryz.ntmps230
 go_wp2_with fail
 go_loopg [0] z (fun g s0 wr=>∃ (j:Nat) (cur:ByteArray),g=z-j/\j<=z/\s0=.string cur/\Hid (cur.data.toList=padR s j)/\w=wr)
 case atStart=>exact ⟨0,_,rfl,Nat.zero_le _,rfl,R0,rfl⟩
 case round =>
  obtain ⟨j,cur,rfl,hj,rfl,HC,rfl⟩:=hrel
  have hcs:cur.size=s.size+1+j:=by
   have:=congrArg List.length HC.out
   rw [<-Lib.size_eq,padR_len] at this;exact this
  have h56:=HZ2.out.2 j hj
  by_cases hlt:j<z
  ·have d56:((cur.size:Int)%64 != 56)=true:=by
    simp only [bne_iff_ne,ne_eq];omega
   have hq1:(cur.size+1 > 9223372036854775807)=False:=by have:=HSL.out;have:=HZ2.out.1;simp;omega
   have hq2:¬(9223372036854775807<cur.size+1):=by have:=HSL.out;have:=HZ2.out.1;omega
   have HN:Hid ((cur++(⟨#[0]⟩:ByteArray)).data.toList=padR s (j+1)):=Hd (by rw [padR_succ,<-HC.out];simp)
   have HLT:=Hd hlt
   clear hcs h56 hlt hj HC R0
   go_wp2_with fail
   go_roundg (z-(j+1))
   case measure=>have:=HLT.out;omega
   case rel=>exact ⟨j+1,_,rfl,HLT.out,rfl,HN,rfl⟩
  ·obtain rfl:j=z:=by omega
   have d56:((cur.size:Int)%64 != 56)=false:=by
    have:=h56.2 rfl
    simp only [bne_eq_false_iff_eq];omega
   clear h56 hlt hj R0
   go_wp2_with fail
   have hpl:cur.data.toList.map (fun c=>c.toNat)=padL s:=by rw [HC.out,<-HZ.out];exact padR_map s
   have hM:∃ M,cur.size=4*M:=⟨cur.size / 4,by have:=HZ2.out.2 j (Nat.le_refl _);have:=this.2 rfl;omega⟩
   obtain ⟨M,hM⟩:=hM
   have hcl:cur.size<=100100:=by have:=HSL.out;have:=HZ2.out.1;omega
   have HFIN:Hid (refWords s=wordsL ((padL s).take (4*M))++[s.size*8 / 4294967296,s.size*8%4294967296]):=Hd (by
    unfold refWords
    rw [List.take_of_length_le]
    rw [<-hpl,List.length_map,<-Lib.size_eq,hM];exact Nat.le_refl _)
   have HPL:=Hd hpl
   have HM:=Hd hM
   have HCL:=Hd hcl
   obtain ⟨P,hP⟩:=exE (padL s)
   rw [hP] at HFIN HPL
   have R2:Hid (NmO w (wordsL (P.take (4*0))) (.slice none 0 0) w):=Hd (NmO.nil _ _ (Below.refl _ _))
   clear hpl hM hcl hcs HC hps hb1 hb2 d56 HZ HZ2 hP
   generalize (((s.size:Int)+1+(j:Int))%64 != 56)=bq
   go_loopg [4,5] M (fun g s4 s5 wr=>∃ (m i:Nat) (v:Value),g=M-m/\m<=M/\i=4*m/\s5=.int .i64 (i:Int)/\v=s4/\Hid (NmO w (wordsL (P.take (4*m))) v wr))
   case atStart=>exact ⟨0,0,_,rfl,Nat.zero_le _,rfl,rfl,rfl,R2⟩
   case round =>
    obtain ⟨m,i,v,rfl,hm,hi,rfl,rfl,HR⟩:=hrel
    clear R2
    have hsz:=HM.out
    have hszl:=HCL.out
    by_cases hlt:m<M
    ·obtain ⟨c0,e0,f0⟩:=byte_at (t:=cur) (i:=i) (by omega)
     obtain ⟨c1,e1,f1⟩:=byte_at (t:=cur) (i:=i+1) (by omega)
     obtain ⟨c2,e2,f2⟩:=byte_at (t:=cur) (i:=i+2) (by omega)
     obtain ⟨c3,e3,f3⟩:=byte_at (t:=cur) (i:=i+3) (by omega)
     rw [HPL.out] at f0 f1 f2 f3
     have hx0:∀ W,(Instr.index 9 (.string cur) (.int .i64 (i:Int))).run Tryz.prog W=.ok (.int .u8 (c0.toNat:Int)) W:=fun W=>strIdx (P:=Tryz.prog) 9 cur i c0 Tryz.underlying9 e0 W
     have hx1:∀ W,(Instr.index 9 (.string cur) (.int .i64 ((i:Int)+1))).run Tryz.prog W=.ok (.int .u8 (c1.toNat:Int)) W:=fun W=>strIdx (P:=Tryz.prog) 9 cur (i+1) c1 Tryz.underlying9 e1 W
     have hx2:∀ W,(Instr.index 9 (.string cur) (.int .i64 ((i:Int)+2))).run Tryz.prog W=.ok (.int .u8 (c2.toNat:Int)) W:=fun W=>strIdx (P:=Tryz.prog) 9 cur (i+2) c2 Tryz.underlying9 e2 W
     have hx3:∀ W,(Instr.index 9 (.string cur) (.int .i64 ((i:Int)+3))).run Tryz.prog W=.ok (.int .u8 (c3.toNat:Int)) W:=fun W=>strIdx (P:=Tryz.prog) 9 cur (i+3) c3 Tryz.underlying9 e3 W
     have hstep:wordsL (P.take (4*(m+1)))=wordsL (P.take (4*m))++[w4 c0.toNat c1.toNat c2.toNat c3.toNat]:=by
      rw [wordsL_step (by have:=congrArg List.length HPL.out;rw [List.length_map,<-Lib.size_eq] at this;omega),<-hi,f0,f1,f2,f3]
     have HSTEP:=Hd hstep
     have HI:=Hd hi
     have HLT:=Hd hlt
     have hil:i+3<cur.size:=by omega
     have hsm:i<=100100:=by omega
     have hl0:i<cur.size:=by omega
     have hl1:i+1<cur.size:=by omega
     have hl2:i+2<cur.size:=by omega
     have z1:(0<=(i:Int)+1)=True:=eq_true (by omega)
     have z2:(0<=(i:Int)+2)=True:=eq_true (by omega)
     have z3:(0<=(i:Int)+3)=True:=eq_true (by omega)
     have b0:=c0.toNat_lt
     have b1:=c1.toNat_lt
     have b2:=c2.toNat_lt
     have b3:=c3.toNat_lt
     have hwl:(wordsL (P.take (4*m))).length<=100100:=by
      have h1:((P.take (4*m))).length<=100100:=by rw [List.length_take,<-HPL.out,List.length_map,<-Lib.size_eq];omega
      have h2:∀ (l:List Nat),(wordsL l).length<=l.length:=by
       intro l
       fun_induction wordsL l with
       | case1=>simp only [List.length_cons];omega
       | case2=>simp
      exact Nat.le_trans (h2 _) h1
     clear hstep hi hlt e0 e1 e2 e3 f0 f1 f2 f3 hm hsz
     generalize c0.toNat=n0 at *
     generalize c1.toNat=n1 at *
     generalize c2.toNat=n2 at *
     generalize c3.toNat=n3 at *
     have HW4:Hid (((w4 n0 n1 n2 n3:Nat):Int)=(n0:Int)*16777216+(n1:Int)*65536+(n2:Int)*256+(n3:Int)):=Hd (by unfold w4;omega)
     generalize w4 n0 n1 n2 n3=w44 at *
     obtain ⟨o,ho⟩:=exE (wordsL (P.take (4*m)))
     rw [ho] at HSTEP HR hwl
     clear ho
     have L1:=Hd (show o.length+1<=maxLen/\(o.length+1)*8<=140737488355328 from ⟨by unfold maxLen;omega,by omega⟩)
     have HO:=Hd HR.out.1
     have HZ:=Hd HR.out.2.size
     have HP:Hid (IntKind.i64.wrap ((i:Int)+1)=(i:Int)+1/\IntKind.i64.wrap ((i:Int)+2)=(i:Int)+2/\IntKind.i64.wrap ((i:Int)+3)=(i:Int)+3):=Hd ⟨wrap_small (x:=(i:Int)+1) (by omega) (by omega),wrap_small (x:=(i:Int)+2) (by omega) (by omega),wrap_small (x:=(i:Int)+3) (by omega) (by omega)⟩
     have HQ:Hid ((IntKind.u64.wrap (n0:Int)=n0/\IntKind.u64.wrap (n1:Int)=n1/\IntKind.u64.wrap (n2:Int)=n2/\IntKind.u64.wrap (n3:Int)=n3)/\(IntKind.u64.wrap ((n0:Int)*16777216)=(n0:Int)*16777216/\IntKind.u64.wrap ((n1:Int)*65536)=(n1:Int)*65536/\IntKind.u64.wrap ((n2:Int)*256)=(n2:Int)*256)/\(IntKind.u64.wrap ((n0:Int)*16777216+(n1:Int)*65536)=(n0:Int)*16777216+(n1:Int)*65536/\IntKind.u64.wrap ((n0:Int)*16777216+(n1:Int)*65536+(n2:Int)*256)=(n0:Int)*16777216+(n1:Int)*65536+(n2:Int)*256/\IntKind.u64.wrap ((n0:Int)*16777216+(n1:Int)*65536+(n2:Int)*256+(n3:Int))=(n0:Int)*16777216+(n1:Int)*65536+(n2:Int)*256+(n3:Int))):=Hd ⟨⟨wrapU64 _ (by omega) (by omega),wrapU64 _ (by omega) (by omega),wrapU64 _ (by omega) (by omega),wrapU64 _ (by omega) (by omega)⟩,⟨wrapU64 _ (by omega) (by omega),wrapU64 _ (by omega) (by omega),wrapU64 _ (by omega) (by omega)⟩,wrapU64 _ (by omega) (by omega),wrapU64 _ (by omega) (by omega),wrapU64 _ (by omega) (by omega)⟩
     have HOD:Hid (∀ o1,(wr.drew.alloc o1).ownsRow w.heap.size 134 1 v o.length (u64C o)):=Hd fun o1=>(show wr.drew.ownsRow w.heap.size 134 1 v o.length (u64C o) from HO.out).alloc o1
     have HBX:Hid (∀ o1,w.heap.size<=(wr.drew.alloc o1).heap.size):=Hd fun o1=>by have:=HZ.out;simp;omega
     have HST:Hid (∀ ob W5 v5,(wr.drew.alloc ob).grownBy W5 v.ownBlock->W5.ownsRow w.heap.size 134 1 v5 (o.length+1) (u64C o++[.int .u64 ((n0:Int)*16777216+(n1:Int)*65536+(n2:Int)*256+(n3:Int))])->NmO w (wordsL (P.take (4*(m+1)))) v5 W5):=Hd fun ob W5 v5 hg h5=>by
      rw [HSTEP.out]
      refine NmO.snoc (W:=wr.drew) ⟨HO.out,HR.out.2.drew⟩ ob hg ?_
      rw [HW4.out];exact h5
     clear HR HSTEP
     obtain ⟨p1,p2,p3⟩:=HP.out
     obtain ⟨⟨q0,q1,q2,q3⟩,⟨r0,r1,r2⟩,r3,r4,r5⟩:=HQ.out
     clear HP HQ b0 b1 b2 b3
     go_wp2_with fail
     refine wp_region_noPanic ?_
     refine wp_region_held_drew (S:=fun _=>True) (by kernel_rfl) ?_ (fun hHeld=>?_)
     ·exact trivial
     refine' tkH 0 rfl ?_
     try simp only [Act.put,List.setIfInBounds_toArray,List.set_cons_zero,List.set_cons_succ,List.getElem_toArray,List.getElem_cons_zero]
     refine' tkH 1 rfl ?_;try simp only [Act.put,awL]
     refine' tkH 2 rfl ?_;try simp only [Act.put,awL]
     refine' tkH 3 rfl ?_;try simp only [Act.put,awL]
     refine' tkH 4 rfl ?_;try simp only [Act.put,awL]
     refine' tkH 5 rfl ?_;try simp only [Act.put,awL]
     refine' tkH 6 rfl ?_;try simp only [Act.put,awL]
     refine' tkH 7 rfl ?_;try simp only [Act.put,awL]
     refine' tkH 8 rfl ?_;try simp only [Act.put,awL]
     refine' tkH 9 rfl ?_;try simp only [Act.put,awL]
     refine' tkH 10 rfl ?_;try simp only [Act.put,awL]
     refine' tkH 11 rfl ?_;try simp only [Act.put,awL]
     refine' tkH 12 rfl ?_;try simp only [Act.put,awL]
     refine' tkH 13 rfl ?_;try simp only [Act.put,awL]
     refine' tkH 14 rfl ?_;try simp only [Act.put,awL]
     refine' tkH 15 rfl ?_;try simp only [Act.put,awL]
     refine' tkH 16 rfl ?_;try simp only [Act.put,awL]
     refine' tkH 17 rfl ?_;try simp only [Act.put,awL]
     refine' tkH 18 rfl ?_;try simp only [Act.put,awL]
     refine' tkH 19 rfl ?_;try simp only [Act.put,awL]
     refine' tkH 20 rfl ?_;try simp only [Act.put,awL]
     refine' tkH 21 rfl ?_;try simp only [Act.put,awL]
     refine' tkH 22 rfl ?_;try simp only [Act.put,awL]
     refine' tkH 23 rfl ?_;try simp only [Act.put,awL]
     refine' tkH 24 rfl ?_;try simp only [Act.put,awL]
     refine' tkH 25 rfl ?_;try simp only [Act.put,awL]
     refine wpAnyH_ready (rs:=[26]) (by kernel_rfl) (by simp) ?_
     refine AllReadyH.cons rfl (fun K hK=>?_) AllReadyH.nil
     go_simp
     refine hK.out _ _ ?_ (fun hHeld=>?_)
     ·exact trivial
     clear hK K
     try simp only [Act.put,awL]
     refine wpAnyH_ready (rs:=[27]) (by kernel_rfl) (by simp) ?_
     refine AllReadyH.cons rfl (fun K hK=>?_) AllReadyH.nil
     refine step_append_y (by rfl) _ _ _ (by rfl) w.heap.size 134 jU _ 1 8 Tryz.underlying277 hjU hU0 hU1 hU2 rfl (by decide) _ _ _ (by rfl) (HOD.out _) _ 1 _ (by rfl) (yields_boxL _ #[.int .u64 ((n0:Int)*16777216+(n1:Int)*65536+(n2:Int)*256+(n3:Int))] _ 1 1) rfl (one1 _ rfl) L1.out.1 L1.out.2 (HBX.out _) ?_
     intro v5 W5 ho5 hg5 ha5
     have HN5:=Hd (HST.out _ W5 v5 hg5 ho5)
     clear ho5 hg5 ha5
     refine hK.out _ _ ?_ (fun hHeld=>?_)
     ·exact trivial
     clear hK K
     try simp only [Act.put,awL]
     refine' tkH 28 rfl ?_;try simp only [Act.put,awL]
     refine wpAnyH_done (by kernel_rfl) ?_ _
     refine NoPanic.normal ?_
     go_wp2_with fail
     go_roundg (M-(m+1))
     case measure=>have:=HLT.out;omega
     case rel=>exact ⟨m+1,i+4,_,rfl,HLT.out,by have:=HI.out;omega,rfl,rfl,HN5⟩
    ·obtain rfl:m=M:=by omega
     obtain ⟨o,ho⟩:=exE (wordsL (P.take (4*m)))
     rw [ho] at HR HFIN
     have hol:o.length<=100100:=by
      have h1:((P.take (4*m))).length<=100100:=by rw [List.length_take,<-HPL.out,List.length_map,<-Lib.size_eq];omega
      have h2:∀ (l:List Nat),(wordsL l).length<=l.length:=by
       intro l
       fun_induction wordsL l with
       | case1=>simp only [List.length_cons];omega
       | case2=>simp
      rw [<-ho]
      exact Nat.le_trans (h2 _) h1
     have LW:∀ W,Calls Tryz.prog 231 #[.int .u64 (8*(s.size:Int))] W fun e w'=>e=.returned (.int .u64 ((8*s.size%4294967296:Nat):Int))/\W=w':=fun W=>low_c (8*s.size) W
     have L1:=Hd (show o.length+2<=maxLen/\(o.length+2)*8<=140737488355328 from ⟨by unfold maxLen;omega,by omega⟩)
     have HO:=Hd HR.out.1
     have HZ:=Hd HR.out.2.size
     have HAZ:Hid (∀ o1:Obj,w.heap.size<=(wr.alloc o1).heap.size):=Hd fun o1=>by have:=HZ.out;simp;omega
     have HST:Hid (∀ ob W5 v5,(wr.alloc ob).grownBy W5 v.ownBlock->W5.ownsRow w.heap.size 134 1 v5 (o.length+2) (u64C o++[.int .u64 (8*(s.size:Int) / 4294967296),.int .u64 ((8*s.size%4294967296:Nat):Int)])->NmO w (refWords s) v5 W5):=Hd fun ob W5 v5 hg h5=>by
      rw [HFIN.out]
      have e1:u64C (o++[s.size*8 / 4294967296,s.size*8%4294967296])=u64C o++[.int .u64 (8*(s.size:Int) / 4294967296),.int .u64 ((8*s.size%4294967296:Nat):Int)]:=by
       unfold u64C
       rw [List.map_append,List.map_cons,List.map_cons,List.map_nil,Nat.mul_comm s.size 8]
       rfl
      exact ⟨by rw [e1,List.length_append];exact h5,(HR.out.2.alloc HZ.out ob).grown hg (by have:=HZ.out;simp;omega) fun j e=>(HR.out.1.lt j e).1⟩
     have hge:¬i<cur.size:=by omega
     clear HR HFIN hlt hm hi ho HPL hsz
     generalize (8*s.size%4294967296)=lo at *
     go_wp2_with fail
     refine (LW _).mono ?_
     rintro e wa ⟨rfl,rfl⟩
     clear LW
     go_wp2_with (first
      | (refine chkA 277 277 ⟨_,_,by with_reducible rfl⟩ ?_
         refine wpList_append_y (by rfl) _ _ _ rfl w.heap.size 134 jU _ 1 8 Tryz.underlying277 hjU hU0 hU1 hU2 rfl (by decide) _ _ _ (by rfl) (HO.out.alloc _) _ 2 _ (by rfl) (yields_boxL _ #[.int .u64 (8*(s.size:Int) / 4294967296),.int .u64 (lo:Int)] _ 2 2) rfl (one2 _ _ rfl rfl) L1.out.1 L1.out.2 (HAZ.out _) ?_
         intro v5 W5 ho5 hg5 ha5
         have HN5:=Hd (HST.out _ W5 v5 hg5 ho5)
         clear ho5 hg5 ha5))
     go_ret
     exact ⟨_,rfl,HN5⟩
set_option maxHeartbeats 1000000
section
variable {P:Program} {w:World}
theorem run_append_k (t ty:TypeId) (base:Nat) (e:TypeId) (i:TypeInfo) (z:Value) (size bytes:Nat) (ht:P.underlying t=some (.slice e)) (hi:P.info? e=some i) (hz:i.zero=some z)
 (hsize:i.size=size) (hby:i.bytes=bytes) (hzs:z.cells.size=size) (hsz:0<size)
 (v:Value) (n:Nat) (xs:List Value) (hown:w.ownsRow base e size v n xs)
 (x:Value) (m:Nat) (news:List Value) (hx:Yields w x m news) (hl:news.length=m*size) (h1:∀ u∈news,u.oneCell'=true)
 (h63:n+m<=maxLen) (hbytes:(n+m)*bytes<=140737488355328) (hbase:base<=w.heap.size) :
 ∃ v' w',(Builtin.append_ #[t,t] ty #[v,x]).run P w=.ok v' w'/\w'.ownsRow base e size v' (n+m) (xs++news)/\w.grownBy w' v.ownBlock/\(v'.ownBlock=v.ownBlock\/v'.ownBlock=some w.heap.size) /\
  ∀ g,v.ownBlock=some g->∀ j u,xs[j]?=some u->w'.cell? ⟨g,j,none⟩=some u:=by
 obtain ⟨v',w',hr,h2,h3,h4⟩:=run_append_y (P:=P) (w:=w) t ty base e i z size bytes ht hi hz hsize hby hzs hsz v n xs hown x m news hx hl h1 h63 hbytes hbase
 refine ⟨v',w',hr,h2,h3,h4,fun g hg j u hu=>?_⟩
 have same:v'.ownBlock=some g->w'.cell? ⟨g,j,none⟩=some u:=fun hv=>by
  have:=h2.cells hv j u (by rw [List.getElem?_append_left (List.getElem?_eq_some_iff.1 hu).1];exact hu)
  rwa [addr_addO,Nat.zero_add] at this
 rcases hown.2 with ⟨rfl,_⟩|⟨g',cap,cur,rfl,a1,a2,a3,a4,a5,a6⟩
 ·cases hg
 ·obtain rfl:g'=g:=Option.some.inj hg
  by_cases hroom:n+m<=cap
  ·rcases h4 with h4|h4
   ·exact same h4
   ·exfalso
    obtain ⟨o,c,rfl,ho,hc⟩:=hx
    cases o with
    | none =>
      obtain rfl:m=0:=ho rfl
      rw [run_append_nil base t ty e i size ht hi _ n c xs hown] at hr
      injection hr with e1 e2
      subst e1;subst e2
      have:=(hown.lt g' rfl).2
      rw [show (Value.slice (some ⟨g',0,none⟩) n cap).ownBlock=some g' from rfl] at h4
      injection h4 with h4
      omega
    | some ad =>
      have hsrc:Src P i.size t (.slice (some ad) m c) m news w:=Src.ofSlice w ht _ m c _ (by rw [hsize];exact hl) (hc ad rfl) h1
      have hlen:∀ j,j<news.length->0+n*i.size+j<cur.size:=fun j hj=>by
       rw [a5,hsize,Nat.zero_add,<-Nat.sub_add_cancel hroom]
       have:n*size+j<(n+m)*size:=by rw [Nat.add_mul];omega
       rw [Nat.sub_add_cancel hroom]
       exact Nat.lt_of_lt_of_le this (Nat.mul_le_mul_right _ hroom)
      have hrun:=run_append_room_src (P:=P) w t t ty e i ht hi g' 0 n cap _ m _ hsrc hroom
       (fun j hj=>by
         have h:=hlen j hj
         rw [cell_of_row w g' (0+n*i.size+j) cur e (0,0) a2,Array.getElem?_eq_getElem h];rfl)
       (fun j hj=>by simp [World.frozen?,a2])
      rw [hr] at hrun
      injection hrun with e1 e2
      rw [e1] at h4
      have:=(hown.lt g' rfl).2
      rw [show (Value.slice (some ⟨g',0,none⟩) (n+m) cap).ownBlock=some g' from rfl] at h4
      injection h4 with h4
      omega
  ·obtain ⟨o,c,rfl,ho,hc⟩:=hx
   cases o with
   | none =>
     obtain rfl:m=0:=ho rfl
     omega
   | some ad =>
     have hsrc:Src P i.size t (.slice (some ad) m c) m news w:=Src.ofSlice w ht _ m c _ (by rw [hsize];exact hl) (hc ad rfl) h1
     have hfirst:(Builtin.firstCells i.size n (.slice (some ⟨g',0,none⟩) n cap)).run P w.drew=.ok xs.toArray w.drew:=by
      rw [hsize]
      refine run_firstCells_some w.drew size n _ n cap _ hown.1 ?_
      intro j u hu
      rw [World.cell?_drew]
      exact hown.cells rfl j u hu
     have hrun:=run_append_grow_src (P:=P) w t t ty e i z ht hi hz (some ⟨g',0,none⟩) n cap _ hfirst _ m _ hsrc (by omega) (by unfold maxLen at h63;omega)
      (growslice_fits (by omega) (by rw [hby];exact hbytes))
     rw [hr] at hrun
     injection hrun with e1 e2
     subst e2
     have hlt:=(hown.lt g' rfl).2
     have hb:(w.drew.alloc (.cells ((xs++news).toArray++Builtin.zeroCells z.cells (grownCap w (n+m) cap e-(n+m))) e)).heap[g']?=w.heap[g']?:=heap_alloc_lt (w:=w.drew) _ hlt
     have hcell:=hown.cells rfl j u hu
     rw [addr_addO,Nat.zero_add] at hcell
     rw [<-hcell]
     simp only [World.cell?,hb]
theorem step_append_k {ops:Array Oper} {o:Oper} {a:Act} {K:Act->World->Prop} {Q:Exit->Act->World->Prop} {E:Prop} (hgd:o.guard=none) (s x:Operand) (t:TypeId)
 (ho:o.op=.call { callee:=.builtin .append,args:=#[s,x],argTypes:=#[t,t] })
 (base:Nat) (e:TypeId) (i:TypeInfo) (z:Value) (size bytes:Nat) (ht:P.underlying t=some (.slice e)) (hi:P.info? e=some i) (hz:i.zero=some z)
 (hsize:i.size=size) (hby:i.bytes=bytes) (hzs:z.cells.size=size) (hsz:0<size)
 (v:Value) (n:Nat) (xs:List Value) (hs:a.eval s=v) (hown:w.ownsRow base e size v n xs)
 (y:Value) (m:Nat) (news:List Value) (hx:a.eval x=y) (hy:Yields w y m news) (hl:news.length=m*size) (h1:∀ u∈news,u.oneCell'=true)
 (h63:n+m<=maxLen) (hbytes:(n+m)*bytes<=140737488355328) (hbase:base<=w.heap.size)
 (h:∀ v' w',w'.ownsRow base e size v' (n+m) (xs++news)->w.grownBy w' v.ownBlock->(∀ g,v.ownBlock=some g->∀ j u,xs[j]?=some u->w'.cell? ⟨g,j,none⟩=some u)->K (a.put o.dst v') w') :
 if Region.wanted o (yielded ops a.tmps)=true then Oper.wp P o a w K Q else E:=by
 have hw:Region.wanted o (yielded ops a.tmps)=true:=by simp [Region.wanted,hgd]
 rw [if_pos hw]
 obtain ⟨v',w',hr,h2,h3,-,h4⟩:=run_append_k (P:=P) (w:=w) t o.type base e i z size bytes ht hi hz hsize hby hzs hsz v n xs hown y m news hy hl h1 h63 hbytes hbase
 unfold Oper.wp execOp
 simp only [ho,resolve,invoke,builtin,Sem.run_bind,Sem.run_pure,Result.andThen_ok,List.map_toArray,List.map_cons,List.map_nil,hs,hx,hr]
 exact h v' w' h2 h3 h4
end
end Go.Proofs.YtdcjhpafipbpkaaGreatDoor
