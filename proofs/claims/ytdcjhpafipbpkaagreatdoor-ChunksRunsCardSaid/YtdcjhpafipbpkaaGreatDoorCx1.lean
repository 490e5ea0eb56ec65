/- Parts of the proof of ChunksRuns,joined: Base,BRow,Read,ReadC,FltA,FltB,CutP. No condition. -/
import Derived.WalkKit
import Derived.Lib.Hide
import Derived.Maps.Own
import Derived.Test.YtdcjhpafipbpkaaGreatDoorProg
import Derived.Deep.AppendSrc
import Derived.Laws.AppendOwn
import Derived.WalkSpells
import Derived.Test.YtdcjhpafipbpkaaGreatDoorRows
import Derived.ProofKit
import Derived.OpenShut
import Derived.ChangeOld
import Derived.Below
import Derived.Deep.Slices
import Derived.Laws.FloatArith
import Derived.Laws.ComplexArith
import Derived.Deep.LoopGhost
set_option linter.unusedSimpArgs false
set_option linter.unusedVariables false
set_option linter.unusedSectionVars false
namespace Go.Proofs.YtdcjhpafipbpkaaGreatDoor
theorem Hd {p : Prop} (h : p) : Go.RowKit.Hid p := Lib.hid h
theorem exE {α : Sort _} (a : α) : ∃ x, a = x := ⟨a, rfl⟩
open Go.RowKit Go.MapKept
structure Upd (S:Nat -> Prop) (w w':World):Prop where
 os:w'.os=w.os
 tape:w'.tape=w.tape
 output:w'.output=w.output
 size:w.heap.size <= w'.heap.size
 block:∀ k,k < w.heap.size -> ¬ S k -> w'.heap[k]?=w.heap[k]?
theorem Upd.refl (S:Nat -> Prop) (w:World):Upd S w w:=⟨rfl,rfl,rfl,Nat.le_refl _,fun _ _ _=>rfl⟩
theorem Upd.mono {S S':Nat -> Prop} {w w':World} (h:Upd S w w') (hs:∀ k,k < w.heap.size -> S k -> S' k):Upd S' w w' :=
 ⟨h.os,h.tape,h.output,h.size,fun k hk hn=>h.block k hk (fun hx=>hn (hs k hk hx))⟩
theorem Upd.trans' {S S':Nat -> Prop} {a b c:World} (h:Upd S a b) (k:Upd S' b c) (hs:∀ j,j < a.heap.size -> S' j -> S j):Upd S a c :=
 ⟨k.os.trans h.os,k.tape.trans h.tape,k.output.trans h.output,Nat.le_trans h.size k.size,
  fun i hi hn=>(k.block i (Nat.lt_of_lt_of_le hi h.size) (fun hx=>hn (hs i hi hx))).trans (h.block i hi hn)⟩
theorem Upd.trans {S:Nat -> Prop} {a b c:World} (h:Upd S a b) (k:Upd S b c):Upd S a c:=h.trans' k (fun _ _ x=>x)
theorem Upd.alloc {S:Nat -> Prop} {a w:World} (h:Upd S a w) (o:Obj):Upd S a (w.alloc o) :=
 h.trans ⟨rfl,rfl,rfl,by simp,fun k hk _=>Below.heap_alloc _ _ _ hk⟩
theorem Upd.drew {S:Nat -> Prop} {a w:World} (h:Upd S a w):Upd S a w.drew:=⟨h.os,h.tape,h.output,h.size,h.block⟩
theorem Upd.drew_left {S:Nat -> Prop} {a w:World} (h:Upd S a.drew w):Upd S a w:=⟨h.os,h.tape,h.output,h.size,h.block⟩
theorem Upd.setCell {S:Nat -> Prop} {a w:World} (h:Upd S a w) {p:Addr} (hp:S p.block \/ a.heap.size <= p.block) (u:Value):Upd S a (w.setCell p u) :=
 h.trans' (S':=fun k=>k=p.block) ⟨rfl,rfl,rfl,by simp,fun k _ hn=>Below.heap_setCell _ _ _ _ hn⟩ (fun j hj e=>by
  subst e; rcases hp with hp | hp
  ·exact hp
  ·omega)
theorem Upd.grown {S:Nat -> Prop} {a w w':World} {row:Option Nat} (h:Upd S a w) (hg:w.grownBy w' row) (hr:∀ k,row=some k -> S k \/ a.heap.size <= k):Upd S a w' :=
 h.trans' (S':=fun k=>row=some k) ⟨hg.os,hg.tape,hg.output,hg.size,fun k hk hn=>hg.block k hk (fun e=>hn e.symm)⟩ (fun j hj e=>by
  rcases hr j e with hp | hp
  ·exact hp
  ·omega)
theorem Upd.below {S:Nat -> Prop} {B:Nat} {w w':World} (h:Upd S w w') (hB:B <= w.heap.size) (hS:∀ k,k < B -> ¬ S k):Below B w w' :=
 ⟨h.os,h.tape,h.output,h.size,fun k hk=>h.block k (by omega) (hS k hk)⟩
theorem upd_setCell (w:World) (b i:Nat) (v:Value):Upd (fun k=>k=b) w (w.setCell ⟨b,i,none⟩ v):=(Upd.refl (fun k=>k=b) w).setCell (.inl rfl) v
structure Turn (F F':Nat -> Prop) (w w':World):Prop where
 upd:Upd F w w'
 sub:∀ k,F' k -> F k \/ w.heap.size <= k
theorem Turn.trans {F F' F'':Nat -> Prop} {a b c:World} (h:Turn F F' a b) (k:Turn F' F'' b c):Turn F F'' a c :=
 ⟨h.upd.trans' k.upd (fun j hj hx=>(h.sub j hx).resolve_right (by omega)),fun j hj=>by
  rcases k.sub j hj with hx | hx
  ·exact h.sub j hx
  ·exact .inr (Nat.le_trans h.upd.size hx)⟩
theorem cell_lit {w:World} {b i:Nat} {cs:Array Value} {T:TypeId} {fr:Nat × Nat} {v:Value} (h:w.heap[b]?=some (.cells cs T fr)) (hv:cs[i]?=some v):w.cell? ⟨b,i,none⟩=some v:=by
 simp [World.cell?,h,hv]
theorem frozen_lit {w:World} {b:Nat} {cs:Array Value} {T:TypeId} (h:w.heap[b]?=some (.cells cs T (0,0))) (i:Nat):w.frozen? ⟨b,i,none⟩=false:=by
 simp [World.frozen?,h]
theorem heap_set_lit {w:World} {b i:Nat} {cs:Array Value} {T:TypeId} {fr:Nat × Nat} (h:w.heap[b]?=some (.cells cs T fr)) (v:Value):(w.setCell ⟨b,i,none⟩ v).heap[b]?=some (.cells (cs.setIfInBounds i v) T fr):=by
 simp [World.setCell,Array.getElem?_modify,h]
theorem heap_set_ne {w:World} {b i b':Nat} (v:Value) (h:b' ≠ b):(w.setCell ⟨b,i,none⟩ v).heap[b']?=w.heap[b']?:=Below.heap_setCell _ _ _ _ h
theorem heap_alloc_lt {w:World} {b:Nat} (o:Obj) (h:b < w.heap.size):(w.alloc o).heap[b]?=w.heap[b]?:=Below.heap_alloc _ _ _ h
theorem lt_of_heap {w:World} {b:Nat} {o:Obj} (h:w.heap[b]?=some o):b < w.heap.size:=(Array.getElem?_eq_some_iff.1 h).1
theorem Upd.at {S:Nat -> Prop} {w w':World} (h:Upd S w w') {k:Nat} {o:Obj} (hk:w.heap[k]?=some o) (hn:¬ S k):w'.heap[k]?=some o:=(h.block k (lt_of_heap hk) hn).trans hk
theorem one1 (a:Value) (ha:a.oneCell'=true):∀ u ∈ [a],u.oneCell'=true:=by
 intro u hu; simp at hu; rw [hu]; exact ha
theorem one2 (a b:Value) (ha:a.oneCell'=true) (hb:b.oneCell'=true):∀ u ∈ [a,b],u.oneCell'=true:=by
 intro u hu; simp at hu; rcases hu with rfl | rfl <;> assumption
structure KEnc (κ:Type) where
 enc:κ -> Value
 desc:TypeDesc
 key:∀ a,IsKey desc (enc a)
 inj:∀ a b,enc a=enc b -> a=b
def kInt:KEnc Int:=⟨fun n=>.int .i64 n,.int .i64,fun _=>rfl,fun a b h=>by cases h; rfl⟩
def kStr:KEnc ByteArray:=⟨fun s=>.string s,.string,fun _=>trivial,fun a b h=>by cases h; rfl⟩
section maps
variable {κ α:Type} [DecidableEq κ]
def look:List (κ × α) -> κ -> Option α
 | [],_=>none
 | p :: r,k=>if p.1=k then some p.2 else look r k
def del (m:List (κ × α)) (k:κ):List (κ × α):=m.filter (fun p=>decide (p.1 ≠ k))
def put (m:List (κ × α)) (k:κ) (v:α):List (κ × α):=(k,v) :: del m k
theorem look_none {m:List (κ × α)} {k:κ}:look m k=none ↔ ∀ p ∈ m,p.1 ≠ k:=by
 induction m with
 | nil=>simp [look]
 | cons p r ih=>unfold look; by_cases h:p.1=k <;> simp [h,ih]
theorem look_some {m:List (κ × α)} {k:κ} {a:α} (hn:(m.map Prod.fst).Nodup):look m k=some a ↔ (k,a) ∈ m:=by
 induction m with
 | nil=>simp [look]
 | cons p r ih =>
   simp only [List.map_cons,List.nodup_cons] at hn
   unfold look
   by_cases h:p.1=k
   ·simp only [h,if_true,List.mem_cons]
    constructor
    ·intro e; cases e; exact .inl (by rw [<- h])
    ·intro e
     rcases e with e | e
     ·rw [<- e]
     ·exact absurd (List.mem_map.2 ⟨(k,a),e,h.symm⟩) hn.1
   ·simp only [h,if_false,List.mem_cons,ih hn.2]
    constructor
    ·exact .inr
    ·intro e
     rcases e with e | e
     ·exact absurd (by rw [<- e]) h
     ·exact e
theorem look_perm {m m':List (κ × α)} (hp:m.Perm m') (hn:(m.map Prod.fst).Nodup) (k:κ):look m k=look m' k:=by
 have hn':(m'.map Prod.fst).Nodup:=(hp.map _).nodup_iff.1 hn
 cases h:look m k with
 | none =>
   rw [eq_comm,look_none]
   exact fun p hp'=>look_none.1 h p (hp.mem_iff.2 hp')
 | some a=>rw [eq_comm,look_some hn']; exact hp.mem_iff.1 ((look_some hn).1 h)
theorem look_del (m:List (κ × α)) (k k':κ):look (del m k) k'=if k=k' then none else look m k':=by
 induction m with
 | nil=>simp [del,look]
 | cons p r ih =>
   unfold del at ih ⊢
   by_cases hp:p.1=k
   ·rw [List.filter_cons_of_neg (by simp [hp]),ih]
    by_cases h:k=k'
    ·simp [h]
    ·simp only [look,hp,h,if_false]
   ·rw [List.filter_cons_of_pos (by simp [hp])]
    simp only [look,ih]
    by_cases h:k=k'
    ·subst h; simp [hp]
    ·simp [h]
theorem look_put (m:List (κ × α)) (k k':κ) (v:α):look (put m k v) k'=if k=k' then some v else look m k':=by
 unfold put
 simp only [look,look_del]
 by_cases h:k=k' <;> simp [h]
theorem del_of_none {m:List (κ × α)} {k:κ} (h:look m k=none):del m k=m:=by
 unfold del
 exact List.filter_eq_self.2 fun p hp=>by simpa using look_none.1 h p hp
theorem del_perm {m m':List (κ × α)} (hp:m.Perm m') (k:κ):(del m k).Perm (del m' k):=hp.filter _
theorem put_perm {m m':List (κ × α)} (hp:m.Perm m') (k:κ) (v:α):(put m k v).Perm (put m' k v):=(del_perm hp k).cons _
def MapIs (K:KEnc κ) (V:α -> Value) (w:World) (r:Nat) (m:List (κ × α)):Prop :=
 ∃ (es:Array MapEntry) (clock:Nat) (m0:List (κ × α)),w.heap[r]?=some (.map es clock) /\ Stamped es clock /\ es.toList.map (fun e=>(e.key,e.val))=m0.map (fun p=>(K.enc p.1,V p.2)) /\ m0.Perm m
variable {K:KEnc κ} {V:α -> Value} {w:World} {r:Nat} {m:List (κ × α)}
omit [DecidableEq κ] in
theorem MapIs.lt (h:MapIs K V w r m):r < w.heap.size:=by obtain ⟨es,clock,m0,hb,_⟩:=h; exact lt_of_heap hb
omit [DecidableEq κ] in
theorem MapIs.of_heap (h:MapIs K V w r m) {w':World} (e:w'.heap[r]?=w.heap[r]?):MapIs K V w' r m:=by
 obtain ⟨es,clock,m0,hb,hs,he,hm⟩:=h; exact ⟨es,clock,m0,e.trans hb,hs,he,hm⟩
omit [DecidableEq κ] in
theorem MapIs.upd (h:MapIs K V w r m) {S:Nat -> Prop} {w':World} (hu:Upd S w w') (hn:¬ S r):MapIs K V w' r m:=h.of_heap (hu.block r h.lt hn)
omit [DecidableEq κ] in
theorem MapIs.alloc (h:MapIs K V w r m) (o:Obj):MapIs K V (w.alloc o) r m:=h.of_heap (heap_alloc_lt o h.lt)
omit [DecidableEq κ] in
theorem MapIs.made (w:World):MapIs K V (w.alloc (.map #[] 0)) w.heap.size ([]:List (κ × α)) :=
 ⟨#[],0,[],(heap_alloc w _).1,stamped_empty 0,rfl,.refl _⟩
omit [DecidableEq κ] in
theorem ents_keys {es:List MapEntry} {m0:List (κ × α)} (he:es.map (fun e=>(e.key,e.val))=m0.map (fun p=>(K.enc p.1,V p.2))):es.map (·.key)=(m0.map Prod.fst).map K.enc:=by
 have:=congrArg (List.map Prod.fst) he
 simpa [Function.comp_def] using this
omit [DecidableEq κ] in
theorem ents_isKey {es:List MapEntry} {m0:List (κ × α)} (he:es.map (fun e=>(e.key,e.val))=m0.map (fun p=>(K.enc p.1,V p.2))):∀ x ∈ es,IsKey K.desc x.key:=by
 intro x hx
 have h1:x.key ∈ es.map (·.key):=List.mem_map.2 ⟨x,hx,rfl⟩
 rw [ents_keys he] at h1
 obtain ⟨k,_,e⟩:=List.mem_map.1 h1
 rw [<- e]; exact K.key k
omit [DecidableEq κ] in
theorem ents_nodup {es:Array MapEntry} {clock:Nat} {m0:List (κ × α)} (hs:Stamped es clock) (he:es.toList.map (fun e=>(e.key,e.val))=m0.map (fun p=>(K.enc p.1,V p.2))):(m0.map Prod.fst).Nodup:=by
 have h1:=hs.2.2
 rw [ents_keys he] at h1
 exact List.Pairwise.imp (fun hne e=>hne (by rw [e])) (List.pairwise_map.1 h1)
omit [DecidableEq κ] in
theorem ents_get {es:List MapEntry} {m0:List (κ × α)} (he:es.map (fun e=>(e.key,e.val))=m0.map (fun p=>(K.enc p.1,V p.2))) {j:Nat} {e:MapEntry} (hj:es[j]?=some e):∃ p,m0[j]?=some p /\ e.key=K.enc p.1 /\ e.val=V p.2:=by
 have h1:(es.map (fun e=>(e.key,e.val)))[j]?=some (e.key,e.val):=by simp [hj]
 rw [he] at h1
 simp only [List.getElem?_map,Option.map_eq_some_iff] at h1
 obtain ⟨p,hp,e1⟩:=h1
 simp only [Prod.mk.injEq] at e1
 exact ⟨p,hp,e1.1.symm,e1.2.symm⟩
theorem ents_find {es:Array MapEntry} {clock:Nat} {m0:List (κ × α)} (hs:Stamped es clock) (he:es.toList.map (fun e=>(e.key,e.val))=m0.map (fun p=>(K.enc p.1,V p.2))) (k:κ) :
 (look m0 k=none /\ Instr.findNow K.desc (K.enc k) es.toList 0=some none /\ ∀ x ∈ es.toList,x.key ≠ K.enc k) \/
 ∃ j e a,look m0 k=some a /\ Instr.findNow K.desc (K.enc k) es.toList 0=some (some (j,V a)) /\ es.toList[j]?=some e /\ m0[j]?=some (k,a) /\ e.key=K.enc k:=by
 rcases findNow_spec (K.key k) es.toList 0 (ents_isKey he) with ⟨h1,h2⟩ | ⟨j,e,h1,h2,h3⟩
 ·refine .inl ⟨?_,h1,h2⟩
  rw [look_none]
  intro p hp e
  have h4:K.enc p.1 ∈ es.toList.map (·.key):=by rw [ents_keys he]; exact List.mem_map.2 ⟨p.1,List.mem_map.2 ⟨p,hp,rfl⟩,rfl⟩
  obtain ⟨x,hx,e1⟩:=List.mem_map.1 h4
  exact h2 x hx (by rw [e1,e])
 ·obtain ⟨p,hp,e1,e2⟩:=ents_get he h2
  have hk:p.1=k:=K.inj _ _ (e1.symm.trans h3)
  have hm:p=(k,p.2):=by rw [<- hk]
  refine .inr ⟨j,e,p.2,?_,by rw [<- e2]; simpa using h1,h2,by rw [hp,hm],h3⟩
  rw [look_some (ents_nodup hs he),<- hm]
  exact List.mem_of_getElem? hp
theorem run_lookup {P:Program} {t kt et:TypeId} (h:MapIs K V w r m) (ht:P.underlying t=some (.map kt et)) (hk:P.underlying kt=some K.desc) {z:Value} (hz:(zeroValue et).run P w=.ok z w) (k:κ) :
 (Instr.lookup t (.map (some r)) (K.enc k) false).run P w=.ok (((look m k).map V).getD z) w:=by
 obtain ⟨es,clock,m0,hb,hs,he,hm⟩:=h
 rw [<- look_perm hm (ents_nodup hs he)]
 rcases ents_find hs he k with ⟨h0,h1,h2⟩ | ⟨j,e,a,h0,h1,h2,h3,h4⟩
 ·simp [Instr.lookup,run_underlying ht,MapKept.run_getObj_map hb,run_checkKey hk (K.key k),run_findKey hk h1,hz,h0,Result.andThen]
 ·simp [Instr.lookup,run_underlying ht,MapKept.run_getObj_map hb,run_checkKey hk (K.key k),run_findKey hk h1,h0,Result.andThen]
theorem run_lookup_ok {P:Program} {t kt et:TypeId} (h:MapIs K V w r m) (ht:P.underlying t=some (.map kt et)) (hk:P.underlying kt=some K.desc) {z:Value} (hz:(zeroValue et).run P w=.ok z w) (k:κ) :
 (Instr.lookup t (.map (some r)) (K.enc k) true).run P w=.ok (.tuple #[((look m k).map V).getD z,.bool (look m k).isSome]) w:=by
 obtain ⟨es,clock,m0,hb,hs,he,hm⟩:=h
 rw [<- look_perm hm (ents_nodup hs he)]
 rcases ents_find hs he k with ⟨h0,h1,h2⟩ | ⟨j,e,a,h0,h1,h2,h3,h4⟩
 ·simp [Instr.lookup,run_underlying ht,MapKept.run_getObj_map hb,run_checkKey hk (K.key k),run_findKey hk h1,hz,h0,Result.andThen]
 ·simp [Instr.lookup,run_underlying ht,MapKept.run_getObj_map hb,run_checkKey hk (K.key k),run_findKey hk h1,h0,Result.andThen]
def setObjW (w:World) (r:Nat) (o:Obj):World:={ w with heap:=w.heap.setIfInBounds r o }
theorem upd_setObjW (w:World) (r:Nat) (o:Obj):Upd (·=r) w (setObjW w r o) :=
 ⟨rfl,rfl,rfl,by simp [setObjW],fun k _ hn=>by simp [setObjW,Ne.symm hn]⟩
omit [DecidableEq κ] in
theorem split_at {l:List (κ × α)} {j:Nat} {p:κ × α} (h:l[j]?=some p):l=l.take j ++ p :: l.drop (j + 1):=by
 have hj:=(List.getElem?_eq_some_iff.1 h)
 obtain ⟨hlt,e⟩:=hj
 rw [<- e,List.getElem_cons_drop]; simp
theorem del_split {l:List (κ × α)} {j:Nat} {k:κ} {a:α} (h:l[j]?=some (k,a)) (hn:(l.map Prod.fst).Nodup):del l k=l.take j ++ l.drop (j + 1):=by
 have e:=split_at h
 have hn':=hn
 rw [e] at hn'
 simp only [List.map_append,List.map_cons,List.nodup_append,List.nodup_cons] at hn'
 have h1:del (l.take j) k=l.take j:=del_of_none (look_none.2 fun p hp hk=>hn'.2.2 p.1 (List.mem_map.2 ⟨p,hp,rfl⟩) k (by simp) hk)
 have h2:del (l.drop (j + 1)) k=l.drop (j + 1):=del_of_none (look_none.2 fun p hp hk=>hn'.2.1.1 (by rw [<- hk]; exact List.mem_map.2 ⟨p,hp,rfl⟩))
 conv=>lhs; rw [e]
 unfold del at h1 h2 ⊢
 rw [List.filter_append,List.filter_cons_of_neg (by simp),h1,h2]
theorem run_mapUpdate {P:Program} {t kt et:TypeId} (h:MapIs K V w r m) (ht:P.underlying t=some (.map kt et)) (hk:P.underlying kt=some K.desc) (k:κ) (a:α) :
 ∃ w',(Instr.mapUpdate t (.map (some r)) (K.enc k) (V a)).run P w=.ok () w' /\ MapIs K V w' r (put m k a) /\ Upd (·=r) w w':=by
 obtain ⟨es,clock,m0,hb,hs,he,hm⟩:=h
 have hnd:=ents_nodup hs he
 rcases ents_find hs he k with ⟨h0,h1,h2⟩ | ⟨j,e,b,h0,h1,h2,h3,h4⟩
 ·refine ⟨setObjW w r (.map (es.push { key:=K.enc k,val:=V a,born:=clock }) (clock + 1)),?_,⟨_,_,m0 ++ [(k,a)],(heap_set hb).1,stamped_push hs h2,by simp [he],?_⟩,upd_setObjW _ _ _⟩
  ·simp [Instr.mapUpdate,run_underlying ht,MapKept.run_getObj_map hb,run_checkKey hk (K.key k),run_findKey hk h1,run_setObj_map _ hb,setObjW,Result.andThen]
  ·refine List.Perm.trans ?_ (put_perm hm k a)
   unfold put
   rw [del_of_none h0]
   exact List.perm_append_comm
 ·have hj:es[j]?=some e:=by simpa using h2
  have hkey:∀ e',es[j]?=some e' -> ({ e' with key:=K.enc k,val:=V a }:MapEntry).key=e'.key:=fun e' he'=>by rw [hj] at he'; cases he'; exact h4.symm
  refine ⟨setObjW w r (.map (es.modify j fun e=>{ e with key:=K.enc k,val:=V a }) clock),?_,⟨_,_,m0.set j (k,a),(heap_set hb).1,stamped_modify hs _ _ (fun _ _=>rfl) (fun e' _ he'=>hkey e' he'),?_,?_⟩,upd_setObjW _ _ _⟩
  ·simp [Instr.mapUpdate,run_underlying ht,MapKept.run_getObj_map hb,run_checkKey hk (K.key k),run_findKey hk h1,hj,h4,run_keyThatStays (K.key k),run_setObj_map _ hb,setObjW,Result.andThen]
  ·apply List.ext_getElem?
   intro i
   have hei:=congrArg (fun l=>l[i]?) he
   simp only [List.getElem?_map] at hei
   simp only [List.getElem?_map,Array.toList_modify,List.getElem?_modify,List.getElem?_set]
   by_cases hij:j=i
   ·subst hij
    have hlt:j < m0.length:=(List.getElem?_eq_some_iff.1 h3).1
    simp [h2,hlt]
   ·simpa [hij] using hei
  ·refine List.Perm.trans ?_ (put_perm hm k a)
   unfold put
   have hlt:j < m0.length:=(List.getElem?_eq_some_iff.1 h3).1
   rw [del_split h3 hnd,List.set_eq_take_append_cons_drop,if_pos hlt]
   exact List.perm_middle
theorem run_delete {P:Program} {t kt et ty:TypeId} (h:MapIs K V w r m) (ht:P.underlying t=some (.map kt et)) (hk:P.underlying kt=some K.desc) (k:κ) :
 ∃ w',(Builtin.delete_ #[t,kt] ty #[.map (some r),K.enc k]).run P w=.ok (.tuple #[]) w' /\ MapIs K V w' r (del m k) /\ Upd (·=r) w w':=by
 obtain ⟨es,clock,m0,hb,hs,he,hm⟩:=h
 have hnd:=ents_nodup hs he
 rcases ents_find hs he k with ⟨h0,h1,h2⟩ | ⟨j,e,b,h0,h1,h2,h3,h4⟩
 ·refine ⟨setObjW w r (.map es clock),?_,⟨_,_,m0,(heap_set hb).1,hs,he,?_⟩,upd_setObjW _ _ _⟩
  ·simp [Builtin.delete_,run_underlying ht,MapKept.run_getObj_map hb,run_checkKey hk (K.key k),run_findKey hk h1,run_setObj_map _ hb,setObjW,Result.andThen]
  ·have:=del_perm hm k
   rw [del_of_none h0] at this
   exact this
 ·refine ⟨setObjW w r (.map (es.eraseIdxIfInBounds j) clock),?_,⟨_,_,m0.eraseIdx j,(heap_set hb).1,stamped_erase hs j,?_,?_⟩,upd_setObjW _ _ _⟩
  ·simp [Builtin.delete_,run_underlying ht,MapKept.run_getObj_map hb,run_checkKey hk (K.key k),run_findKey hk h1,run_setObj_map _ hb,setObjW,Result.andThen]
  ·have hlt:j < es.size:=by have:=(List.getElem?_eq_some_iff.1 h2).1; simpa using this
   unfold Array.eraseIdxIfInBounds
   rw [dif_pos hlt,Array.toList_eraseIdx,List.eraseIdx_eq_take_drop_succ,List.eraseIdx_eq_take_drop_succ]
   simp only [List.map_append,List.map_take,List.map_drop,he]
  ·refine List.Perm.trans ?_ (del_perm hm k)
   rw [del_split h3 hnd,List.eraseIdx_eq_take_drop_succ]
end maps
open Go.RowKit
def BRow (B:Nat) (v:Value) (l:List UInt8) (w:World):Prop :=
 ∃ g cap cs fr,v=.slice (some ⟨g,0,none⟩) l.length cap /\ B <= g /\ w.heap[g]?=some (.cells cs 5 fr) /\ cs.size=cap /\ l.length <= cap /\ (∀ i,i < cap -> w.frozen? ⟨g,i,none⟩=false) /\ ∀ i (h:i < l.length),cs[i]?=some (.int .u8 l[i].toNat)
theorem infoB:(Tryz.prog.info? 5).map (fun i=>(i.zero,i.size,i.bytes))=some (some (.int .u8 0),1,1):=by kernel_rfl
set_option maxRecDepth 100000
theorem laidOut:laidOutB Tryz.prog=true:=by kernel_rfl
def Reads (w:World) (T:TypeId) (v:Value):Prop :=
 ∃ (H:Type) (enc:TypeId × Value -> H) (d:DataW H) (p:List MemPlace) (base:Nat),Value.okWide Tryz.prog w .any base T v /\ DataW.Trod enc Tryz.prog w 0 (fun _=>true) true T v d p
theorem choose_list {α:Type} {n:Nat} {p:Nat -> α -> Prop} (h:∀ i,i < n -> ∃ x,p i x):∃ l:List α,l.length=n /\ ∀ i,(hi:i < l.length) -> p i l[i]:=by
 induction n with
 | zero=>exact ⟨[],rfl,fun i hi=>absurd hi (by simp)⟩
 | succ n ih =>
   obtain ⟨l,hl,hp⟩:=ih (fun i hi=>h i (by omega))
   obtain ⟨x,hx⟩:=h n (by omega)
   refine ⟨l ++ [x],by simp [hl],fun i hi=>?_⟩
   by_cases e:i < l.length
   ·rw [List.getElem_append_left e]; exact hp i e
   ·have:i=n:=by simp at hi; omega
    subst this
    rw [List.getElem_append_right (by omega)]
    simpa [hl] using hx
def ReadsC (w:World) (e:TypeId) (cs:List Value):Prop:=∃ (H:Type) (enc:TypeId × Value -> H) (m:Nat) (y:DataW H × List MemPlace),DataW.trod enc Tryz.prog w 0 (fun _=>true) true m e cs=some y
theorem Reads.c {w:World} {T:TypeId} {v:Value} (h:Reads w T v):ReadsC w T v.cells.toList:=by
 obtain ⟨H,enc,d,p,base,h1,fuel,hf⟩:=h
 exact ⟨H,enc,fuel,_,hf⟩
theorem readsC_struct {w:World} {T:TypeId} {cs:List Value} {fs:Array Field} (ht:Tryz.prog.underlying T=some (.struct fs)) (h:ReadsC w T cs) :
 cs.length=Tryz.prog.cellsOf T /\ ∀ (i:Nat) (f:Field),fs[i]?=some f -> ReadsC w f.type ((cs.drop f.offset).take (Tryz.prog.cellsOf f.type)):=by
 obtain ⟨H,enc,m,y,h⟩:=h
 obtain ⟨xs,n,_,_,hl,hx,hf⟩:=DataW.trod_struct ht h
 refine ⟨hl,fun i f hi=>?_⟩
 have:=hf i f hi
 have hlt:i < xs.length:=by rw [hx]; exact (Array.getElem?_eq_some_iff.1 hi).1
 rw [List.getElem?_eq_getElem hlt] at this
 exact ⟨H,enc,n,_,this⟩
theorem readsC_bool {w:World} {T:TypeId} {cs:List Value} (ht:Tryz.prog.underlying T=some .bool) (h:ReadsC w T cs):∃ b,cs=[.bool b]:=by
 obtain ⟨H,enc,m,y,h⟩:=h
 obtain ⟨b,hb,_⟩:=DataW.trod_bool ht h
 exact ⟨b,hb⟩
theorem readsC_int {w:World} {T:TypeId} {k:IntKind} {cs:List Value} (ht:Tryz.prog.underlying T=some (.int k)) (h:ReadsC w T cs):∃ n,cs=[.int k n] /\ (Lit.int k n).wf=true:=by
 obtain ⟨H,enc,m,y,h⟩:=h
 obtain ⟨b,hb,_,hw⟩:=DataW.trod_int ht h
 exact ⟨b,hb,hw⟩
theorem readsC_string {w:World} {T:TypeId} {cs:List Value} (ht:Tryz.prog.underlying T=some .string) (h:ReadsC w T cs):∃ s,cs=[.string s] /\ s.size <= maxLen:=by
 obtain ⟨H,enc,m,y,h⟩:=h
 obtain ⟨b,hb,_,hw⟩:=DataW.trod_string ht h
 exact ⟨b,hb,hw⟩
theorem readsC_slice {w:World} {T e:TypeId} {cs:List Value} (ht:Tryz.prog.underlying T=some (.slice e)) (h0:0 < Tryz.prog.cellsOf e) (h:ReadsC w T cs) :
 ∃ a len cap,cs=[.slice a len cap] /\ len <= cap /\ cap <= maxLen /\ ∀ k,k < len -> ∃ b off es,a=some ⟨b,off,none⟩ /\ es.length=Tryz.prog.cellsOf e /\ b < w.heap.size /\ (∀ j,j < es.length -> w.cell? ⟨b,off + k * Tryz.prog.cellsOf e + j,none⟩=es[j]?) /\ ReadsC w e es:=by
 obtain ⟨H,enc,m,y,h⟩:=h
 rcases Deep.open_slice ht h with ⟨rfl,_⟩ | ⟨x,l,c,m,n,D,Pl,rfl,_,hl,hm,hmm,_,hel⟩
 ·exact ⟨none,0,0,rfl,Nat.le_refl _,Nat.zero_le _,fun k hk=>by omega⟩
 ·simp only [if_true] at hmm
  subst hmm
  have hget:∀ k,k < l -> ∃ es,es.length=Tryz.prog.cellsOf e /\ (∀ j,j < es.length -> w.cell? ((x.add (k * Tryz.prog.cellsOf e)).add j)=es[j]?) /\ ReadsC w e es:=by
   intro k hk
   obtain ⟨es,g1,g2⟩:=hel k (by omega)
   obtain ⟨_,q1,q2⟩:=World.cells?_some g1
   exact ⟨es,q1,fun j hj=>q2 j (by omega),⟨H,enc,n,_,g2⟩⟩
  refine ⟨some x,l,_,rfl,hl,hm,fun k hk=>?_⟩
  have hs:x.spot=none:=by
   obtain ⟨es,q1,q2,_⟩:=hget 0 (by omega)
   have:=q2 0 (by omega)
   rw [List.getElem?_eq_getElem (by omega)] at this
   have:=World.cell?_spot this
   simpa [Addr.add] using this
  obtain ⟨es,q1,q2,q3⟩:=hget k hk
  obtain ⟨b,o,sp⟩:=x
  simp only at hs
  subst hs
  have e1:∀ j,((⟨b,o,none⟩:Addr).add (k * Tryz.prog.cellsOf e)).add j=⟨b,o + k * Tryz.prog.cellsOf e + j,none⟩:=by
   intro j
   unfold Addr.add
   by_cases h1:k * Tryz.prog.cellsOf e=0 <;> by_cases h2:j=0 <;> simp [h1,h2]
  refine ⟨b,o,es,rfl,q1,?_,fun j hj=>by rw [<- e1]; exact q2 j hj,q3⟩
  have:=q2 0 (by omega)
  rw [List.getElem?_eq_getElem (by omega),e1] at this
  exact World.block_lt_of_cell? w _ this
theorem reads_slice {w:World} {T e:TypeId} {v:Value} (ht:Tryz.prog.underlying T=some (.slice e)) (h0:0 < Tryz.prog.cellsOf e) (h:Reads w T v) :
 ∃ a len cap,v=.slice a len cap /\ len <= cap /\ cap <= maxLen /\ ∀ k,k < len -> ∃ b off es,a=some ⟨b,off,none⟩ /\ es.length=Tryz.prog.cellsOf e /\ b < w.heap.size /\ (∀ j,j < es.length -> w.cell? ⟨b,off + k * Tryz.prog.cellsOf e + j,none⟩=es[j]?) /\ ReadsC w e es:=by
 have hc:=h.c
 obtain ⟨H,enc,d,p,base,h1,h2⟩:=h
 obtain ⟨a,len,cap,rfl⟩:=WideShapes.okWide_slice ht h1
 obtain ⟨a',len',cap',e1,r⟩:=readsC_slice ht h0 hc
 simp [Value.cells] at e1
 obtain ⟨rfl,rfl,rfl⟩:=e1
 exact ⟨_,_,_,rfl,r⟩
set_option maxHeartbeats 1000000
open Ieee
open Ieee
def Parts (L:List (List UInt8)):Prop:=∀ p ∈ L,1 <= p.length /\ p.length <= 128
end Go.Proofs.YtdcjhpafipbpkaaGreatDoor
