/- Parts of the proof of ChunksFull,joined: Base,BRow,Read,ReadC,FltA,FltB,CutP,Shelf,LogA,LogB,LogC,App,LogD,LogE,LogF,LogG,LogH,RoomP,RoomQ,RoomA. No condition. -/
import Derived.WalkKit
import Derived.Lib.Hide
import Derived.Maps.Own
import Derived.Test.YtdcjhpafipbpkaaGreatDoorProg
import Derived.Deep.AppendSrc
import Derived.Laws.AppendOwn
import Derived.WalkSpells
import Derived.Test.YtdcjhpafipbpkaaGreatDoorRows
import Derived.ProofKit
import Derived.OpenShut
import Derived.ChangeOld
import Derived.Below
import Derived.Deep.Slices
import Derived.Laws.FloatArith
import Derived.Laws.ComplexArith
import Derived.Deep.LoopGhost
import Derived.Shelf.Strings.Builder1
import Derived.Shelf.Strings.Builder2
import Derived.Shelf.Strings.Trim
import Derived.Shelf.Small.Utf8
import Derived.Shelf.Small.Bits
import Derived.Shelf.Small.Strs
import Derived.Shelf.Small.Wraps
import Derived.Shelf.Strings.BuilderF
import Derived.Shelf.Strings.BuilderK
import Derived.Shelf.Strings.Builder2Cap
import Derived.Shelf.Strconv.Itoa0
import Derived.Shelf.Strings.Search1
import Derived.Shelf.Sort.Plain
import Derived.Shelf.Strings.Prefix
import Derived.Shelf.Strings.Runes
import Derived.Shelf.Strings.AsciiSet
import Derived.Shelf.Bits.Mul64
import Derived.Shelf.Strings.Repeat
import Derived.Shelf.Unicode.DecodeSlow
import Derived.Shelf.Strings.BuilderCap
import Derived.Shelf.Slices.Reverse
import Derived.Ground.Names2Prog
import Derived.Shelf.Slices.ReverseS
import Derived.Shelf.Slices.Clone
import Derived.Shelf.Slices.SearchI
import Derived.Shelf.Slices.Delete
import Derived.Shelf.Slices.Cells
import Derived.Shelf.Slices.In.SortNone
import Derived.Shelf.Slices.Empties
import Derived.WalkLawsBesides
import Derived.Deep.RegionHeld3
import Derived.Deep.AppendLies
import Derived.Deep.DrawnRows
import Derived.Laws.OwnMore
import Derived.Laws.BitsAllLaws
set_option maxRecDepth 100000
set_option maxHeartbeats 4000000
set_option linter.unusedSimpArgs false
set_option linter.unusedVariables false
set_option linter.unusedSectionVars false
namespace Go.Proofs.YtdcjhpafipbpkaaGreatDoor
theorem Hd {p : Prop} (h : p) : Go.RowKit.Hid p := Lib.hid h
theorem exE {α : Sort _} (a : α) : ∃ x, a = x := ⟨a, rfl⟩
open Go.RowKit Go.MapKept
theorem zNr (n:Nat):n<=n:=Nat.le_refl n
theorem zNz (n:Nat):0<=n:=Nat.zero_le n
theorem zBr (B:Nat) (w:Go.World):Below B w w:=Below.refl B w
theorem zLa {α:Type _} {a b:List α}:(a++b).length=a.length+b.length:=List.length_append
theorem zLm {α β:Type _} {f:α -> β} {a:List α}:(a.map f).length=a.length:=by simp
theorem zLc {α:Type _} {a:α} {l:List α}:(a::l).length=l.length+1:=List.length_cons
theorem zCb {w w':Go.World} {a:Addr} (h:w'.heap[a.block]?=w.heap[a.block]?):w'.cell? a=w.cell? a:=World.cell?_of_block h
theorem zTs {α:Type _} {n:Nat} {l:List α} (h:n<l.length):l.take (n+1)=l.take n++[l[n]]:=List.take_succ_eq_append_getElem h
theorem awL:(∀ (α:Type) (l:List α) (i:Nat) (a:α),l.toArray.setIfInBounds i a=(l.set i a).toArray)/\(∀ (α:Type) (x:α) (xs:List α) (a:α),(x::xs).set 0 a=a::xs)/\(∀ (α:Type) (x:α) (xs:List α) (i:Nat) (a:α),(x::xs).set (i+1) a=x::xs.set i a)/\(∀ (α:Type) (xs:List α) (i:Nat) (h:i<xs.toArray.size),xs.toArray[i]=xs[i]'(by simpa using h))/\(∀ (α:Type) (x:α) (xs:List α) (i:Nat) (h:i+1<(x::xs).length),(x::xs)[i+1]=xs[i]'(by simpa using h))/\(∀ (α:Type) (x:α) (xs:List α) (h:0<(x::xs).length),(x::xs)[0]=x) :=
 ⟨λ _ _ _ _=>by simp,λ _ _ _ _=>rfl,λ _ _ _ _ _=>rfl,λ _ _ _ _=>rfl,λ _ _ _ _ _=>rfl,λ _ _ _ _=>rfl⟩
theorem tkH {P:Program} {md:Region.Mode} {ops:Array Oper} {Q:Exit->Act->World->Prop} {S:World->Prop} (i:Nat) {oi:Oper} {v:Value} {fuel:Nat} {listed:Array Bool} {a:Act} {w:World} (hi:ops[i]?=some oi)
 (h:wpAnyH P md ops Q S fuel (listed.setIfInBounds i true) (a.put oi.dst v) w) (hy:YieldsIf P ops S oi v a:=by exact Or.inl ⟨by rfl,by (intro w hSw;(try dsimp only at hSw);go_simp;try with_reducible rfl)⟩)
 (hs:Region.noSelect ops=true:=by kernel_rfl) (hf:Region.free md ops listed i=true:=by kernel_rfl) (hr:(Region.ready md ops listed).contains i=true:=by kernel_rfl)
 (hQ:∀ c a w,Q (.panic c) (a.put oi.dst v) w->Q (.panic c) a w:=by exact λ _ _ _ h=>h) (hS:S w:=by assumption):wpAnyH P md ops Q S (fuel+1) listed a w:=wpAnyH_take hi hs hf hr hQ hy hS h
structure Upd (S:Nat->Prop) (w w':World):Prop where
 os:w'.os=w.os
 tape:w'.tape=w.tape
 output:w'.output=w.output
 size:w.heap.size<=w'.heap.size
 block:∀ k,k<w.heap.size->¬S k->w'.heap[k]?=w.heap[k]?
theorem Upd.refl (S:Nat->Prop) (w:World):Upd S w w:=⟨rfl,rfl,rfl,zNr _,λ _ _ _=>rfl⟩
theorem Upd.mono {S S':Nat->Prop} {w w':World} (h:Upd S w w') (hs:∀ k,k<w.heap.size->S k->S' k):Upd S' w w' :=
 ⟨h.os,h.tape,h.output,h.size,λ k hk hn=>h.block k hk (λ hx=>hn (hs k hk hx))⟩
theorem Upd.trans' {S S':Nat->Prop} {a b c:World} (h:Upd S a b) (k:Upd S' b c) (hs:∀ j,j<a.heap.size->S' j->S j):Upd S a c :=
 ⟨k.os.trans h.os,k.tape.trans h.tape,k.output.trans h.output,Nat.le_trans h.size k.size,
  λ i hi hn=>(k.block i (Nat.lt_of_lt_of_le hi h.size) (λ hx=>hn (hs i hi hx))).trans (h.block i hi hn)⟩
theorem Upd.trans {S:Nat->Prop} {a b c:World} (h:Upd S a b) (k:Upd S b c):Upd S a c:=h.trans' k (λ _ _ x=>x)
theorem Upd.alloc {S:Nat->Prop} {a w:World} (h:Upd S a w) (o:Obj):Upd S a (w.alloc o) :=
 h.trans ⟨rfl,rfl,rfl,by simp,λ k hk _=>Below.heap_alloc _ _ _ hk⟩
theorem Upd.drew {S:Nat->Prop} {a w:World} (h:Upd S a w):Upd S a w.drew:=⟨h.os,h.tape,h.output,h.size,h.block⟩
theorem Upd.drew_left {S:Nat->Prop} {a w:World} (h:Upd S a.drew w):Upd S a w:=⟨h.os,h.tape,h.output,h.size,h.block⟩
theorem Upd.setCell {S:Nat->Prop} {a w:World} (h:Upd S a w) {p:Addr} (hp:S p.block\/a.heap.size<=p.block) (u:Value):Upd S a (w.setCell p u) :=
 h.trans' (S':=λ k=>k=p.block) ⟨rfl,rfl,rfl,by simp,λ k _ hn=>Below.heap_setCell _ _ _ _ hn⟩ (λ j hj e=>by
  subst e;rcases hp with hp|hp
  ·exact hp
  ·omega)
theorem Upd.grown {S:Nat->Prop} {a w w':World} {row:Option Nat} (h:Upd S a w) (hg:w.grownBy w' row) (hr:∀ k,row=some k->S k\/a.heap.size<=k):Upd S a w' :=
 h.trans' (S':=λ k=>row=some k) ⟨hg.os,hg.tape,hg.output,hg.size,λ k hk hn=>hg.block k hk (λ e=>hn e.symm)⟩ (λ j hj e=>by
  rcases hr j e with hp|hp
  ·exact hp
  ·omega)
theorem Upd.below {S:Nat->Prop} {B:Nat} {w w':World} (h:Upd S w w') (hB:B<=w.heap.size) (hS:∀ k,k<B->¬S k):Below B w w' :=
 ⟨h.os,h.tape,h.output,h.size,λ k hk=>h.block k (by omega) (hS k hk)⟩
theorem zbP (w:World) (b i:Nat) (v:Value):Upd (λ k=>k=b) w (w.setCell ⟨b,i,none⟩ v):=(Upd.refl (λ k=>k=b) w).setCell (.inl rfl) v
structure zdb (F F':Nat->Prop) (w w':World):Prop where
 upd:Upd F w w'
 sub:∀ k,F' k->F k\/w.heap.size<=k
theorem zdb.trans {F F' F'':Nat->Prop} {a b c:World} (h:zdb F F' a b) (k:zdb F' F'' b c):zdb F F'' a c :=
 ⟨h.upd.trans' k.upd (λ j hj hx=>(h.sub j hx).resolve_right (by omega)),λ j hj=>by
  rcases k.sub j hj with hx|hx
  ·exact h.sub j hx
  ·exact .inr (Nat.le_trans h.upd.size hx)⟩
theorem zaa {w:World} {b i:Nat} {cs:Array Value} {T:TypeId} {fr:Nat × Nat} {v:Value} (h:w.heap[b]?=some (.cells cs T fr)) (hv:cs[i]?=some v):w.cell? ⟨b,i,none⟩=some v:=by
 simp [World.cell?,h,hv]
theorem zad {w:World} {b:Nat} {cs:Array Value} {T:TypeId} (h:w.heap[b]?=some (.cells cs T (0,0))) (i:Nat):w.frozen? ⟨b,i,none⟩=false:=by
 simp [World.frozen?,h]
theorem zac {w:World} {b i:Nat} {cs:Array Value} {T:TypeId} {fr:Nat × Nat} (h:w.heap[b]?=some (.cells cs T fr)) (v:Value):(w.setCell ⟨b,i,none⟩ v).heap[b]?=some (.cells (cs.setIfInBounds i v) T fr):=by
 simp [World.setCell,Array.getElem?_modify,h]
theorem zae {w:World} {b i b':Nat} (v:Value) (h:b'≠b):(w.setCell ⟨b,i,none⟩ v).heap[b']?=w.heap[b']?:=Below.heap_setCell _ _ _ _ h
theorem zao {w:World} {b:Nat} (o:Obj) (h:b<w.heap.size):(w.alloc o).heap[b]?=w.heap[b]?:=Below.heap_alloc _ _ _ h
theorem zab {w:World} {b:Nat} {o:Obj} (h:w.heap[b]?=some o):b<w.heap.size:=(Array.getElem?_eq_some_iff.1 h).1
theorem Upd.at {S:Nat->Prop} {w w':World} (h:Upd S w w') {k:Nat} {o:Obj} (hk:w.heap[k]?=some o) (hn:¬S k):w'.heap[k]?=some o:=(h.block k (zab hk) hn).trans hk
theorem zkk (a:Value) (ha:a.oneCell'=true):∀ u∈[a],u.oneCell'=true:=by
 intro u hu;simp at hu;rw [hu];exact ha
theorem znn (a b:Value) (ha:a.oneCell'=true) (hb:b.oneCell'=true):∀ u∈[a,b],u.oneCell'=true:=by
 intro u hu;simp at hu;rcases hu with rfl|rfl <;> assumption
structure zq5 (κ:Type) where
 enc:κ->Value
 desc:TypeDesc
 key:∀ a,IsKey desc (enc a)
 inj:∀ a b,enc a=enc b->a=b
def zeZ:zq5 Int:=⟨λ n=>.int .i64 n,.int .i64,λ _=>rfl,λ a b h=>by cases h;rfl⟩
def zq9:zq5 ByteArray:=⟨λ s=>.string s,.string,λ _=>trivial,λ a b h=>by cases h;rfl⟩
section maps
variable {κ α:Type} [DecidableEq κ]
def zbg:List (κ × α)->κ->Option α
 | [],_=>none
 | p::r,k=>if p.1=k then some p.2 else zbg r k
def del (m:List (κ × α)) (k:κ):List (κ × α):=m.filter (λ p=>decide (p.1≠k))
def put (m:List (κ × α)) (k:κ) (v:α):List (κ × α):=(k,v)::del m k
theorem zcy {m:List (κ × α)} {k:κ}:zbg m k=none ↔ ∀ p∈m,p.1≠k:=by
 induction m with
 | nil=>simp [zbg]
 | cons p r ih=>unfold zbg;by_cases h:p.1=k <;> simp [h,ih]
theorem zfy {m:List (κ × α)} {k:κ} {a:α} (hn:(m.map Prod.fst).Nodup):zbg m k=some a ↔ (k,a)∈m:=by
 induction m with
 | nil=>simp [zbg]
 | cons p r ih =>
   simp only [List.map_cons,List.nodup_cons] at hn
   unfold zbg
   by_cases h:p.1=k
   ·simp only [h,if_true,List.mem_cons]
    constructor
    ·intro e;cases e;exact .inl (by rw [<-h])
    ·intro e
     rcases e with e|e
     ·rw [<-e]
     ·exact absurd (List.mem_map.2 ⟨(k,a),e,h.symm⟩) hn.1
   ·simp only [h,if_false,List.mem_cons,ih hn.2]
    constructor
    ·exact .inr
    ·intro e
     rcases e with e|e
     ·exact absurd (by rw [<-e]) h
     ·exact e
theorem zhl {m m':List (κ × α)} (hp:m.Perm m') (hn:(m.map Prod.fst).Nodup) (k:κ):zbg m k=zbg m' k:=by
 have hn':(m'.map Prod.fst).Nodup:=(hp.map _).nodup_iff.1 hn
 cases h:zbg m k with
 | none =>
   rw [eq_comm,zcy]
   exact λ p hp'=>zcy.1 h p (hp.mem_iff.2 hp')
 | some a=>rw [eq_comm,zfy hn'];exact hp.mem_iff.1 ((zfy hn).1 h)
theorem zfk (m:List (κ × α)) (k k':κ):zbg (del m k) k'=if k=k' then none else zbg m k':=by
 induction m with
 | nil=>simp [del,zbg]
 | cons p r ih =>
   unfold del at ih ⊢
   by_cases hp:p.1=k
   ·rw [List.filter_cons_of_neg (by simp [hp]),ih]
    by_cases h:k=k'
    ·simp [h]
    ·simp only [zbg,hp,h,if_false]
   ·rw [List.filter_cons_of_pos (by simp [hp])]
    simp only [zbg,ih]
    by_cases h:k=k'
    ·subst h;simp [hp]
    ·simp [h]
theorem zcJ (m:List (κ × α)) (k k':κ) (v:α):zbg (put m k v) k'=if k=k' then some v else zbg m k':=by
 unfold put
 simp only [zbg,zfk]
 by_cases h:k=k' <;> simp [h]
theorem zcK {m:List (κ × α)} {k:κ} (h:zbg m k=none):del m k=m:=by
 unfold del
 exact List.filter_eq_self.2 λ p hp=>by simpa using zcy.1 h p hp
theorem zgA {m m':List (κ × α)} (hp:m.Perm m') (k:κ):(del m k).Perm (del m' k):=hp.filter _
theorem zji {m m':List (κ × α)} (hp:m.Perm m') (k:κ) (v:α):(put m k v).Perm (put m' k v):=(zgA hp k).cons _
def za2 (K:zq5 κ) (V:α->Value) (w:World) (r:Nat) (m:List (κ × α)):Prop :=
 ∃ (es:Array MapEntry) (clock:Nat) (m0:List (κ × α)),w.heap[r]?=some (.map es clock)/\Stamped es clock/\es.toList.map (λ e=>(e.key,e.val))=m0.map (λ p=>(K.enc p.1,V p.2))/\m0.Perm m
variable {K:zq5 κ} {V:α->Value} {w:World} {r:Nat} {m:List (κ × α)}
omit [DecidableEq κ] in
theorem za2.lt (h:za2 K V w r m):r<w.heap.size:=by obtain ⟨es,clock,m0,hb,_⟩:=h;exact zab hb
omit [DecidableEq κ] in
theorem za2.of_heap (h:za2 K V w r m) {w':World} (e:w'.heap[r]?=w.heap[r]?):za2 K V w' r m:=by
 obtain ⟨es,clock,m0,hb,hs,he,hm⟩:=h;exact ⟨es,clock,m0,e.trans hb,hs,he,hm⟩
omit [DecidableEq κ] in
theorem za2.upd (h:za2 K V w r m) {S:Nat->Prop} {w':World} (hu:Upd S w w') (hn:¬S r):za2 K V w' r m:=h.of_heap (hu.block r h.lt hn)
omit [DecidableEq κ] in
theorem za2.alloc (h:za2 K V w r m) (o:Obj):za2 K V (w.alloc o) r m:=h.of_heap (zao o h.lt)
omit [DecidableEq κ] in
theorem za2.made (w:World):za2 K V (w.alloc (.map #[] 0)) w.heap.size ([]:List (κ × α)) :=
 ⟨#[],0,[],(heap_alloc w _).1,stamped_empty 0,rfl,.refl _⟩
omit [DecidableEq κ] in
theorem zfz {es:List MapEntry} {m0:List (κ × α)} (he:es.map (λ e=>(e.key,e.val))=m0.map (λ p=>(K.enc p.1,V p.2))):es.map (·.key)=(m0.map Prod.fst).map K.enc:=by
 have:=congrArg (List.map Prod.fst) he
 simpa [Function.comp_def] using this
omit [DecidableEq κ] in
theorem zkl {es:List MapEntry} {m0:List (κ × α)} (he:es.map (λ e=>(e.key,e.val))=m0.map (λ p=>(K.enc p.1,V p.2))):∀ x∈es,IsKey K.desc x.key:=by
 intro x hx
 have h1:x.key∈es.map (·.key):=List.mem_map.2 ⟨x,hx,rfl⟩
 rw [zfz he] at h1
 obtain ⟨k,_,e⟩:=List.mem_map.1 h1
 rw [<-e];exact K.key k
omit [DecidableEq κ] in
theorem zcz {es:Array MapEntry} {clock:Nat} {m0:List (κ × α)} (hs:Stamped es clock) (he:es.toList.map (λ e=>(e.key,e.val))=m0.map (λ p=>(K.enc p.1,V p.2))):(m0.map Prod.fst).Nodup:=by
 have h1:=hs.2.2
 rw [zfz he] at h1
 exact List.Pairwise.imp (λ hne e=>hne (by rw [e])) (List.pairwise_map.1 h1)
omit [DecidableEq κ] in
theorem zns {es:List MapEntry} {m0:List (κ × α)} (he:es.map (λ e=>(e.key,e.val))=m0.map (λ p=>(K.enc p.1,V p.2))) {j:Nat} {e:MapEntry} (hj:es[j]?=some e):∃ p,m0[j]?=some p/\e.key=K.enc p.1/\e.val=V p.2:=by
 have h1:(es.map (λ e=>(e.key,e.val)))[j]?=some (e.key,e.val):=by simp [hj]
 rw [he] at h1
 simp only [List.getElem?_map,Option.map_eq_some_iff] at h1
 obtain ⟨p,hp,e1⟩:=h1
 simp only [Prod.mk.injEq] at e1
 exact ⟨p,hp,e1.1.symm,e1.2.symm⟩
theorem zd8 {es:Array MapEntry} {clock:Nat} {m0:List (κ × α)} (hs:Stamped es clock) (he:es.toList.map (λ e=>(e.key,e.val))=m0.map (λ p=>(K.enc p.1,V p.2))) (k:κ) :
 (zbg m0 k=none/\Instr.findNow K.desc (K.enc k) es.toList 0=some none/\∀ x∈es.toList,x.key≠K.enc k) \/
 ∃ j e a,zbg m0 k=some a/\Instr.findNow K.desc (K.enc k) es.toList 0=some (some (j,V a))/\es.toList[j]?=some e/\m0[j]?=some (k,a)/\e.key=K.enc k:=by
 rcases findNow_spec (K.key k) es.toList 0 (zkl he) with ⟨h1,h2⟩|⟨j,e,h1,h2,h3⟩
 ·refine .inl ⟨?_,h1,h2⟩
  rw [zcy]
  intro p hp e
  have h4:K.enc p.1∈es.toList.map (·.key):=by rw [zfz he];exact List.mem_map.2 ⟨p.1,List.mem_map.2 ⟨p,hp,rfl⟩,rfl⟩
  obtain ⟨x,hx,e1⟩:=List.mem_map.1 h4
  exact h2 x hx (by rw [e1,e])
 ·obtain ⟨p,hp,e1,e2⟩:=zns he h2
  have hk:p.1=k:=K.inj _ _ (e1.symm.trans h3)
  have hm:p=(k,p.2):=by rw [<-hk]
  refine .inr ⟨j,e,p.2,?_,by rw [<-e2];simpa using h1,h2,by rw [hp,hm],h3⟩
  rw [zfy (zcz hs he),<-hm]
  exact List.mem_of_getElem? hp
theorem zb6 {P:Program} {t kt et:TypeId} (h:za2 K V w r m) (ht:P.underlying t=some (.map kt et)) (hk:P.underlying kt=some K.desc) {z:Value} (hz:(zeroValue et).run P w=.ok z w) (k:κ) :
 (Instr.lookup t (.map (some r)) (K.enc k) false).run P w=.ok (((zbg m k).map V).getD z) w:=by
 obtain ⟨es,clock,m0,hb,hs,he,hm⟩:=h
 rw [<-zhl hm (zcz hs he)]
 rcases zd8 hs he k with ⟨h0,h1,h2⟩|⟨j,e,a,h0,h1,h2,h3,h4⟩
 ·simp [Instr.lookup,run_underlying ht,MapKept.run_getObj_map hb,run_checkKey hk (K.key k),run_findKey hk h1,hz,h0,Result.andThen]
 ·simp [Instr.lookup,run_underlying ht,MapKept.run_getObj_map hb,run_checkKey hk (K.key k),run_findKey hk h1,h0,Result.andThen]
theorem zcL {P:Program} {t kt et:TypeId} (h:za2 K V w r m) (ht:P.underlying t=some (.map kt et)) (hk:P.underlying kt=some K.desc) {z:Value} (hz:(zeroValue et).run P w=.ok z w) (k:κ) :
 (Instr.lookup t (.map (some r)) (K.enc k) true).run P w=.ok (.tuple #[((zbg m k).map V).getD z,.bool (zbg m k).isSome]) w:=by
 obtain ⟨es,clock,m0,hb,hs,he,hm⟩:=h
 rw [<-zhl hm (zcz hs he)]
 rcases zd8 hs he k with ⟨h0,h1,h2⟩|⟨j,e,a,h0,h1,h2,h3,h4⟩
 ·simp [Instr.lookup,run_underlying ht,MapKept.run_getObj_map hb,run_checkKey hk (K.key k),run_findKey hk h1,hz,h0,Result.andThen]
 ·simp [Instr.lookup,run_underlying ht,MapKept.run_getObj_map hb,run_checkKey hk (K.key k),run_findKey hk h1,h0,Result.andThen]
def zb9 (w:World) (r:Nat) (o:Obj):World:={ w with heap:=w.heap.setIfInBounds r o }
theorem zcM (w:World) (r:Nat) (o:Obj):Upd (·=r) w (zb9 w r o) :=
 ⟨rfl,rfl,rfl,by simp [zb9],λ k _ hn=>by simp [zb9,Ne.symm hn]⟩
omit [DecidableEq κ] in
theorem znt {l:List (κ × α)} {j:Nat} {p:κ × α} (h:l[j]?=some p):l=l.take j++p::l.drop (j+1):=by
 have hj:=(List.getElem?_eq_some_iff.1 h)
 obtain ⟨hlt,e⟩:=hj
 rw [<-e,List.getElem_cons_drop];simp
theorem zhm {l:List (κ × α)} {j:Nat} {k:κ} {a:α} (h:l[j]?=some (k,a)) (hn:(l.map Prod.fst).Nodup):del l k=l.take j++l.drop (j+1):=by
 have e:=znt h
 have hn':=hn
 rw [e] at hn'
 simp only [List.map_append,List.map_cons,List.nodup_append,List.nodup_cons] at hn'
 have h1:del (l.take j) k=l.take j:=zcK (zcy.2 λ p hp hk=>hn'.2.2 p.1 (List.mem_map.2 ⟨p,hp,rfl⟩) k (by simp) hk)
 have h2:del (l.drop (j+1)) k=l.drop (j+1):=zcK (zcy.2 λ p hp hk=>hn'.2.1.1 (by rw [<-hk];exact List.mem_map.2 ⟨p,hp,rfl⟩))
 conv=>lhs;rw [e]
 unfold del at h1 h2 ⊢
 rw [List.filter_append,List.filter_cons_of_neg (by simp),h1,h2]
theorem zcN {P:Program} {t kt et:TypeId} (h:za2 K V w r m) (ht:P.underlying t=some (.map kt et)) (hk:P.underlying kt=some K.desc) (k:κ) (a:α) :
 ∃ w',(Instr.mapUpdate t (.map (some r)) (K.enc k) (V a)).run P w=.ok () w'/\za2 K V w' r (put m k a)/\Upd (·=r) w w':=by
 obtain ⟨es,clock,m0,hb,hs,he,hm⟩:=h
 have hnd:=zcz hs he
 rcases zd8 hs he k with ⟨h0,h1,h2⟩|⟨j,e,b,h0,h1,h2,h3,h4⟩
 ·refine ⟨zb9 w r (.map (es.push { key:=K.enc k,val:=V a,born:=clock }) (clock+1)),?_,⟨_,_,m0++[(k,a)],(heap_set hb).1,stamped_push hs h2,by simp [he],?_⟩,zcM _ _ _⟩
  ·simp [Instr.mapUpdate,run_underlying ht,MapKept.run_getObj_map hb,run_checkKey hk (K.key k),run_findKey hk h1,run_setObj_map _ hb,zb9,Result.andThen]
  ·refine List.Perm.trans ?_ (zji hm k a)
   unfold put
   rw [zcK h0]
   exact List.perm_append_comm
 ·have hj:es[j]?=some e:=by simpa using h2
  have hkey:∀ e',es[j]?=some e'->({ e' with key:=K.enc k,val:=V a }:MapEntry).key=e'.key:=λ e' he'=>by rw [hj] at he';cases he';exact h4.symm
  refine ⟨zb9 w r (.map (es.modify j λ e=>{ e with key:=K.enc k,val:=V a }) clock),?_,⟨_,_,m0.set j (k,a),(heap_set hb).1,stamped_modify hs _ _ (λ _ _=>rfl) (λ e' _ he'=>hkey e' he'),?_,?_⟩,zcM _ _ _⟩
  ·simp [Instr.mapUpdate,run_underlying ht,MapKept.run_getObj_map hb,run_checkKey hk (K.key k),run_findKey hk h1,hj,h4,run_keyThatStays (K.key k),run_setObj_map _ hb,zb9,Result.andThen]
  ·apply List.ext_getElem?
   intro i
   have hei:=congrArg (λ l=>l[i]?) he
   simp only [List.getElem?_map] at hei
   simp only [List.getElem?_map,Array.toList_modify,List.getElem?_modify,List.getElem?_set]
   by_cases hij:j=i
   ·subst hij
    have hlt:j<m0.length:=(List.getElem?_eq_some_iff.1 h3).1
    simp [h2,hlt]
   ·simpa [hij] using hei
  ·refine List.Perm.trans ?_ (zji hm k a)
   unfold put
   have hlt:j<m0.length:=(List.getElem?_eq_some_iff.1 h3).1
   rw [zhm h3 hnd,List.set_eq_take_append_cons_drop,if_pos hlt]
   exact List.perm_middle
theorem zkm {P:Program} {t kt et ty:TypeId} (h:za2 K V w r m) (ht:P.underlying t=some (.map kt et)) (hk:P.underlying kt=some K.desc) (k:κ) :
 ∃ w',(Builtin.delete_ #[t,kt] ty #[.map (some r),K.enc k]).run P w=.ok (.tuple #[]) w'/\za2 K V w' r (del m k)/\Upd (·=r) w w':=by
 obtain ⟨es,clock,m0,hb,hs,he,hm⟩:=h
 have hnd:=zcz hs he
 rcases zd8 hs he k with ⟨h0,h1,h2⟩|⟨j,e,b,h0,h1,h2,h3,h4⟩
 ·refine ⟨zb9 w r (.map es clock),?_,⟨_,_,m0,(heap_set hb).1,hs,he,?_⟩,zcM _ _ _⟩
  ·simp [Builtin.delete_,run_underlying ht,MapKept.run_getObj_map hb,run_checkKey hk (K.key k),run_findKey hk h1,run_setObj_map _ hb,zb9,Result.andThen]
  ·have:=zgA hm k
   rw [zcK h0] at this
   exact this
 ·refine ⟨zb9 w r (.map (es.eraseIdxIfInBounds j) clock),?_,⟨_,_,m0.eraseIdx j,(heap_set hb).1,stamped_erase hs j,?_,?_⟩,zcM _ _ _⟩
  ·simp [Builtin.delete_,run_underlying ht,MapKept.run_getObj_map hb,run_checkKey hk (K.key k),run_findKey hk h1,run_setObj_map _ hb,zb9,Result.andThen]
  ·have hlt:j<es.size:=by have:=(List.getElem?_eq_some_iff.1 h2).1;simpa using this
   unfold Array.eraseIdxIfInBounds
   rw [dif_pos hlt,Array.toList_eraseIdx,List.eraseIdx_eq_take_drop_succ,List.eraseIdx_eq_take_drop_succ]
   simp only [List.map_append,List.map_take,List.map_drop,he]
  ·refine List.Perm.trans ?_ (zgA hm k)
   rw [zhm h3 hnd,List.eraseIdx_eq_take_drop_succ]
end maps
open Go.RowKit
def zps (B:Nat) (v:Value) (l:List UInt8) (w:World):Prop :=
 ∃ g cap cs fr,v=.slice (some ⟨g,0,none⟩) l.length cap/\B<=g/\w.heap[g]?=some (.cells cs 5 fr)/\cs.size=cap/\l.length<=cap/\(∀ i,i<cap->w.frozen? ⟨g,i,none⟩=false)/\∀ i (h:i<l.length),cs[i]?=some (.int .u8 l[i].toNat)
theorem zra:(Tryz.prog.info? 5).map (λ i=>(i.zero,i.size,i.bytes))=some (some (.int .u8 0),1,1):=by kernel_rfl
theorem laidOut:laidOutB Tryz.prog=true:=by kernel_rfl
def Reads (w:World) (T:TypeId) (v:Value):Prop :=
 ∃ (H:Type) (enc:TypeId × Value->H) (d:DataW H) (p:List MemPlace) (base:Nat),Value.okWide Tryz.prog w .any base T v/\DataW.Trod enc Tryz.prog w 0 (λ _=>true) true T v d p
theorem zlf {w:World} {T:TypeId} {k:IntKind} {v:Value} (ht:Tryz.prog.underlying T=some (.int k)) (h:Reads w T v):∃ n,v=.int k n/\(Lit.int k n).wf=true:=by
 obtain ⟨H,enc,d,p,base,h1,h2⟩:=h
 obtain ⟨n,rfl,_,_,hw⟩:=ChangeShapes.open_int ht h1 h2
 exact ⟨n,rfl,hw⟩
theorem zin {α:Type} {n:Nat} {p:Nat->α->Prop} (h:∀ i,i<n->∃ x,p i x):∃ l:List α,l.length=n/\∀ i,(hi:i<l.length)->p i l[i]:=by
 induction n with
 | zero=>exact ⟨[],rfl,λ i hi=>absurd hi (by simp)⟩
 | succ n ih =>
   obtain ⟨l,hl,hp⟩:=ih (λ i hi=>h i (by omega))
   obtain ⟨x,hx⟩:=h n (by omega)
   refine ⟨l++[x],by simp [hl],λ i hi=>?_⟩
   by_cases e:i<l.length
   ·rw [List.getElem_append_left e];exact hp i e
   ·have:i=n:=by simp at hi;omega
    subst this
    rw [List.getElem_append_right (by omega)]
    simpa [hl] using hx
def zb2 (w:World) (e:TypeId) (cs:List Value):Prop:=∃ (H:Type) (enc:TypeId × Value->H) (m:Nat) (y:DataW H × List MemPlace),DataW.trod enc Tryz.prog w 0 (λ _=>true) true m e cs=some y
theorem Reads.c {w:World} {T:TypeId} {v:Value} (h:Reads w T v):zb2 w T v.cells.toList:=by
 obtain ⟨H,enc,d,p,base,h1,fuel,hf⟩:=h
 exact ⟨H,enc,fuel,_,hf⟩
theorem zgB {w:World} {T:TypeId} {cs:List Value} {fs:Array Field} (ht:Tryz.prog.underlying T=some (.struct fs)) (h:zb2 w T cs) :
 cs.length=Tryz.prog.cellsOf T/\∀ (i:Nat) (f:Field),fs[i]?=some f->zb2 w f.type ((cs.drop f.offset).take (Tryz.prog.cellsOf f.type)):=by
 obtain ⟨H,enc,m,y,h⟩:=h
 obtain ⟨xs,n,_,_,hl,hx,hf⟩:=DataW.trod_struct ht h
 refine ⟨hl,λ i f hi=>?_⟩
 have:=hf i f hi
 have hlt:i<xs.length:=by rw [hx];exact (Array.getElem?_eq_some_iff.1 hi).1
 rw [List.getElem?_eq_getElem hlt] at this
 exact ⟨H,enc,n,_,this⟩
theorem zio {w:World} {T:TypeId} {cs:List Value} (ht:Tryz.prog.underlying T=some .bool) (h:zb2 w T cs):∃ b,cs=[.bool b]:=by
 obtain ⟨H,enc,m,y,h⟩:=h
 obtain ⟨b,hb,_⟩:=DataW.trod_bool ht h
 exact ⟨b,hb⟩
theorem zeD {w:World} {T:TypeId} {k:IntKind} {cs:List Value} (ht:Tryz.prog.underlying T=some (.int k)) (h:zb2 w T cs):∃ n,cs=[.int k n]/\(Lit.int k n).wf=true:=by
 obtain ⟨H,enc,m,y,h⟩:=h
 obtain ⟨b,hb,_,hw⟩:=DataW.trod_int ht h
 exact ⟨b,hb,hw⟩
theorem zgC {w:World} {T:TypeId} {cs:List Value} (ht:Tryz.prog.underlying T=some .string) (h:zb2 w T cs):∃ s,cs=[.string s]/\s.size<=maxLen:=by
 obtain ⟨H,enc,m,y,h⟩:=h
 obtain ⟨b,hb,_,hw⟩:=DataW.trod_string ht h
 exact ⟨b,hb,hw⟩
theorem zhn {w:World} {T e:TypeId} {cs:List Value} (ht:Tryz.prog.underlying T=some (.slice e)) (h0:0<Tryz.prog.cellsOf e) (h:zb2 w T cs) :
 ∃ a len cap,cs=[.slice a len cap]/\len<=cap/\cap<=maxLen/\∀ k,k<len->∃ b off es,a=some ⟨b,off,none⟩/\es.length=Tryz.prog.cellsOf e/\b<w.heap.size/\(∀ j,j<es.length->w.cell? ⟨b,off+k*Tryz.prog.cellsOf e+j,none⟩=es[j]?)/\zb2 w e es:=by
 obtain ⟨H,enc,m,y,h⟩:=h
 rcases Deep.open_slice ht h with ⟨rfl,_⟩|⟨x,l,c,m,n,D,Pl,rfl,_,hl,hm,hmm,_,hel⟩
 ·exact ⟨none,0,0,rfl,zNr _,zNz _,λ k hk=>by omega⟩
 ·simp only [if_true] at hmm
  subst hmm
  have hget:∀ k,k<l->∃ es,es.length=Tryz.prog.cellsOf e/\(∀ j,j<es.length->w.cell? ((x.add (k*Tryz.prog.cellsOf e)).add j)=es[j]?)/\zb2 w e es:=by
   intro k hk
   obtain ⟨es,g1,g2⟩:=hel k (by omega)
   obtain ⟨_,q1,q2⟩:=World.cells?_some g1
   exact ⟨es,q1,λ j hj=>q2 j (by omega),⟨H,enc,n,_,g2⟩⟩
  refine ⟨some x,l,_,rfl,hl,hm,λ k hk=>?_⟩
  have hs:x.spot=none:=by
   obtain ⟨es,q1,q2,_⟩:=hget 0 (by omega)
   have:=q2 0 (by omega)
   rw [List.getElem?_eq_getElem (by omega)] at this
   have:=World.cell?_spot this
   simpa [Addr.add] using this
  obtain ⟨es,q1,q2,q3⟩:=hget k hk
  obtain ⟨b,o,sp⟩:=x
  simp only at hs
  subst hs
  have e1:∀ j,((⟨b,o,none⟩:Addr).add (k*Tryz.prog.cellsOf e)).add j=⟨b,o+k*Tryz.prog.cellsOf e+j,none⟩:=by
   intro j
   unfold Addr.add
   by_cases h1:k*Tryz.prog.cellsOf e=0 <;> by_cases h2:j=0 <;> simp [h1,h2]
  refine ⟨b,o,es,rfl,q1,?_,λ j hj=>by rw [<-e1];exact q2 j hj,q3⟩
  have:=q2 0 (by omega)
  rw [List.getElem?_eq_getElem (by omega),e1] at this
  exact World.block_lt_of_cell? w _ this
theorem zip {w:World} {T e:TypeId} {v:Value} (ht:Tryz.prog.underlying T=some (.slice e)) (h0:0<Tryz.prog.cellsOf e) (h:Reads w T v) :
 ∃ a len cap,v=.slice a len cap/\len<=cap/\cap<=maxLen/\∀ k,k<len->∃ b off es,a=some ⟨b,off,none⟩/\es.length=Tryz.prog.cellsOf e/\b<w.heap.size/\(∀ j,j<es.length->w.cell? ⟨b,off+k*Tryz.prog.cellsOf e+j,none⟩=es[j]?)/\zb2 w e es:=by
 have hc:=h.c
 obtain ⟨H,enc,d,p,base,h1,h2⟩:=h
 obtain ⟨a,len,cap,rfl⟩:=WideShapes.okWide_slice ht h1
 obtain ⟨a',len',cap',e1,r⟩:=zhn ht h0 hc
 simp [Value.cells] at e1
 obtain ⟨rfl,rfl,rfl⟩:=e1
 exact ⟨_,_,_,rfl,r⟩
open Ieee
open Ieee
def zf6 (L:List (List UInt8)):Prop:=∀ p∈L,1<=p.length/\p.length<=128
end Go.Proofs.YtdcjhpafipbpkaaGreatDoor
namespace Go.Proofs
open Go.Shelf
def Tryz.lays169_ren:Go.Shelf.Ren:=⟨fun|169=>83|n=>n,fun|70=>154|9=>9|0=>0|72=>156|37=>91|127=>235|3=>3|5=>5|n=>n,fun|n=>n⟩
theorem Tryz.lays169:Go.Proofs.Lays.n169 Tryz.prog Tryz.lays169_ren:={
 mixed:=by kernel_rfl
 f169:=Tryz.func83.trans (congrArg some (by kernel_rfl))
 t0:=Tryz.underlying0
 a0:=Tryz.isAgg0
 z0:=Tryz.sizeOf0
 v0:=Tryz.zeroValue0
 t3:=Tryz.underlying3
 a3:=Tryz.isAgg3
 z3:=Tryz.sizeOf3
 v3:=Tryz.zeroValue3
 t9:=Tryz.underlying9
 a9:=Tryz.isAgg9
 z9:=Tryz.sizeOf9
 v9:=Tryz.zeroValue9
 t37:=Tryz.underlying91
 a37:=Tryz.isAgg91
 z37:=Tryz.sizeOf91
 v37:=Tryz.zeroValue91
 t70:=Tryz.underlying154
 a70:=Tryz.isAgg154
 z70:=Tryz.sizeOf154
 v70:=Tryz.zeroValue154
 t72:=Tryz.underlying156
 a72:=Tryz.isAgg156
 z72:=Tryz.sizeOf156
 v72:=Tryz.zeroValue156
 t127:=Tryz.underlying235
 a127:=Tryz.isAgg235
 z127:=Tryz.sizeOf235
 v127:=Tryz.zeroValue235 }
theorem Tryz.Builder_Extra_169:Builder.Extra Tryz.prog Tryz.lays169_ren:={
 sizeBuilder:=by kernel_rfl
 liesBuilder:=by kernel_rfl
 t5:=Tryz.underlying5
 a5:=Tryz.isAgg5
 z5:=Tryz.sizeOf5
 v5:=Tryz.zeroValue5
 infoByte:=by kernel_rfl
 cellsByte:=by kernel_rfl
 sizeByte:=by kernel_rfl
 neB5:=by decide }
def Tryz.lays160_ren:Go.Shelf.Ren:=⟨fun|160=>110|232=>155|231=>154|227=>156|234=>158|233=>157|236=>160|235=>159|228=>199|271=>202|151=>201|197=>200|120=>248|152=>247|260=>246|137=>272|119=>273|224=>274|225=>275|217=>280|266=>283|n=>n,fun|9=>9|4=>4|3=>3|5=>5|117=>247|116=>246|0=>0|124=>250|21=>21|105=>282|46=>215|119=>343|139=>346|138=>345|n=>n,fun|3=>0|4=>1|n=>n⟩
theorem Tryz.lays160:Go.Proofs.Lays.n160 Tryz.prog Tryz.lays160_ren:={
 mixed:=by kernel_rfl
 f119:=Tryz.func273.trans (congrArg some (by kernel_rfl))
 f120:=Tryz.func248.trans (congrArg some (by kernel_rfl))
 f137:=Tryz.func272.trans (congrArg some (by kernel_rfl))
 f151:=Tryz.func201.trans (congrArg some (by kernel_rfl))
 f152:=Tryz.func247.trans (congrArg some (by kernel_rfl))
 f160:=Tryz.func110.trans (congrArg some (by kernel_rfl))
 f197:=Tryz.func200.trans (congrArg some (by kernel_rfl))
 f217:=Tryz.func280.trans (congrArg some (by kernel_rfl))
 f224:=Tryz.func274.trans (congrArg some (by kernel_rfl))
 f225:=Tryz.func275.trans (congrArg some (by kernel_rfl))
 f227:=Tryz.func156.trans (congrArg some (by kernel_rfl))
 f228:=Tryz.func199.trans (congrArg some (by kernel_rfl))
 f231:=Tryz.func154.trans (congrArg some (by kernel_rfl))
 f232:=Tryz.func155.trans (congrArg some (by kernel_rfl))
 f233:=Tryz.func157.trans (congrArg some (by kernel_rfl))
 f234:=Tryz.func158.trans (congrArg some (by kernel_rfl))
 f235:=Tryz.func159.trans (congrArg some (by kernel_rfl))
 f236:=Tryz.func160.trans (congrArg some (by kernel_rfl))
 f260:=Tryz.func246.trans (congrArg some (by kernel_rfl))
 f266:=Tryz.func283.trans (congrArg some (by kernel_rfl))
 f271:=Tryz.func202.trans (congrArg some (by kernel_rfl))
 t0:=Tryz.underlying0
 a0:=Tryz.isAgg0
 z0:=Tryz.sizeOf0
 v0:=Tryz.zeroValue0
 t3:=Tryz.underlying3
 a3:=Tryz.isAgg3
 z3:=Tryz.sizeOf3
 v3:=Tryz.zeroValue3
 t4:=Tryz.underlying4
 a4:=Tryz.isAgg4
 z4:=Tryz.sizeOf4
 v4:=Tryz.zeroValue4
 t5:=Tryz.underlying5
 a5:=Tryz.isAgg5
 z5:=Tryz.sizeOf5
 v5:=Tryz.zeroValue5
 t9:=Tryz.underlying9
 a9:=Tryz.isAgg9
 z9:=Tryz.sizeOf9
 v9:=Tryz.zeroValue9
 t21:=Tryz.underlying21
 a21:=Tryz.isAgg21
 z21:=Tryz.sizeOf21
 v21:=Tryz.zeroValue21
 t46:=Tryz.underlying215
 a46:=Tryz.isAgg215
 z46:=Tryz.sizeOf215
 v46:=Tryz.zeroValue215
 t105:=Tryz.underlying282
 a105:=Tryz.isAgg282
 z105:=Tryz.sizeOf282
 v105:=Tryz.zeroValue282
 t116:=Tryz.underlying246
 a116:=Tryz.isAgg246
 z116:=Tryz.sizeOf246
 t117:=Tryz.underlying247
 a117:=Tryz.isAgg247
 z117:=Tryz.sizeOf247
 v117:=Tryz.zeroValue247
 t119:=Tryz.underlying343
 a119:=Tryz.isAgg343
 z119:=Tryz.sizeOf343
 t124:=Tryz.underlying250
 a124:=Tryz.isAgg250
 z124:=Tryz.sizeOf250
 v124:=Tryz.zeroValue250
 t138:=Tryz.underlying345
 a138:=Tryz.isAgg345
 z138:=Tryz.sizeOf345
 v138:=Tryz.zeroValue345
 t139:=Tryz.underlying346
 a139:=Tryz.isAgg346
 z139:=Tryz.sizeOf346
 v139:=Tryz.zeroValue346
 g3:=by kernel_rfl
 g4:=by kernel_rfl }
open Go.RowKit in
theorem Tryz.strings_Trim_one (s:ByteArray) (c:UInt8) (hc:c.toNat<128) (w:World) (hs:s.size<=9223372036854775807) :
 Calls Tryz.prog 110 #[.string s,.string ⟨#[c]⟩] w λ e w'=>e=.returned (.string ⟨(Lib.trimB s.data.toList c).toArray⟩)/\(w'=w\/w'=w.drew):=Any.strings_Trim_one Tryz.lays160 s c hc w hs
def Tryz.lays135_ren:Go.Shelf.Ren:=⟨fun|135=>106|n=>n,fun|5=>5|3=>3|9=>9|n=>n,fun|n=>n⟩
theorem Tryz.lays135:Go.Proofs.Lays.n135 Tryz.prog Tryz.lays135_ren:={
 mixed:=by kernel_rfl
 f135:=Tryz.func106.trans (congrArg some (by kernel_rfl))
 t3:=Tryz.underlying3
 a3:=Tryz.isAgg3
 z3:=Tryz.sizeOf3
 v3:=Tryz.zeroValue3
 t5:=Tryz.underlying5
 a5:=Tryz.isAgg5
 z5:=Tryz.sizeOf5
 v5:=Tryz.zeroValue5
 t9:=Tryz.underlying9
 a9:=Tryz.isAgg9
 z9:=Tryz.sizeOf9
 v9:=Tryz.zeroValue9 }
theorem Tryz.bits_OnesCount8 (x:Int) (w:World) (h0:0<=x) (h1:x<=255) :
 Calls Tryz.prog 106 #[.int .u8 x] w λ e w'=>e=.returned (.int .i64 (Lib.onesCount x.toNat))/\w'=w:=Any.bits_OnesCount8 Tryz.lays135 x w h0 h1
def Tryz.lays136_ren:Go.Shelf.Ren:=⟨fun|136=>144|n=>n,fun|5=>5|3=>3|9=>9|n=>n,fun|n=>n⟩
theorem Tryz.lays136:Go.Proofs.Lays.n136 Tryz.prog Tryz.lays136_ren:={
 mixed:=by kernel_rfl
 f136:=Tryz.func144.trans (congrArg some (by kernel_rfl))
 t3:=Tryz.underlying3
 a3:=Tryz.isAgg3
 z3:=Tryz.sizeOf3
 v3:=Tryz.zeroValue3
 t5:=Tryz.underlying5
 a5:=Tryz.isAgg5
 z5:=Tryz.sizeOf5
 v5:=Tryz.zeroValue5
 t9:=Tryz.underlying9
 a9:=Tryz.isAgg9
 z9:=Tryz.sizeOf9
 v9:=Tryz.zeroValue9 }
theorem Tryz.bits_TrailingZeros8 (x:Int) (w:World) (h0:0<=x) (h1:x<=255) :
 Calls Tryz.prog 144 #[.int .u8 x] w λ e w'=>e=.returned (.int .i64 (Lib.trailingZeros8 x.toNat))/\w'=w:=Any.bits_TrailingZeros8 Tryz.lays136 x w h0 h1
open Go.RowKit in
theorem Tryz.Builder_String_any_k (B b:Nat) (l:List UInt8) (w:World) (h:Lib.IsBuilderF 156 5 B b (Lib.byteCells l) w) (hBw:B<=w.heap.size) :
 Calls Tryz.prog 83 #[.pointer (some ⟨b,0,none⟩)] w λ e w'=>e=.returned (.string ⟨l.toArray⟩)/\(Lib.IsBuilderF 156 5 B b (Lib.byteCells l) w'/\Below B w w'/\Lib.OthersKept 5 (some b) w w'):=Any.Builder_String_any_k Tryz.lays169 Tryz.Builder_Extra_169 B b l w h hBw
def Tryz.lays102_ren:Go.Shelf.Ren:=⟨fun|102=>175|209=>211|207=>254|n=>n,fun|9=>9|4=>4|3=>3|n=>n,fun|n=>n⟩
theorem Tryz.lays102:Go.Proofs.Lays.n102 Tryz.prog Tryz.lays102_ren:={
 mixed:=by kernel_rfl
 f102:=Tryz.func175.trans (congrArg some (by kernel_rfl))
 f207:=Tryz.func254.trans (congrArg some (by kernel_rfl))
 f209:=Tryz.func211.trans (congrArg some (by kernel_rfl))
 t3:=Tryz.underlying3
 a3:=Tryz.isAgg3
 z3:=Tryz.sizeOf3
 v3:=Tryz.zeroValue3
 t4:=Tryz.underlying4
 a4:=Tryz.isAgg4
 z4:=Tryz.sizeOf4
 v4:=Tryz.zeroValue4
 t9:=Tryz.underlying9
 a9:=Tryz.isAgg9
 z9:=Tryz.sizeOf9
 v9:=Tryz.zeroValue9 }
open Go.RowKit Go.Lib in
theorem Tryz.strings_TrimSuffix (s p:ByteArray) (w:World) (hs:s.size<=9223372036854775807) :
 Calls Tryz.prog 175 #[.string s,.string p] w λ e w'=>e=.returned (.string ⟨(Lib.trimSuffix s.data.toList p.data.toList).toArray⟩)/\w'=w:=Any.strings_TrimSuffix Tryz.lays102 s p w hs
def Tryz.lays105_ren:Go.Shelf.Ren:=⟨fun|105=>147|212=>190|99=>191|165=>192|166=>82|170=>170|169=>83|263=>226|264=>227|206=>228|240=>140|241=>229|276=>188|277=>263|n=>n,fun|9=>9|3=>3|4=>4|20=>20|0=>0|46=>215|109=>273|5=>5|72=>156|76=>160|51=>206|146=>307|53=>134|148=>309|70=>154|37=>91|75=>159|127=>235|164=>271|80=>163|n=>n,fun|n=>n⟩
theorem Tryz.lays105:Go.Proofs.Lays.n105 Tryz.prog Tryz.lays105_ren:={
 mixed:=by kernel_rfl
 f99:=Tryz.func191.trans (congrArg some (by kernel_rfl))
 f105:=Tryz.func147.trans (congrArg some (by kernel_rfl))
 f165:=Tryz.func192.trans (congrArg some (by kernel_rfl))
 f166:=Tryz.func82.trans (congrArg some (by kernel_rfl))
 f169:=Tryz.func83.trans (congrArg some (by kernel_rfl))
 f170:=Tryz.func170.trans (congrArg some (by kernel_rfl))
 f206:=Tryz.func228.trans (congrArg some (by kernel_rfl))
 f212:=Tryz.func190.trans (congrArg some (by kernel_rfl))
 f240:=Tryz.func140.trans (congrArg some (by kernel_rfl))
 f241:=Tryz.func229.trans (congrArg some (by kernel_rfl))
 f263:=Tryz.func226.trans (congrArg some (by kernel_rfl))
 f264:=Tryz.func227.trans (congrArg some (by kernel_rfl))
 f276:=Tryz.func188.trans (congrArg some (by kernel_rfl))
 f277:=Tryz.func263.trans (congrArg some (by kernel_rfl))
 t0:=Tryz.underlying0
 a0:=Tryz.isAgg0
 z0:=Tryz.sizeOf0
 v0:=Tryz.zeroValue0
 t3:=Tryz.underlying3
 a3:=Tryz.isAgg3
 z3:=Tryz.sizeOf3
 v3:=Tryz.zeroValue3
 t4:=Tryz.underlying4
 a4:=Tryz.isAgg4
 z4:=Tryz.sizeOf4
 v4:=Tryz.zeroValue4
 t5:=Tryz.underlying5
 a5:=Tryz.isAgg5
 z5:=Tryz.sizeOf5
 v5:=Tryz.zeroValue5
 t9:=Tryz.underlying9
 a9:=Tryz.isAgg9
 z9:=Tryz.sizeOf9
 v9:=Tryz.zeroValue9
 t20:=Tryz.underlying20
 a20:=Tryz.isAgg20
 z20:=Tryz.sizeOf20
 v20:=Tryz.zeroValue20
 t37:=Tryz.underlying91
 a37:=Tryz.isAgg91
 z37:=Tryz.sizeOf91
 v37:=Tryz.zeroValue91
 t46:=Tryz.underlying215
 a46:=Tryz.isAgg215
 z46:=Tryz.sizeOf215
 v46:=Tryz.zeroValue215
 t51:=Tryz.underlying206
 a51:=Tryz.isAgg206
 z51:=Tryz.sizeOf206
 v51:=Tryz.zeroValue206
 t53:=Tryz.underlying134
 a53:=Tryz.isAgg134
 z53:=Tryz.sizeOf134
 v53:=Tryz.zeroValue134
 t70:=Tryz.underlying154
 a70:=Tryz.isAgg154
 z70:=Tryz.sizeOf154
 v70:=Tryz.zeroValue154
 t72:=Tryz.underlying156
 a72:=Tryz.isAgg156
 z72:=Tryz.sizeOf156
 v72:=Tryz.zeroValue156
 t75:=Tryz.underlying159
 a75:=Tryz.isAgg159
 z75:=Tryz.sizeOf159
 v75:=Tryz.zeroValue159
 t76:=Tryz.underlying160
 a76:=Tryz.isAgg160
 z76:=Tryz.sizeOf160
 v76:=Tryz.zeroValue160
 t109:=Tryz.underlying273
 a109:=Tryz.isAgg273
 z109:=Tryz.sizeOf273
 v109:=Tryz.zeroValue273
 t127:=Tryz.underlying235
 a127:=Tryz.isAgg235
 z127:=Tryz.sizeOf235
 v127:=Tryz.zeroValue235
 t146:=Tryz.underlying307
 a146:=Tryz.isAgg307
 z146:=Tryz.sizeOf307
 v146:=Tryz.zeroValue307
 t148:=Tryz.underlying309
 a148:=Tryz.isAgg309
 z148:=Tryz.sizeOf309
 v148:=Tryz.zeroValue309
 t164:=Tryz.underlying271
 a164:=Tryz.isAgg271
 z164:=Tryz.sizeOf271
 v164:=Tryz.zeroValue271 }
theorem Tryz.Builder_Extra_105:Builder.Extra Tryz.prog Tryz.lays105_ren:={
 sizeBuilder:=by kernel_rfl
 liesBuilder:=by kernel_rfl
 t5:=Tryz.underlying5
 a5:=Tryz.isAgg5
 z5:=Tryz.sizeOf5
 v5:=Tryz.zeroValue5
 infoByte:=by kernel_rfl
 cellsByte:=by kernel_rfl
 sizeByte:=by kernel_rfl
 neB5:=by decide }
open Go.RowKit Go.Lib in
theorem Tryz.strings_Repeat (s:ByteArray) (c:Nat) (w:World) (hc:c<=9223372036854775807) (hlen:s.size*c<=140737488355328) :
 Calls Tryz.prog 147 #[.string s,.int .i64 c] w λ e w'=>e=.returned (.string ⟨(Lib.repeatL s.data.toList c).toArray⟩)/\Below w.heap.size w w':=Any.strings_Repeat Tryz.lays105 Tryz.Builder_Extra_105 s c w hc hlen
def Tryz.laysNm215_ren:Go.Shelf.Ren:=⟨fun|15=>216|n=>n,fun|22=>191|3=>3|4=>4|n=>n,fun|n=>n⟩
theorem Tryz.laysNm215:Go.Proofs.Lays2.n15 Tryz.prog Tryz.laysNm215_ren:={
 mixed:=by kernel_rfl
 f15:=Tryz.func216.trans (congrArg some (by kernel_rfl))
 t3:=Tryz.underlying3
 a3:=Tryz.isAgg3
 z3:=Tryz.sizeOf3
 v3:=Tryz.zeroValue3
 t4:=Tryz.underlying4
 a4:=Tryz.isAgg4
 z4:=Tryz.sizeOf4
 v4:=Tryz.zeroValue4
 t22:=Tryz.underlying191
 a22:=Tryz.isAgg191
 z22:=Tryz.sizeOf191
 v22:=Tryz.zeroValue191
 i3:=by kernel_rfl }
open Go.RowKit Go.Lib in
theorem Tryz.slices_Clone_int (b off n c:Nat) (zs:List Int) (w:World) (hz:n<=zs.length) (hbig:n*8<=140737488355328) (hc:∀ j,j<zs.length->w.cell? ⟨b,off+j,none⟩=some (.int .i64 (zs.getD j 0))) :
 Calls Tryz.prog 216 #[.slice (some ⟨b,off,none⟩) n c] w λ e w'=>∃ v',e=.returned v'/\w'.ownsRow w.heap.size 3 1 v' n ((zs.take n).map (Value.int .i64))/\v'≠.slice none 0 0/\Below w.heap.size w w':=Any.slices_Clone_int Tryz.laysNm215 b off n c zs w hz hbig hc
def Tryz.laysNm216_ren:Go.Shelf.Ren:=⟨fun|16=>215|n=>n,fun|24=>63|9=>9|4=>4|n=>n,fun|n=>n⟩
theorem Tryz.laysNm216:Go.Proofs.Lays2.n16 Tryz.prog Tryz.laysNm216_ren:={
 mixed:=by kernel_rfl
 f16:=Tryz.func215.trans (congrArg some (by kernel_rfl))
 t4:=Tryz.underlying4
 a4:=Tryz.isAgg4
 z4:=Tryz.sizeOf4
 v4:=Tryz.zeroValue4
 t9:=Tryz.underlying9
 a9:=Tryz.isAgg9
 z9:=Tryz.sizeOf9
 v9:=Tryz.zeroValue9
 t24:=Tryz.underlying63
 a24:=Tryz.isAgg63
 z24:=Tryz.sizeOf63
 v24:=Tryz.zeroValue63
 i9:=by kernel_rfl }
open Go.RowKit Go.Lib in
theorem Tryz.slices_Clone_string (b off n c:Nat) (zs:List ByteArray) (w:World) (hz:n<=zs.length) (hbig:n*16<=140737488355328) (hc:∀ j,j<zs.length->w.cell? ⟨b,off+j,none⟩=some (.string (zs.getD j ByteArray.empty))) :
 Calls Tryz.prog 215 #[.slice (some ⟨b,off,none⟩) n c] w λ e w'=>∃ v',e=.returned v'/\w'.ownsRow w.heap.size 9 1 v' n ((zs.take n).map (Value.string))/\v'≠.slice none 0 0/\Below w.heap.size w w':=Any.slices_Clone_string Tryz.laysNm216 b off n c zs w hz hbig hc
def Tryz.laysNm223_ren:Go.Shelf.Ren:=⟨fun|23=>218|n=>n,fun|22=>191|3=>3|4=>4|0=>0|n=>n,fun|n=>n⟩
theorem Tryz.laysNm223:Go.Proofs.Lays2.n23 Tryz.prog Tryz.laysNm223_ren:={
 mixed:=by kernel_rfl
 f23:=Tryz.func218.trans (congrArg some (by kernel_rfl))
 t0:=Tryz.underlying0
 a0:=Tryz.isAgg0
 z0:=Tryz.sizeOf0
 v0:=Tryz.zeroValue0
 t3:=Tryz.underlying3
 a3:=Tryz.isAgg3
 z3:=Tryz.sizeOf3
 v3:=Tryz.zeroValue3
 t4:=Tryz.underlying4
 a4:=Tryz.isAgg4
 z4:=Tryz.sizeOf4
 v4:=Tryz.zeroValue4
 t22:=Tryz.underlying191
 a22:=Tryz.isAgg191
 z22:=Tryz.sizeOf191
 v22:=Tryz.zeroValue191
 i3:=by kernel_rfl }
def Tryz.laysNm224_ren:Go.Shelf.Ren:=⟨fun|24=>217|n=>n,fun|24=>63|9=>9|3=>3|4=>4|0=>0|n=>n,fun|n=>n⟩
theorem Tryz.laysNm224:Go.Proofs.Lays2.n24 Tryz.prog Tryz.laysNm224_ren:={
 mixed:=by kernel_rfl
 f24:=Tryz.func217.trans (congrArg some (by kernel_rfl))
 t0:=Tryz.underlying0
 a0:=Tryz.isAgg0
 z0:=Tryz.sizeOf0
 v0:=Tryz.zeroValue0
 t3:=Tryz.underlying3
 a3:=Tryz.isAgg3
 z3:=Tryz.sizeOf3
 v3:=Tryz.zeroValue3
 t4:=Tryz.underlying4
 a4:=Tryz.isAgg4
 z4:=Tryz.sizeOf4
 v4:=Tryz.zeroValue4
 t9:=Tryz.underlying9
 a9:=Tryz.isAgg9
 z9:=Tryz.sizeOf9
 v9:=Tryz.zeroValue9
 t24:=Tryz.underlying63
 a24:=Tryz.isAgg63
 z24:=Tryz.sizeOf63
 v24:=Tryz.zeroValue63
 i9:=by kernel_rfl }
end Go.Proofs
namespace Go.Proofs.YtdcjhpafipbpkaaGreatDoor
open Go.RowKit Go.MapKept
open Go.RowKit
set_option linter.unusedSimpArgs false
set_option linter.unusedVariables false
set_option linter.unusedSectionVars false
def pad (s:ByteArray):ByteArray:=⟨(s.data.toList++List.replicate (512-s.size) 0).toArray⟩
theorem znu {a b:ByteArray} (h:a=b):Ending.returned (.string a)=.returned (.string b):=by rw [h]
theorem zfA (n:Nat):Lib.repeatL [(0:UInt8)] n=List.replicate n 0:=by
 induction n with
 | zero=>rfl
 | succ n ih=>simp [Lib.repeatL,ih,List.replicate_succ]
set_option maxHeartbeats 400000 in
theorem znv (s:ByteArray) (w:World) (h:s.size<=512) :
 Calls Tryz.prog 153 #[.string s] w λ e w'=>e=.returned (.string (pad s))/\Below w.heap.size w w':=by
 obtain ⟨n,hn⟩:∃ n:Nat,n=512-s.size:=⟨_,rfl⟩
 have e:(512-(s.size:Int))=(n:Int):=by omega
 have Hn:=Hd hn
 have He:=Hd e
 clear hn e
 go_enter Tryz.func153,Tryz.ntmps153
 go_wp2_with fail
 rw [He.out]
 have h1:=Hn.out
 refine (Tryz.strings_Repeat _ n w (by omega) (show 1*n<=_ by omega)).mono ?_
 rintro e w1 ⟨rfl,hb⟩
 generalize hz:ByteArray.mk (Lib.repeatL _ n).toArray=z
 rw [show (({ data:=#[0] }:ByteArray).data.toList)=[0] from rfl,zfA,h1] at hz
 have hs:z.size<=512:=by rw [<-hz];show (List.replicate (512-s.size) (0:UInt8)).toArray.size<=512;rw [List.size_toArray,List.length_replicate];omega
 have Hz:=Hd hz
 clear h1 hz
 go_wp2_with fail
 go_ret
 refine ⟨znu ?_,hb⟩
 unfold pad
 rw [<-Hz.out]
 apply ByteArray.ext
 simp
structure Dk where
 size:Int
 firm:List (Int × ByteArray)
 loose:List (Int × ByteArray)
 now:List (Int × ByteArray)
 fuel:Int
 bound:Bool
 down:Bool
def zlg (D:Dk) (mf mn:Nat) (lv:Value):Array Value :=
 #[.int .i64 D.size,.map (some mf),lv,.map (some mn),.int .i64 D.fuel,.bool D.bound,.bool D.down]
def wrs (l:List (Int × ByteArray)):List Value:=l.flatMap λ p=>[.int .i64 p.1,.string p.2]
structure zs1 (D:Dk):Prop where
 size0:0<=D.size
 size1:D.size<=65536
 fuel0:-9223372036854775808<=D.fuel
 fuel1:D.fuel<=9223372036854775807
 fuel2:D.bound=true->0<=D.fuel
 nowSub:∀ k s,zbg D.now k=some s->s.size=512
 firmSub:∀ k s,zbg D.firm k=some s->s.size=512
structure zlh (w:World) (F:Nat->Prop) (b:Nat) (D:Dk) (mf mn:Nat) (lv:Value):Prop where
 cells:w.heap[b]?=some (.cells (zlg D mf mn lv) 199 (0,0))
 firm:za2 zeZ Value.string w mf D.firm
 now:za2 zeZ Value.string w mn D.now
 loose:w.ownsRow 0 367 2 lv D.loose.length (wrs D.loose)
 ne:mf≠mn
 own:∀ k,F k ↔ k=b\/k=mf\/k=mn\/lv.ownBlock=some k
 wf:zs1 D
theorem zlh.c {w:World} {F:Nat->Prop} {b:Nat} {D:Dk} {mf mn:Nat} {lv:Value} (h:zlh w F b D mf mn lv) :
 w.cell? ⟨b,0,none⟩=some (.int .i64 D.size)/\w.cell? ⟨b,1,none⟩=some (.map (some mf))/\w.cell? ⟨b,2,none⟩=some lv/\w.cell? ⟨b,3,none⟩=some (.map (some mn)) /\
  w.cell? ⟨b,4,none⟩=some (.int .i64 D.fuel)/\w.cell? ⟨b,5,none⟩=some (.bool D.bound)/\w.cell? ⟨b,6,none⟩=some (.bool D.down) :=
 ⟨zaa h.cells rfl,zaa h.cells rfl,zaa h.cells rfl,zaa h.cells rfl,zaa h.cells rfl,zaa h.cells rfl,zaa h.cells rfl⟩
theorem zoU (b:Nat) (x:Bool) (w:World) (h:w.cell? ⟨b,6,none⟩=some (.bool x)):Calls Tryz.prog 108 #[.pointer (some ⟨b,0,none⟩)] w λ e w'=>e=.returned (.bool x)/\w=w':=by
 go_enter Tryz.func108,Tryz.ntmps108
 go_wp2
 go_ret
 exact ⟨rfl,rfl⟩
theorem za2.ne_cells {κ α:Type} [DecidableEq κ] {K:zq5 κ} {V:α->Value} {w:World} {r:Nat} {m:List (κ × α)} (h:za2 K V w r m) {b:Nat} {cs:Array Value} {T:TypeId} {fr:Nat × Nat} (hb:w.heap[b]?=some (.cells cs T fr)):r≠b:=by
 obtain ⟨es,clock,m0,h1,_⟩:=h
 intro e;subst e;rw [h1] at hb;cases hb
theorem zaj {w:World} {base:Nat} {e:TypeId} {size:Nat} {v:Value} {n:Nat} {xs:List Value} (h:w.ownsRow base e size v n xs) {k:Nat} (hk:v.ownBlock=some k):∃ cur,w.heap[k]?=some (.cells cur e (0,0)):=by
 rcases h.2 with ⟨rfl,_⟩|⟨g,cap,cur,rfl,_,hg,_⟩
 ·simp [Value.ownBlock] at hk
 ·simp [Value.ownBlock] at hk;subst hk;exact ⟨cur,hg⟩
theorem zaH {w w':World} {S:Nat->Prop} {base:Nat} {e:TypeId} {size:Nat} {v:Value} {n:Nat} {xs:List Value} (h:w.ownsRow base e size v n xs) (hu:Upd S w w') (hn:∀ k,v.ownBlock=some k->¬S k):w'.ownsRow base e size v n xs:=by
 refine ⟨h.1,?_⟩
 rcases h.2 with h2|⟨g,cap,cur,rfl,hg,hh,r⟩
 ·exact Or.inl h2
 ·exact Or.inr ⟨g,cap,cur,rfl,hg,hu.at hh (hn g rfl),r⟩
theorem zlh.frame {w w':World} {S F:Nat->Prop} {b:Nat} {D:Dk} {mf mn:Nat} {lv:Value} (h:zlh w F b D mf mn lv) (hu:Upd S w w') (hn:∀ k,F k->¬S k):zlh w' F b D mf mn lv :=
 ⟨hu.at h.cells (hn b ((h.own b).2 (.inl rfl))),h.firm.upd hu (hn mf ((h.own mf).2 (.inr (.inl rfl)))),h.now.upd hu (hn mn ((h.own mn).2 (.inr (.inr (.inl rfl))))),
  zaH h.loose hu (λ k hk=>hn k ((h.own k).2 (.inr (.inr (.inr hk))))),h.ne,h.own,h.wf⟩
theorem zlh.lt {w:World} {F:Nat->Prop} {b:Nat} {D:Dk} {mf mn:Nat} {lv:Value} (h:zlh w F b D mf mn lv):∀ k,F k->k<w.heap.size:=by
 intro k hk
 rcases (h.own k).1 hk with rfl|rfl|rfl|hk
 ·exact zab h.cells
 ·exact h.firm.lt
 ·exact h.now.lt
 ·exact (h.loose.lt k hk).2
theorem _root_.Go.RowKit.Below.upd' {B:Nat} {w w':World} (h:Below B w w') (hB:w.heap.size<=B):Upd (λ _=>False) w w':=⟨h.os,h.tape,h.output,h.size,λ k hk _=>h.block k (by omega)⟩
theorem zoV (b:Nat) (n:Int) (w:World) (h:w.cell? ⟨b,0,none⟩=some (.int .i64 n)):Calls Tryz.prog 107 #[.pointer (some ⟨b,0,none⟩)] w λ e w'=>e=.returned (.int .i64 n)/\w=w':=by
 go_enter Tryz.func107,Tryz.ntmps107
 go_wp2
 go_ret
 exact ⟨rfl,rfl⟩
def zdK (D:Dk) (i:Int):ByteArray × Int :=
 if D.down=true then (ByteArray.empty,3) else if i<0\/D.size<=i then (ByteArray.empty,2) else
 match zbg D.now i with
 | some s=>(s,0)
 | none=>match zbg D.firm i with
   | some s=>(s,0)
   | none=>(pad ByteArray.empty,0)
theorem ziq (w:World):(zeroValue 9).run Tryz.prog w=.ok (.string ByteArray.empty) w:=by kernel_rfl
def Two (a:ByteArray) (b:Int):Ending:=.returned (.tuple #[.string a,.int .i64 b])
set_option maxHeartbeats 400000 in
theorem zli (b:Nat) (D:Dk) (F:Nat->Prop) (mf mn:Nat) (lv:Value) (i:Int) (w:World) (h:zlh w F b D mf mn lv) :
 Calls Tryz.prog 109 #[.pointer (some ⟨b,0,none⟩),.int .i64 i] w λ e w'=>e=Two (zdK D i).1 (zdK D i).2/\Below w.heap.size w w':=by
 obtain ⟨c0,c1,c2,c3,c4,c5,c6⟩:=h.c
 have l1:=zcL h.now Tryz.underlying196 Tryz.underlying3 (ziq w) i
 have l2:=zcL h.firm Tryz.underlying196 Tryz.underlying3 (ziq w) i
 rcases D with ⟨sz,firm,loose,now,fuel,bound,down⟩
 simp only at c0 c1 c2 c3 c4 c5 c6 l1 l2
 clear h c2 c4 c5
 cases down
 ·by_cases hi:i<0\/sz<=i
  ·have e1:zdK ⟨sz,firm,loose,now,fuel,bound,false⟩ i=(ByteArray.empty,2):=by simp [zdK,hi]
   rw [e1]
   clear e1 l1 l2 c1 c3
   rcases hi with hi|hi
   ·go_enter Tryz.func109,Tryz.ntmps109
    go_wp2
    go_ret2
    exact ⟨rfl,zBr _ _⟩
   ·by_cases h0:i<0
    ·go_enter Tryz.func109,Tryz.ntmps109
     go_wp2
     go_ret2
     exact ⟨rfl,zBr _ _⟩
    ·go_enter Tryz.func109,Tryz.ntmps109
     go_wp2
     go_ret2
     exact ⟨rfl,zBr _ _⟩
  ·have i0:0<=i:=by omega
   have i1:i<sz:=by omega
   have e1:zdK ⟨sz,firm,loose,now,fuel,bound,false⟩ i=(match zbg now i with|some s=>(s,0)|none=>match zbg firm i with|some s=>(s,0)|none=>(pad ByteArray.empty,0)):=by simp [zdK,hi]
   rw [e1]
   clear e1 hi
   cases hn:zbg now i with
   | some s =>
     rw [hn] at l1
     simp only [Option.map_some,Option.getD_some,Option.isSome_some,zeZ] at l1
     clear hn l2 c1
     go_enter Tryz.func109,Tryz.ntmps109
     go_wp2
     go_ret2
     exact ⟨rfl,zBr _ _⟩
   | none =>
     rw [hn] at l1
     simp only [Option.map_none,Option.getD_none,Option.isSome_none,zeZ] at l1
     cases hf:zbg firm i with
     | some s =>
       rw [hf] at l2
       simp only [Option.map_some,Option.getD_some,Option.isSome_some,zeZ] at l2
       clear hn hf
       go_enter Tryz.func109,Tryz.ntmps109
       go_wp2
       go_ret2
       exact ⟨rfl,zBr _ _⟩
     | none =>
       rw [hf] at l2
       simp only [Option.map_none,Option.getD_none,Option.isSome_none,zeZ] at l2
       clear hn hf
       go_enter Tryz.func109,Tryz.ntmps109
       go_wp2_with (first|(go_at_call 108;refine (zoU _ _ _ c6).mono ?_;rintro e w' ⟨rfl,rfl⟩)|(go_at_call 153;refine (znv _ _ ?_).mono ?_;(decide);rintro e w1 ⟨rfl,hb⟩))
       go_ret2
       exact ⟨rfl,hb⟩
 ·have e1:zdK ⟨sz,firm,loose,now,fuel,bound,true⟩ i=(ByteArray.empty,3):=by simp [zdK]
  rw [e1]
  clear e1 l1 l2 c1 c3
  go_enter Tryz.func109,Tryz.ntmps109
  go_wp2
  go_ret2
  exact ⟨rfl,zBr _ _⟩
def zeE (n:Int):Dk:=⟨n,[],[],[],0,false,false⟩
theorem Calls.at_args {P:Program} {F:FuncId} {args args':Array Value} {w:World} {post Q:Ending->World->Prop} (h:Calls P F args w post) (ha:args'=args) (hm:∀ e w',post e w'->Q e w'):Calls P F args' w Q:=by
 subst ha;exact h.mono hm
def znw (z:ByteArray):Prop:=∀ k,k<z.size->z[k]?=some 0
def zdG:ByteArray:=pad ByteArray.empty
theorem zdd:zdG.size=512:=by rw [Lib.size_eq];simp [zdG,pad]
theorem zde:zdG.data.toList=List.replicate 512 0:=by simp [zdG,pad]
theorem zjj {z:ByteArray} {n:Nat} (h:z.data.toList=List.replicate n 0):znw z:=by
 intro k hk
 have hs:=Lib.size_eq z
 rw [h,List.length_replicate] at hs
 rw [getElem?_pos _ k hk]
 have:z[k]=z.data.toList[k]'(by rw [h,List.length_replicate];omega):=rfl
 rw [this]
 simp [h]
theorem zkn:znw zdG:=zjj zde
theorem zlj:(⟨(Lib.trimB zdG.data.toList 0).toArray⟩:ByteArray)=⟨#[]⟩:=by
 rw [zde];decide +kernel
theorem zaI {P:Program} (t:TypeId) (s:ByteArray) (k:Nat) (d:UInt8) (ht:P.underlying t=some .string) (h:s[k]?=some d) (w:World) :
 (Instr.index t (.string s) (.int .i64 (k:Int))).run P w=.ok (.int .u8 (d.toNat:Int)) w:=by
 simp [Instr.index,asIntOf,run_underlying ht,h]
theorem zpt (s:ByteArray) (w:World) (hz:znw s) (hs:s.size<=1000) :
 Calls Tryz.prog 111 #[.string s] w λ e w'=>e=.returned (.int .u64 0)/\w=w':=by
 have HZ:=Hd hz
 clear hz
 go_enter Tryz.func111,Tryz.ntmps111
 go_wp2_with fail
 go_loopg [3,7] s.size (λ g s3 s7 wr=>∃ k:Nat,g=s.size-k/\k<=s.size/\s7=.int .i64 k/\s3=.int .u64 0/\w=wr)
 case atStart=>exact ⟨0,rfl,zNz _,rfl,rfl,rfl⟩
 case round =>
  obtain ⟨k,rfl,hk,rfl,rfl,rfl⟩:=hrel
  by_cases hlt:k<s.size
  ·have hidx:=λ w=>zaI (P:=Tryz.prog) 9 s k 0 Tryz.underlying9 (HZ.out k hlt) w
   have hor:bits .or .u64 0 0=0:=by decide +kernel
   go_wp2_with fail
   go_roundg (s.size-(k+1))
   case measure=>omega
   case rel=>exact ⟨k+1,rfl,by omega,by simp,rfl,rfl⟩
  ·obtain rfl:k=s.size:=by omega
   clear hlt hk
   go_wp2_with fail
   go_ret
   exact ⟨rfl,rfl⟩
structure zko (w:World) (FL:Nat->Prop) (lb n db mo mf mn:Nat):Prop where
 cells:w.heap[lb]?=some (.cells #[.pointer (some ⟨db,0,none⟩),.int .i64 200,.int .i64 0,.int .i64 0,.int .i64 0,.int .u64 0,.map (some mo),.bool false] 201 (0,0))
 over:za2 zeZ Value.string w mo []
 disk:zlh w (λ k=>k=db\/k=mf\/k=mn) db (zeE (201+n)) mf mn (.slice none 0 0)
 own:∀ k,FL k ↔ k=lb\/k=mo\/k=db\/k=mf\/k=mn
 n0:1<=n
 n1:n<=65335
def zd9 (w:World) (FL:Nat->Prop) (lb n:Nat):Prop:=∃ db mo mf mn,zko w FL lb n db mo mf mn
theorem zko.frame {w w':World} {S FL:Nat->Prop} {lb n db mo mf mn:Nat} (h:zko w FL lb n db mo mf mn) (hu:Upd S w w') (hn:∀ k,FL k->¬S k):zko w' FL lb n db mo mf mn :=
 ⟨hu.at h.cells (hn _ ((h.own _).2 (.inl rfl))),h.over.upd hu (hn _ ((h.own _).2 (.inr (.inl rfl)))),h.disk.frame hu (λ k hk=>hn k ((h.own k).2 (.inr (.inr hk)))),h.own,h.n0,h.n1⟩
theorem zd9.frame {w w':World} {S FL:Nat->Prop} {lb n:Nat} (h:zd9 w FL lb n) (hu:Upd S w w') (hn:∀ k,FL k->¬S k):zd9 w' FL lb n:=by
 obtain ⟨db,mo,mf,mn,h⟩:=h;exact ⟨db,mo,mf,mn,h.frame hu hn⟩
theorem zd9.below {w w':World} {FL:Nat->Prop} {lb n:Nat} (h:zd9 w FL lb n) (hb:Below w.heap.size w w'):zd9 w' FL lb n:=h.frame (hb.upd' (zNr _)) (λ _ _ e=>e)
theorem zko.lt {w:World} {FL:Nat->Prop} {lb n db mo mf mn:Nat} (h:zko w FL lb n db mo mf mn):∀ k,FL k->k<w.heap.size:=by
 intro k hk
 rcases (h.own k).1 hk with rfl|rfl|hk
 ·exact zab h.cells
 ·exact h.over.lt
 ·exact h.disk.lt k hk
theorem zd9.lt {w:World} {FL:Nat->Prop} {lb n:Nat} (h:zd9 w FL lb n):∀ k,FL k->k<w.heap.size:=by
 obtain ⟨db,mo,mf,mn,h⟩:=h;exact h.lt
theorem zko.c {w:World} {FL:Nat->Prop} {lb n db mo mf mn:Nat} (h:zko w FL lb n db mo mf mn) :
 w.cell? ⟨lb,0,none⟩=some (.pointer (some ⟨db,0,none⟩))/\w.cell? ⟨lb,1,none⟩=some (.int .i64 200)/\w.cell? ⟨lb,3,none⟩=some (.int .i64 0)/\w.cell? ⟨lb,6,none⟩=some (.map (some mo))/\w.cell? ⟨lb,7,none⟩=some (.bool false) :=
 ⟨zaa h.cells rfl,zaa h.cells rfl,zaa h.cells rfl,zaa h.cells rfl,zaa h.cells rfl⟩
theorem zoW {a:Int} (h0:-9223372036854775808<=a) (h1:a<=9223372036854775807):IntKind.i64.wrap a=a:=by
 simp only [IntKind.wrap,IntKind.bits,IntKind.signed];simp;omega
theorem zlk (lb:Nat) (w:World) (h:w.cell? ⟨lb,7,none⟩=some (.bool false)) :
 Calls Tryz.prog 189 #[.pointer (some ⟨lb,0,none⟩)] w λ e w'=>e=.returned (.bool false)/\w=w':=by
 go_enter Tryz.func189,Tryz.ntmps189
 go_wp2_with fail
 go_ret
 exact ⟨rfl,rfl⟩
theorem zrb (lb:Nat) (e:Int) (w:World) (h:¬e=3) :
 Calls Tryz.prog 203 #[.pointer (some ⟨lb,0,none⟩),.int .i64 e] w λ e' w'=>e'=.returned (.int .i64 e)/\w=w':=by
 have h3:(e == 3)=false:=by simpa using h
 clear h
 go_enter Tryz.func203,Tryz.ntmps203
 go_wp2_with fail
 go_ret
 exact ⟨rfl,rfl⟩
theorem zjk (lb n:Nat) (FL:Nat->Prop) (w:World) (h:zd9 w FL lb n) :
 Calls Tryz.prog 113 #[.pointer (some ⟨lb,0,none⟩)] w λ e w'=>e=.returned (.int .i64 n)/\Below w.heap.size w w':=by
 obtain ⟨db,mo,mf,mn,h⟩:=h
 obtain ⟨c0,c1,-,-,-⟩:=h.c
 have hn:=h.n1
 have SZ:=Hd (zoV db (201+n) w.drew (by have:=h.disk.c.1;exact this))
 clear h
 go_enter Tryz.func113,Tryz.ntmps113
 go_wp2_with fail
 go_region_held3 (λ w'=>w'.cell? ⟨lb,0,none⟩=some (.pointer (some ⟨db,0,none⟩))/\w'.cell? ⟨lb,1,none⟩=some (.int .i64 200)) (go_keep) ((go_at_call 107;refine (SZ.out).mono ?_;rintro e w2 ⟨rfl,rfl⟩))
 go_wp2_with fail
 go_ret
 refine ⟨?_,(zBr _ _).drew⟩
 show Ending.returned (Value.int .i64 (IntKind.i64.wrap (IntKind.i64.wrap (201+(n:Int)-1)-200)))=_
 rw [zoW (a:=201+(n:Int)-1) (by omega) (by omega),zoW (by omega) (by omega)]
 congr 2;omega
def zca (n:Nat) (i:Int):ByteArray × Int:=if i<0\/(n:Int)<=i then (⟨#[]⟩,2) else (zdG,0)
theorem zeF {n:Nat} {i:Int} (h0:0<=i) (h1:i<201+n):zdK (zeE (201+n)) i=(zdG,0):=by
 unfold zdK zeE
 rw [if_neg (by simp),if_neg (by simp;omega)]
 rfl
theorem zpu (lb n:Nat) (FL:Nat->Prop) (i:Int) (w:World) (h:zd9 w FL lb n) :
 Calls Tryz.prog 198 #[.pointer (some ⟨lb,0,none⟩),.int .i64 i] w λ e w'=>e=.returned (.tuple #[.string (zca n i).1,.int .i64 (zca n i).2])/\Below w.heap.size w w':=by
 have DN:=zlk lb w (by obtain ⟨db,mo,mf,mn,h⟩:=h;exact h.c.2.2.2.2)
 have HM:=zjk lb n FL w h
 by_cases h0:i<0
 ·have HE:=Hd (show zca n i=(⟨#[]⟩,2) by unfold zca;rw [if_pos (.inl h0)])
  clear h HM
  go_enter Tryz.func198,Tryz.ntmps198
  go_wp2_with (go_at_call 189;refine DN.mono ?_;rintro e w1 ⟨rfl,rfl⟩)
  go_ret2
  exact ⟨by rw [HE.out];rfl,zBr _ _⟩
 by_cases h1:(n:Int)<=i
 ·have HE:=Hd (show zca n i=(⟨#[]⟩,2) by unfold zca;rw [if_pos (.inr h1)])
  clear h
  go_enter Tryz.func198,Tryz.ntmps198
  go_wp2_with (first|(go_at_call 189;refine DN.mono ?_;rintro e w1 ⟨rfl,rfl⟩)|(go_at_call 113;refine HM.mono ?_;rintro e w2 ⟨rfl,hb⟩))
  go_ret2
  exact ⟨by rw [HE.out];rfl,hb⟩
 ·have HE:=Hd (show zca n i=(zdG,0) by unfold zca;rw [if_neg (by omega)])
  have HL:=Hd h
  have hn1:n<=65335:=by obtain ⟨db,mo,mf,mn,h⟩:=h;exact h.n1
  clear h
  go_enter Tryz.func198,Tryz.ntmps198
  go_wp2_with (go_at_call 189;refine DN.mono ?_;rintro e w1 ⟨rfl,rfl⟩)
  refine HM.mono ?_
  rintro e w2 ⟨rfl,hb⟩
  have HB:=Hd hb
  obtain ⟨db,mo,mf,mn,h2⟩:=HL.out.below hb
  clear hb HM DN
  have HL2:=Hd h2
  obtain ⟨c0,c1,-,c6,-⟩:=h2.c
  have lk:=zcL h2.over Tryz.underlying196 Tryz.underlying3 (ziq w2) i
  rw [show zbg ([]:List (Int × ByteArray)) i=none from rfl] at lk
  simp only [Option.map_none,Option.getD_none,Option.isSome_none,zeZ] at lk
  have RD:Hid (∀ W,Below w2.heap.size w2 W->Calls Tryz.prog 109 #[.pointer (some ⟨db,0,none⟩),.int .i64 (201+i)] W λ e w'=>e=.returned (.tuple #[.string zdG,.int .i64 0])/\Below W.heap.size W w'):=Hd λ W hW=>by
   have:=zli db _ _ _ _ _ (201+i) W (h2.frame (hW.upd' (zNr _)) (λ _ _ e=>e)).disk
   rwa [zeF (by omega) (by omega)] at this
  have hw:IntKind.i64.wrap (201+i)=201+i:=zoW (by omega) (by omega)
  have hw0:IntKind.i64.wrap 201=201:=rfl
  have RD2:=Hd (RD.out w2.drew ((zBr _ _).drew))
  clear RD
  have SY:=Hd (λ w=>zrb lb 0 w (by decide))
  clear h2
  go_wp2_with fail
  go_region_held3 (λ w'=>w'.cell? ⟨lb,0,none⟩=some (.pointer (some ⟨db,0,none⟩))/\w'.cell? ⟨lb,1,none⟩=some (.int .i64 200)) (go_keep) ((go_at_call 109;refine Calls.at_args (RD2.out) (by with_reducible rfl) ?_;rintro e w3 ⟨rfl,hb⟩;have HB3:=Hd ((HB.out).trans ((((zBr w2.heap.size w2).drew).trans hb).mono (HB.out).size));obtain ⟨e0,e1,-,-,-⟩:=((HL2.out.frame (((zBr w2.heap.size w2).drew.trans hb).upd' (zNr _)) (λ _ _ e=>e))).c;clear hb))
  go_wp2_with (go_at_call 203;refine (SY.out _).mono ?_;rintro e w4 ⟨rfl,rfl⟩)
  go_ret2
  exact ⟨by rw [HE.out];rfl,HB3.out⟩
theorem znx (lb n db mo mf mn:Nat) (FL:Nat->Prop) (w:World) (h:zko w FL lb n db mo mf mn) :
 Calls Tryz.prog 161 #[.pointer (some ⟨lb,0,none⟩),.int .i64 0] w λ e w'=>e=.returned (.tuple #[.string zdG,.int .i64 0])/\Below w.heap.size w w':=by
 have HL:=Hd h
 obtain ⟨c0,c1,-,-,-⟩:=h.c
 have h0:=h.n0
 have RD:Hid (Calls Tryz.prog 109 #[.pointer (some ⟨db,0,none⟩),.int .i64 1] w.drew λ e w'=>e=.returned (.tuple #[.string zdG,.int .i64 0])/\Below w.heap.size w w'):=Hd (by
  have:=zli db _ _ _ _ _ 1 w.drew (h.frame (((zBr w.heap.size w).drew).upd' (zNr _)) (λ _ _ e=>e)).disk
  rw [zeF (by omega) (by omega)] at this
  exact this.mono λ e w' ⟨a,b⟩=>⟨a,((zBr w.heap.size w).drew).trans b⟩)
 have SY:=Hd (λ w=>zrb lb 0 w (by decide))
 have hw0:IntKind.i64.wrap 1=1:=rfl
 have ht:Int.tmod 0 200=0:=rfl
 clear h
 go_enter Tryz.func161,Tryz.ntmps161
 go_wp2_with fail
 go_region_held3 (λ w'=>w'.cell? ⟨lb,0,none⟩=some (.pointer (some ⟨db,0,none⟩))/\w'.cell? ⟨lb,1,none⟩=some (.int .i64 200)) (go_keep) ((go_at_call 109;refine Calls.at_args (RD.out) (by with_reducible rfl) ?_;rintro e w3 ⟨rfl,hb⟩;have HB3:=Hd hb;obtain ⟨e0,e1,-,-,-⟩:=(HL.out.frame (hb.upd' (zNr _)) (λ _ _ e=>e)).c;clear hb))
 go_wp2_with (go_at_call 203;refine (SY.out _).mono ?_;rintro e w4 ⟨rfl,rfl⟩)
 go_ret2
 exact ⟨rfl,HB3.out⟩
theorem zny {k:Nat} (hk:k<512):zdG[k]?=some 0:=zkn k (by rw [zdd];exact hk)
theorem znz (a b:Nat) (hab:a<=b) (hb:b<=512):(zdG.extract a b).size=b-a/\znw (zdG.extract a b):=by
 have hd:(zdG.extract a b).data.toList=List.replicate (b-a) 0:=by
  have:(zdG.extract a b).data.toList=(zdG.data.toList.take b).drop a:=by
   generalize zdG=z
   simp only [ByteArray.data_extract,Array.toList_extract,List.extract,List.take_drop]
   rw [show a+(b-a)=b by omega]
  rw [this,zde,List.take_replicate,List.drop_replicate];congr 1;omega
 exact ⟨by rw [Lib.size_eq,hd,List.length_replicate],zjj hd⟩
theorem zll (lb n db mo mf mn:Nat) (FL:Nat->Prop) (w:World) (h:zko w FL lb n db mo mf mn) :
 Calls Tryz.prog 112 #[.pointer (some ⟨lb,0,none⟩)] w λ e w'=>e=.returned (.tuple #[.bool false,.int .i64 0])/\Below w.heap.size w w':=by
 have LR:=znx lb n db mo mf mn FL w h
 obtain ⟨-,-,c3,-,-⟩:=h.c
 obtain ⟨y,hy⟩:=exE (zdG.extract 9 13)
 obtain ⟨q1,q2⟩:=znz 9 13 (by decide) (by decide)
 rw [hy] at q1 q2
 have TL:=Hd (λ w=>zpt y w q2 (by omega))
 have hsz:=zdd
 have hi:∀ w,(Instr.index 9 (.string zdG) (.int .i64 0)).run Tryz.prog w=.ok (.int .u8 0) w:=λ w=>zaI (P:=Tryz.prog) 9 zdG 0 0 Tryz.underlying9 (zny (by decide)) w
 clear h q2
 generalize zdG=z at *
 go_enter Tryz.func112,Tryz.ntmps112
 go_wp2_with fail
 refine LR.mono ?_
 rintro e w2 ⟨rfl,hb⟩
 have HB:=Hd hb
 clear hb LR
 go_wp2_with fail
 refine (TL.out _).mono ?_
 rintro e w3 ⟨rfl,rfl⟩
 go_wp2_with fail
 refine wp_region_noPanic ?_
 refine wp_region_held_drew (S:=(λ _=>True)) (by kernel_rfl) ?_ (λ hHeld=>?_)
 ·exact trivial
 refine' tkH 0 rfl ?_
 try simp only [Act.put,List.setIfInBounds_toArray,List.set_cons_zero,List.set_cons_succ,List.getElem_toArray,List.getElem_cons_zero]
 refine' tkH 1 rfl ?_;try simp only [Act.put,awL]
 refine' tkH 2 rfl ?_;try simp only [Act.put,awL]
 refine' tkH 3 rfl ?_;try simp only [Act.put,awL]
 refine' tkH 4 rfl ?_ (Or.inr ⟨by rfl,rfl⟩)
 try simp only [Act.put,awL]
 refine' tkH 5 rfl ?_ (Or.inr ⟨by rfl,rfl⟩)
 try simp only [Act.put,awL]
 refine' tkH 6 rfl ?_ (Or.inr ⟨by rfl,rfl⟩)
 try simp only [Act.put,awL]
 refine' tkH 7 rfl ?_ (Or.inr ⟨by rfl,rfl⟩)
 try simp only [Act.put,awL]
 refine' tkH 8 rfl ?_ (Or.inr ⟨by rfl,rfl⟩)
 try simp only [Act.put,awL]
 refine' tkH 9 rfl ?_ (Or.inr ⟨by rfl,rfl⟩)
 try simp only [Act.put,awL]
 refine' tkH 10 rfl ?_ (Or.inr ⟨by rfl,rfl⟩)
 try simp only [Act.put,awL]
 refine' tkH 11 rfl ?_ (Or.inr ⟨by rfl,rfl⟩)
 try simp only [Act.put,awL]
 refine' tkH 12 rfl ?_ (Or.inr ⟨by rfl,rfl⟩)
 try simp only [Act.put,awL]
 refine' tkH 13 rfl ?_;try simp only [Act.put,awL]
 refine' tkH 14 rfl ?_;try simp only [Act.put,awL]
 refine' tkH 15 rfl ?_ (Or.inr ⟨by rfl,rfl⟩)
 try simp only [Act.put,awL]
 refine' tkH 16 rfl ?_ (Or.inr ⟨by rfl,rfl⟩)
 try simp only [Act.put,awL]
 refine' tkH 17 rfl ?_;try simp only [Act.put,awL]
 refine' tkH 18 rfl ?_;try simp only [Act.put,awL]
 refine' tkH 19 rfl ?_ (Or.inr ⟨by rfl,rfl⟩)
 try simp only [Act.put,awL]
 refine' tkH 20 rfl ?_ (Or.inr ⟨by rfl,rfl⟩)
 try simp only [Act.put,awL]
 refine' tkH 21 rfl ?_;try simp only [Act.put,awL]
 refine wpAnyH_done (by kernel_rfl) ?_ _
 refine NoPanic.normal ?_
 go_wp2_with fail
 go_ret2
 exact ⟨rfl,(HB.out).drew⟩
theorem zrc (db n mf mn:Nat) (w:World) (h:zlh w (λ k=>k=db\/k=mf\/k=mn) db (zeE (201+n)) mf mn (.slice none 0 0)) (n0:1<=n) (n1:n<=65335) :
 Calls Tryz.prog 56 #[.pointer (some ⟨db,0,none⟩),.int .i64 200] w λ e w'=>e=.returned (.tuple #[.pointer (some ⟨w.heap.size+1,0,none⟩),.int .i64 0]) /\
  Hid (zko w' (λ k=>k=w.heap.size+1\/k=w.heap.size\/k=db\/k=mf\/k=mn) (w.heap.size+1) n db w.heap.size mf mn/\Below w.heap.size w w'):=by
 have hmm:=@run_makeMap Tryz.prog
 have SZ:=Hd (zoV db (201+n) w h.c.1)
 have DN:=Hd (zoU db false w (by have:=h.c;exact this.2.2.2.2.2.2))
 have RD:Hid (∀ W,Below w.heap.size w W->Calls Tryz.prog 109 #[.pointer (some ⟨db,0,none⟩),.int .i64 0] W λ e w'=>e=.returned (.tuple #[.string zdG,.int .i64 0])/\Below W.heap.size W w'):=Hd λ W hW=>by
  have:=zli db _ _ _ _ _ 0 W (h.frame (hW.upd' (zNr _)) (λ _ _ e=>e))
  rwa [zeF (by omega) (by omega)] at this
 have TR:=Hd (λ w=>Tryz.strings_Trim_one zdG 0 (by decide) w (by rw [zdd];omega))
 rw [zlj] at TR
 have H:=Hd h
 have lt:=h.lt
 have hsz:=zdd
 have LG:Hid (∀ W,W.heap[w.heap.size+1]?=some (.cells #[.pointer (some ⟨db,0,none⟩),.int .i64 200,.int .i64 0,.int .i64 0,.int .i64 0,.int .u64 0,.map (some w.heap.size),.bool false] 201 (0,0))->za2 zeZ Value.string W w.heap.size []->Below w.heap.size w W ->
  zko W (λ k=>k=w.heap.size+1\/k=w.heap.size\/k=db\/k=mf\/k=mn) (w.heap.size+1) n db w.heap.size mf mn) :=
  Hd λ W h1 h2 hb=>⟨h1,h2,h.frame (hb.upd' (zNr _)) (λ _ _ e=>e),λ _=>Iff.rfl,n0,n1⟩
 clear h
 generalize zdG=z at *
 go_enter Tryz.func56,Tryz.ntmps56
 go_wp2_with (first|(go_at_call 107;refine (SZ.out).mono ?_;rintro e w1 ⟨rfl,rfl⟩)|(go_at_call 108;refine (DN.out).mono ?_;rintro e w1 ⟨rfl,rfl⟩))
 have hb0:=((zBr w.heap.size w).alloc (zNr _) (.map #[] 0)).alloc (by simp) (.cells #[.pointer (some ⟨db,0,none⟩),.int .i64 200,.int .i64 0,.int .i64 0,.int .i64 0,.int .u64 0,.map (some w.heap.size),.bool false] 201)
 have hc0:((w.alloc (.map #[] 0)).alloc (.cells #[.pointer (some ⟨db,0,none⟩),.int .i64 200,.int .i64 0,.int .i64 0,.int .i64 0,.int .u64 0,.map (some w.heap.size),.bool false] 201)).heap[w.heap.size+1]?=some (.cells #[.pointer (some ⟨db,0,none⟩),.int .i64 200,.int .i64 0,.int .i64 0,.int .i64 0,.int .u64 0,.map (some w.heap.size),.bool false] 201 (0,0)):=by
  have:=heap_alloc_new (w.alloc (.map #[] 0)) (.cells #[.pointer (some ⟨db,0,none⟩),.int .i64 200,.int .i64 0,.int .i64 0,.int .i64 0,.int .u64 0,.map (some w.heap.size),.bool false] 201);simpa using this
 have hm0:za2 zeZ Value.string ((w.alloc (.map #[] 0)).alloc (.cells #[.pointer (some ⟨db,0,none⟩),.int .i64 200,.int .i64 0,.int .i64 0,.int .i64 0,.int .u64 0,.map (some w.heap.size),.bool false] 201)) w.heap.size []:=(za2.made w).alloc _
 refine (RD.out _ hb0).mono ?_
 rintro e w1 ⟨rfl,hb⟩
 have HC1:=Hd ((hb.block (w.heap.size+1) (by simp)).trans hc0)
 have HM1:=Hd (hm0.upd (hb.upd' (zNr _)) (λ e=>e))
 have HB1:=Hd (hb0.trans (hb.mono hb0.size))
 clear hb hb0 hc0 hm0 RD SZ DN
 go_wp2_with fail
 refine (TR.out _).mono ?_
 rintro e w2 ⟨rfl,hw2⟩
 have hb2:Below w1.heap.size w1 w2:=by
  rcases hw2 with rfl|rfl
  ·exact zBr _ _
  ·exact (zBr _ _).drew
 have HC2:=Hd ((hb2.block (w.heap.size+1) (zab HC1.out)).trans HC1.out)
 have HM2:=Hd (HM1.out.upd (hb2.upd' (zNr _)) (λ e=>e))
 have HB2:=Hd ((HB1.out).trans (hb2.mono (HB1.out).size))
 have c2:=zaa HC2.out (i:=2) rfl
 have c3:=zaa HC2.out (i:=3) rfl
 have f3:=zad HC2.out 3
 have hlg:zko (w2.setCell ⟨w.heap.size+1,3,none⟩ (.int .i64 0)) (λ k=>k=w.heap.size+1\/k=w.heap.size\/k=db\/k=mf\/k=mn) (w.heap.size+1) n db w.heap.size mf mn :=
  LG.out _ (zac HC2.out _) (HM2.out.upd (zbP w2 (w.heap.size+1) 3 (.int .i64 0)) (by omega)) ((HB2.out).setCell (by simp) _)
 have RC:=Hd (zll _ _ _ _ _ _ _ _ hlg)
 have HLG:=Hd hlg
 clear hw2 hb2 hlg TR
 go_wp2_with fail
 go_loopg [9] 1 (λ g s9 wr=>wr=w2.setCell ⟨w.heap.size+1,3,none⟩ (.int .i64 0))
 case atStart=>rfl
 case round =>
 subst hrel
 go_wp2_with fail
 refine (RC.out).mono ?_
 rintro e w3 ⟨rfl,hb3⟩
 have HF:=Hd (HLG.out.frame (hb3.upd' (zNr _)) (λ _ _ e=>e))
 have HB3:=Hd (((HB2.out).setCell (p:=⟨w.heap.size+1,3,none⟩) (by simp) (.int .i64 0)).trans (hb3.mono ((HB2.out).setCell (p:=⟨w.heap.size+1,3,none⟩) (by simp) (.int .i64 0)).size))
 clear hb3
 go_wp2_with fail
 go_ret2
 exact ⟨rfl,HF.out,HB3.out⟩
section
variable {P:Program} {w:World}
def zbV (w:World) (x:Value) (m:Nat) (news:List Value):Prop:=∃ o c,x=.slice o m c/\(o=none->m=0)/\∀ ad,o=some ad->∀ j u,news[j]?=some u->w.cell? (ad.add j)=some u
theorem zdL (base:Nat) (t ty e:TypeId) (i:TypeInfo) (size:Nat) (ht:P.underlying t=some (.slice e)) (hi:P.info? e=some i)
 (v:Value) (n c:Nat) (xs:List Value) (hown:w.ownsRow base e size v n xs) :
 (Builtin.append_ #[t,t] ty #[v,.slice none 0 c]).run P w=.ok v w:=by
 rcases hown.2 with ⟨rfl,rfl⟩|⟨g,cap,cur,rfl,_,_,hnc,_⟩
 ·simp [Builtin.append_,run_underlying ht,sizeOf,typeInfo,hi,Builtin.lenOf,Builtin.firstCells]
 ·simp [Builtin.append_,run_underlying ht,sizeOf,typeInfo,hi,Builtin.lenOf,Builtin.firstCells,hnc,storeCells]
theorem ze0 (t ty:TypeId) (base:Nat) (e:TypeId) (i:TypeInfo) (z:Value) (size bytes:Nat) (ht:P.underlying t=some (.slice e)) (hi:P.info? e=some i) (hz:i.zero=some z)
 (hsize:i.size=size) (hby:i.bytes=bytes) (hzs:z.cells.size=size) (hsz:0<size)
 (v:Value) (n:Nat) (xs:List Value) (hown:w.ownsRow base e size v n xs)
 (x:Value) (m:Nat) (news:List Value) (hx:zbV w x m news) (hl:news.length=m*size) (h1:∀ u∈news,u.oneCell'=true)
 (h63:n+m<=maxLen) (hbytes:(n+m)*bytes<=140737488355328) (hbase:base<=w.heap.size) :
 ∃ v' w',(Builtin.append_ #[t,t] ty #[v,x]).run P w=.ok v' w'/\w'.ownsRow base e size v' (n+m) (xs++news)/\w.grownBy w' v.ownBlock/\(v'.ownBlock=v.ownBlock\/v'.ownBlock=some w.heap.size):=by
 obtain ⟨o,c,rfl,ho,hc⟩:=hx
 cases o with
 | none =>
   obtain rfl:m=0:=ho rfl
   obtain rfl:news=[]:=List.eq_nil_of_length_eq_zero (by omega)
   refine ⟨v,w,zdL base t ty e i size ht hi v n c xs hown,by simpa using hown,⟨rfl,rfl,rfl,zNr _,λ _ _ _=>rfl⟩,.inl rfl⟩
 | some ad =>
   obtain ⟨v',w',hr,h2,h3,_,h5⟩:=run_append_own_at (P:=P) w base t ty e i z size bytes ht hi hz hsize hby hzs hsz v n xs hown ad m c news hl (hc ad rfl) h1 h63 hbytes hbase
   exact ⟨v',w',hr,h2,h3,h5⟩
theorem zfB {o:Oper} {a:Act} {K:Act->World->Prop} {Q:Exit->Act->World->Prop} (s x:Operand) (t:TypeId)
 (ho:o.op=.call { callee:=.builtin .append,args:=#[s,x],argTypes:=#[t,t] })
 (base:Nat) (e:TypeId) (i:TypeInfo) (z:Value) (size bytes:Nat) (ht:P.underlying t=some (.slice e)) (hi:P.info? e=some i) (hz:i.zero=some z)
 (hsize:i.size=size) (hby:i.bytes=bytes) (hzs:z.cells.size=size) (hsz:0<size)
 (v:Value) (n:Nat) (xs:List Value) (hs:a.eval s=v) (hown:w.ownsRow base e size v n xs)
 (y:Value) (m:Nat) (news:List Value) (hx:a.eval x=y) (hy:zbV w y m news) (hl:news.length=m*size) (h1:∀ u∈news,u.oneCell'=true)
 (h63:n+m<=maxLen) (hbytes:(n+m)*bytes<=140737488355328) (hbase:base<=w.heap.size)
 (h:∀ v' w',w'.ownsRow base e size v' (n+m) (xs++news)->w.grownBy w' v.ownBlock->(v'.ownBlock=v.ownBlock\/v'.ownBlock=some w.heap.size)->K (a.put o.dst v') w'):o.wp P a w K Q:=by
 obtain ⟨v',w',hr,h2,h3,h4⟩:=ze0 (P:=P) (w:=w) t o.type base e i z size bytes ht hi hz hsize hby hzs hsz v n xs hown y m news hy hl h1 h63 hbytes hbase
 unfold Oper.wp execOp
 simp only [ho,resolve,invoke,builtin,Sem.run_bind,Sem.run_pure,Result.andThen_ok,List.map_toArray,List.map_cons,List.map_nil,hs,hx,hr]
 exact h v' w' h2 h3 h4
theorem zat {ops:Array Oper} {o:Oper} {a:Act} {K:Act->World->Prop} {Q:Exit->Act->World->Prop} {E:Prop} (hgd:o.guard=none) (s x:Operand) (t:TypeId)
 (ho:o.op=.call { callee:=.builtin .append,args:=#[s,x],argTypes:=#[t,t] })
 (base:Nat) (e:TypeId) (i:TypeInfo) (z:Value) (size bytes:Nat) (ht:P.underlying t=some (.slice e)) (hi:P.info? e=some i) (hz:i.zero=some z)
 (hsize:i.size=size) (hby:i.bytes=bytes) (hzs:z.cells.size=size) (hsz:0<size)
 (v:Value) (n:Nat) (xs:List Value) (hs:a.eval s=v) (hown:w.ownsRow base e size v n xs)
 (y:Value) (m:Nat) (news:List Value) (hx:a.eval x=y) (hy:zbV w y m news) (hl:news.length=m*size) (h1:∀ u∈news,u.oneCell'=true)
 (h63:n+m<=maxLen) (hbytes:(n+m)*bytes<=140737488355328) (hbase:base<=w.heap.size)
 (h:∀ v' w',w'.ownsRow base e size v' (n+m) (xs++news)->w.grownBy w' v.ownBlock->(v'.ownBlock=v.ownBlock\/v'.ownBlock=some w.heap.size)->K (a.put o.dst v') w') :
 if Region.wanted o (yielded ops a.tmps)=true then Oper.wp P o a w K Q else E:=by
 have hw:Region.wanted o (yielded ops a.tmps)=true:=by simp [Region.wanted,hgd]
 rw [if_pos hw]
 exact zfB s x t ho base e i z size bytes ht hi hz hsize hby hzs hsz v n xs hs hown y m news hx hy hl h1 h63 hbytes hbase h
theorem zag {ops:Array Oper} {rest:List Oper} {o:Oper} {a:Act} {Q:Exit->Act->World->Prop} (hgd:o.guard=none) (s x:Operand) (t:TypeId)
 (ho:o.op=.call { callee:=.builtin .append,args:=#[s,x],argTypes:=#[t,t] })
 (base:Nat) (e:TypeId) (i:TypeInfo) (z:Value) (size bytes:Nat) (ht:P.underlying t=some (.slice e)) (hi:P.info? e=some i) (hz:i.zero=some z)
 (hsize:i.size=size) (hby:i.bytes=bytes) (hzs:z.cells.size=size) (hsz:0<size)
 (v:Value) (n:Nat) (xs:List Value) (hs:a.eval s=v) (hown:w.ownsRow base e size v n xs)
 (y:Value) (m:Nat) (news:List Value) (hx:a.eval x=y) (hy:zbV w y m news) (hl:news.length=m*size) (h1:∀ u∈news,u.oneCell'=true)
 (h63:n+m<=maxLen) (hbytes:(n+m)*bytes<=140737488355328) (hbase:base<=w.heap.size)
 (h:∀ v' w',w'.ownsRow base e size v' (n+m) (xs++news)->w.grownBy w' v.ownBlock->(v'.ownBlock=v.ownBlock\/v'.ownBlock=some w.heap.size)->wpList P ops Q rest (a.put o.dst v') w'):wpList P ops Q (o::rest) a w :=
 wpList_plain hgd λ _ hK=>zfB s x t ho base e i z size bytes ht hi hz hsize hby hzs hsz v n xs hs hown y m news hx hy hl h1 h63 hbytes hbase λ v' w' h2 h3 h4=>hK _ _ (h v' w' h2 h3 h4)
end
def zir (l:List Int):List Value:=l.map (Value.int .i64)
def zbF:List (Int × ByteArray)->Nat->Int->List Int
 | [],_,_=>[]
 | p::r,n,i=>if p.1=i then (n:Int)::zbF r (n+1) i else zbF r (n+1) i
theorem zis (a b:List (Int × ByteArray)) (n:Nat) (i:Int):zbF (a++b) n i=zbF a n i++zbF b (n+a.length) i:=by
 induction a generalizing n with
 | nil=>simp [zbF]
 | cons p r ih =>
   simp only [List.cons_append,zbF,ih,zLc]
   rw [show n+1+r.length=n+(r.length+1) by omega]
   split <;> simp
theorem zdf (a:List (Int × ByteArray)) (p:Int × ByteArray) (i:Int):zbF (a++[p]) 0 i=if p.1=i then zbF a 0 i++[(a.length:Int)] else zbF a 0 i:=by
 rw [zis]
 simp only [zbF,Nat.zero_add]
 split <;> simp
def zfi:List (Int × ByteArray)->Int->Option ByteArray
 | [],_=>none
 | p::r,i=>(zfi r i).or (if p.1=i then some p.2 else none)
theorem zgd (l:List (Int × ByteArray)) (p:Int × ByteArray) (i:Int):zfi (l++[p]) i=if p.1=i then some p.2 else zfi l i:=by
 induction l with
 | nil=>simp [zfi]
 | cons q r ih =>
   simp only [List.cons_append,zfi,ih]
   by_cases h:p.1=i
   ·simp [h]
   ·simp [h]
theorem znA {α:Type} {P:List α->Prop} (h0:P []) (hs:∀ l a,P l->P (l++[a])) (l:List α):P l:=by
 have:∀ r:List α,P r.reverse:=by
  intro r
  induction r with
  | nil=>exact h0
  | cons a r ih=>rw [List.reverse_cons];exact hs _ _ ih
 simpa using this l.reverse
theorem zlm (l:List (Int × ByteArray)) (i:Int):(zbF l 0 i=[]/\zfi l i=none)\/∃ (r:List Int) (j:Nat) (s:ByteArray),zbF l 0 i=r++[(j:Int)]/\l[j]?=some (i,s)/\zfi l i=some s:=by
 refine znA (P:=λ l=>(zbF l 0 i=[]/\zfi l i=none)\/∃ (r:List Int) (j:Nat) (s:ByteArray),zbF l 0 i=r++[(j:Int)]/\l[j]?=some (i,s)/\zfi l i=some s) (.inl ⟨rfl,rfl⟩) (λ l p ih=>?_) l
 ·show (zbF (l++[p]) 0 i=[]/\zfi (l++[p]) i=none)\/∃ (r:List Int) (j:Nat) (s:ByteArray),zbF (l++[p]) 0 i=r++[(j:Int)]/\(l++[p])[j]?=some (i,s)/\zfi (l++[p]) i=some s
  rw [zdf,zgd]
  by_cases h:p.1=i
  ·rw [if_pos h,if_pos h]
   exact .inr ⟨_,l.length,p.2,rfl,by simp [<-h],rfl⟩
  ·rw [if_neg h,if_neg h]
   rcases ih with h1|⟨r,j,s,h1,h2,h3⟩
   ·exact .inl h1
   ·exact .inr ⟨r,j,s,h1,by rw [List.getElem?_append_left (List.getElem?_eq_some_iff.1 h2).1];exact h2,h3⟩
structure zc7 (w:World) (F:Nat->Prop) (tb lb:Nat) (puts:List (Int × ByteArray)) (pv:Value) (mw:Nat) (m:List (Int × Value)):Prop where
 cells:w.heap[tb]?=some (.cells #[.pointer (some ⟨lb,0,none⟩),pv,.map (some mw)] 120 (0,0))
 row:w.ownsRow 0 241 2 pv puts.length (wrs puts)
 map:za2 zeZ id w mw m
 rows:∀ i,(zbg m i=none/\zbF puts 0 i=[])\/∃ v,zbg m i=some v/\zbF puts 0 i≠[]/\w.ownsRow 0 3 1 v (zbF puts 0 i).length (zir (zbF puts 0 i))
 apart:∀ i j u v,i≠j->zbg m i=some u->zbg m j=some v->u.ownBlock≠v.ownBlock
 own:∀ k,F k ↔ k=tb\/k=mw\/pv.ownBlock=some k\/∃ i v,zbg m i=some v/\v.ownBlock=some k
def zjl (w:World) (F:Nat->Prop) (tb lb:Nat) (puts:List (Int × ByteArray)):Prop:=∃ pv mw m,zc7 w F tb lb puts pv mw m
variable {w w':World} {F S:Nat->Prop} {tb lb mw:Nat} {puts:List (Int × ByteArray)} {pv:Value} {m:List (Int × Value)}
theorem zc7.c (h:zc7 w F tb lb puts pv mw m):w.cell? ⟨tb,0,none⟩=some (.pointer (some ⟨lb,0,none⟩))/\w.cell? ⟨tb,1,none⟩=some pv/\w.cell? ⟨tb,2,none⟩=some (.map (some mw)) :=
 ⟨zaa h.cells rfl,zaa h.cells rfl,zaa h.cells rfl⟩
theorem zc7.frame (h:zc7 w F tb lb puts pv mw m) (hu:Upd S w w') (hn:∀ k,F k->¬S k):zc7 w' F tb lb puts pv mw m :=
 ⟨hu.at h.cells (hn _ ((h.own _).2 (.inl rfl))),zaH h.row hu (λ k hk=>hn k ((h.own k).2 (.inr (.inr (.inl hk))))),h.map.upd hu (hn _ ((h.own _).2 (.inr (.inl rfl)))),
  λ i=>(h.rows i).imp id (λ ⟨v,a,b,c⟩=>⟨v,a,b,zaH c hu (λ k hk=>hn k ((h.own k).2 (.inr (.inr (.inr ⟨i,v,a,hk⟩)))))⟩),h.apart,h.own⟩
theorem zc7.lt (h:zc7 w F tb lb puts pv mw m):∀ k,F k->k<w.heap.size:=by
 intro k hk
 rcases (h.own k).1 hk with rfl|rfl|hk|⟨i,v,h1,h2⟩
 ·exact zab h.cells
 ·exact h.map.lt
 ·exact (h.row.lt k hk).2
 ·rcases h.rows i with ⟨a,_⟩|⟨u,a,_,c⟩
  ·rw [a] at h1;cases h1
  ·rw [a] at h1;cases h1;exact (c.lt k h2).2
theorem zjl.frame (h:zjl w F tb lb puts) (hu:Upd S w w') (hn:∀ k,F k->¬S k):zjl w' F tb lb puts:=by
 obtain ⟨pv,mw,m,h⟩:=h;exact ⟨pv,mw,m,h.frame hu hn⟩
theorem zjl.below (h:zjl w F tb lb puts) (hb:Below w.heap.size w w'):zjl w' F tb lb puts:=h.frame (hb.upd' (zNr _)) (λ _ _ e=>e)
theorem zjl.lt (h:zjl w F tb lb puts):∀ k,F k->k<w.heap.size:=by obtain ⟨pv,mw,m,h⟩:=h;exact h.lt
structure Chg (w:World) (FL F:Nat->Prop) (tb lb n:Nat) (puts:List (Int × ByteArray)):Prop where
 log:zd9 w FL lb n
 tx:zjl w F tb lb puts
 apart:∀ k,FL k->¬F k
theorem Chg.below {FL:Nat->Prop} {n:Nat} (h:Chg w FL F tb lb n puts) (hb:Below w.heap.size w w'):Chg w' FL F tb lb n puts:=⟨h.log.below hb,h.tx.below hb,h.apart⟩
theorem zan {base:Nat} {e:TypeId} {size:Nat} {v:Value} {n:Nat} {xs:List Value} (h:w.ownsRow base e size v n xs):∃ a m c,v=.slice a m c:=by
 rcases h.2 with ⟨rfl,_⟩|⟨g,cap,cur,rfl,_⟩
 ·exact ⟨_,_,_,rfl⟩
 ·exact ⟨_,_,_,rfl⟩
theorem zsv {base:Nat} {e:TypeId} {size:Nat} {a:Option Addr} {m c n:Nat} {xs:List Value} (h:w.ownsRow base e size (.slice a m c) n xs):m=n:=by
 rcases h.2 with ⟨e,h0⟩|⟨g,cap,cur,e,_⟩
 ·cases e;exact h0.symm
 ·cases e;rfl
theorem zln (lb:Nat) (w:World) :
 Calls Tryz.prog 17 #[.pointer (some ⟨lb,0,none⟩)] w λ e w'=>e=.returned (.pointer (some ⟨w.heap.size+1,0,none⟩))/\Hid (zjl w' (λ k=>k=w.heap.size+1\/k=w.heap.size) (w.heap.size+1) lb []/\Below w.heap.size w w'):=by
 have hmm:=@run_makeMap Tryz.prog
 go_enter Tryz.func17,Tryz.ntmps17
 go_wp2_with fail
 go_ret
 refine ⟨rfl,⟨.slice none 0 0,w.heap.size,[],?_,World.ownsRow_nil _ _ _ _,(za2.made w).alloc _,λ i=>.inl ⟨rfl,rfl⟩,by simp [zbg],λ k=>by simp [zbg,Value.ownBlock]⟩,((zBr w.heap.size w).alloc (zNr _) _).alloc (by simp) _⟩
 have:=heap_alloc_new (w.alloc (.map #[] 0)) (.cells #[.pointer (some ⟨lb,0,none⟩),.slice none 0 0,.map (some w.heap.size)] 120)
 simpa using this
theorem zit (tb lb n:Nat) (FL F:Nat->Prop) (puts:List (Int × ByteArray)) (w:World) (h:Chg w FL F tb lb n puts) :
 Calls Tryz.prog 146 #[.pointer (some ⟨tb,0,none⟩)] w λ e w'=>e=.returned (.bool false)/\w=w':=by
 obtain ⟨c0,-,-⟩:=(by obtain ⟨pv,mw,m,h⟩:=h.tx;exact ⟨h.c.1,trivial,trivial⟩:w.cell? ⟨tb,0,none⟩=some (.pointer (some ⟨lb,0,none⟩))/\True/\True)
 have DN:=zlk lb w (by obtain ⟨db,mo,mf,mn,h⟩:=h.log;exact h.c.2.2.2.2)
 clear h
 go_enter Tryz.func146,Tryz.ntmps146
 go_wp2_with (go_at_call 189;refine DN.mono ?_;rintro e w1 ⟨rfl,rfl⟩)
 go_ret
 exact ⟨rfl,rfl⟩
theorem zgD (tb lb n:Nat) (FL F:Nat->Prop) (puts:List (Int × ByteArray)) (w:World) (h:Chg w FL F tb lb n puts) :
 Calls Tryz.prog 58 #[.pointer (some ⟨tb,0,none⟩)] w λ e w'=>e=.returned (.int .i64 n)/\Below w.heap.size w w':=by
 obtain ⟨c0,-,-⟩:=(by obtain ⟨pv,mw,m,h⟩:=h.tx;exact ⟨h.c.1,trivial,trivial⟩:w.cell? ⟨tb,0,none⟩=some (.pointer (some ⟨lb,0,none⟩))/\True/\True)
 have DN:=zjk lb n FL w h.log
 clear h
 go_enter Tryz.func58,Tryz.ntmps58
 go_wp2_with (go_at_call 113;refine DN.mono ?_;rintro e w1 ⟨rfl,hb⟩)
 go_ret
 exact ⟨rfl,hb⟩
theorem zpv (tb lb n:Nat) (FL F:Nat->Prop) (puts:List (Int × ByteArray)) (w:World) (h:Chg w FL F tb lb n puts) :
 Calls Tryz.prog 164 #[.pointer (some ⟨tb,0,none⟩)] w λ e w'=>e=.returned (.int .i64 puts.length)/\w=w':=by
 obtain ⟨pv,mw,m,ht⟩:=h.tx
 obtain ⟨-,c1,-⟩:=ht.c
 obtain ⟨a,l,c,rfl⟩:=zan ht.row
 obtain rfl:=zsv ht.row
 clear h ht
 go_enter Tryz.func164,Tryz.ntmps164
 go_wp2_with fail
 go_ret
 exact ⟨rfl,rfl⟩
def zbM (n:Nat) (puts:List (Int × ByteArray)) (i:Int):ByteArray × Int:=match zfi puts i with
 | some s=>(s,0)
 | none=>zca n i
theorem zea (w:World):(zeroValue 191).run Tryz.prog w=.ok (.slice none 0 0) w:=by kernel_rfl
theorem zpw (l:List (Int × ByteArray)) (k:Nat) (p:Int × ByteArray) (h:l[k]?=some p):(wrs l)[k*2]?=some (.int .i64 p.1)/\(wrs l)[k*2+1]?=some (.string p.2):=by
 induction l generalizing k with
 | nil=>simp at h
 | cons q r ih =>
   cases k with
   | zero=>simp at h;subst h;exact ⟨rfl,rfl⟩
   | succ k =>
     have:=ih k (by simpa using h)
     rw [show (k+1)*2=k*2+1+1 by omega]
     exact this
theorem zpx (tb lb n:Nat) (FL F:Nat->Prop) (puts:List (Int × ByteArray)) (i:Int) (w:World) (h:Chg w FL F tb lb n puts) (hp:puts.length<=4000000) :
 Calls Tryz.prog 152 #[.pointer (some ⟨tb,0,none⟩),.int .i64 i] w λ e w'=>e=.returned (.tuple #[.string (zbM n puts i).1,.int .i64 (zbM n puts i).2])/\Below w.heap.size w w':=by
 have DD:=zit tb lb n FL F puts w h
 have LR:=zpu lb n FL i w h.log
 obtain ⟨pv,mw,m,ht⟩:=h.tx
 obtain ⟨c0,c1,c2⟩:=ht.c
 have lk:=zb6 ht.map Tryz.underlying117 Tryz.underlying3 (zea w) i
 simp only [zeZ] at lk
 rcases zlm puts i with ⟨h1,h2⟩|⟨r,j,s,h1,h2,h3⟩
 ·have HE:=Hd (show zbM n puts i=zca n i by unfold zbM;rw [h2])
  have hlk:zbg m i=none:=by
   rcases ht.rows i with ⟨a,_⟩|⟨v,a,b,_⟩
   ·exact a
   ·exact absurd h1 b
  rw [hlk] at lk
  simp only [Option.map_none,Option.getD_none] at lk
  clear ht h h1 h2 hlk c1
  go_enter Tryz.func152,Tryz.ntmps152
  go_wp2_with (go_at_call 146;refine DD.mono ?_;rintro e w1 ⟨rfl,rfl⟩)
  refine LR.mono ?_
  rintro e w2 ⟨rfl,hb⟩
  have HB:=Hd hb
  clear hb
  go_wp2_with fail
  go_ret2
  exact ⟨by rw [HE.out];rfl,HB.out⟩
 ·have HE:=Hd (show zbM n puts i=(s,0) by unfold zbM;rw [h3])
  have hrow:∃ v,zbg m i=some v/\w.ownsRow 0 3 1 v (zbF puts 0 i).length (zir (zbF puts 0 i)):=by
   rcases ht.rows i with ⟨_,b⟩|⟨v,a,_,c⟩
   ·rw [h1] at b;simp at b
   ·exact ⟨v,a,c⟩
  obtain ⟨v,hlk,hrow⟩:=hrow
  rw [hlk] at lk
  simp only [Option.map_some,Option.getD_some,id] at lk
  rw [h1] at hrow
  obtain ⟨g,cap,rfl,-,-⟩:=hrow.form (by simp)
  have hjl:j<puts.length:=(List.getElem?_eq_some_iff.1 h2).1
  obtain ⟨gp,capp,rfl,-,-⟩:=ht.row.form (by omega)
  have q1:w.cell? ⟨g,r.length,none⟩=some (.int .i64 j):=by
   rw [hrow.cellAt r.length (by simp)];simp [zir]
  have q2:w.cell? ⟨gp,j*2+1,none⟩=some (.string s):=by
   rw [ht.row.cellAt (j*2+1) (by omega),(zpw puts j _ h2).2]
  have hrl:r.length<=4000000:=by
   have:(zbF puts 0 i).length<=puts.length:=by
    have:∀ (l:List (Int × ByteArray)) (k:Nat),(zbF l k i).length<=l.length:=by
     intro l
     induction l with
     | nil=>intro k;exact zNr _
     | cons p t ih =>
       intro k
       simp only [zbF]
       split
       ·have:=ih (k+1);simp;omega
       ·have:=ih (k+1);simp;omega
    exact this puts 0
   rw [h1] at this;simp at this;omega
  rw [show (r++[(j:Int)]).length=r.length+1 by simp] at lk
  clear ht h h1 h2 h3 hlk hrow LR
  generalize puts.length=pl at *
  go_enter Tryz.func152,Tryz.ntmps152
  go_wp2_with (go_at_call 146;refine DD.mono ?_;rintro e w1 ⟨rfl,rfl⟩)
  go_region
  go_wp2_with fail
  go_ret2
  exact ⟨by rw [HE.out];rfl,(zBr _ _).drew⟩
theorem zlo:(Tryz.prog.info? 3).map (λ i=>(i.zero,i.size,i.bytes))=some (some (.int .i64 0),1,8):=by kernel_rfl
theorem zsw:(Tryz.prog.info? 241).map (λ i=>(i.zero,i.size,i.bytes))=some (some (.agg #[.int .i64 0,.string ByteArray.empty]),2,24):=by kernel_rfl
theorem zai (w:World) (cs:Array Value) (T:TypeId) (m c:Nat):zbV (w.alloc (.cells cs T)) (.slice (some ⟨w.heap.size,0,none⟩) m c) m cs.toList:=by
 refine ⟨_,_,rfl,λ e=>(by cases e),λ ad e j u hu=>?_⟩
 cases e
 exact World.news_of_block (cs:=cs) (t:=T) (fr:=(0,0)) (heap_alloc_new w _) j u hu
theorem zjm (l:List (Int × ByteArray)) (k:Nat) (i:Int):(zbF l k i).length<=l.length:=by
 induction l generalizing k with
 | nil=>exact zNr _
 | cons p t ih =>
   simp only [zbF]
   split
   ·have:=ih (k+1);simp;omega
   ·have:=ih (k+1);simp;omega
def rowOf (m:List (Int × Value)) (i:Int):Value:=(zbg m i).getD (.slice none 0 0)
theorem zc7.rowOf {w:World} {F:Nat->Prop} {tb lb mw:Nat} {puts:List (Int × ByteArray)} {pv:Value} {m:List (Int × Value)} (h:zc7 w F tb lb puts pv mw m) (i:Int) :
 w.ownsRow 0 3 1 (rowOf m i) (zbF puts 0 i).length (zir (zbF puts 0 i)):=by
 unfold Go.Proofs.YtdcjhpafipbpkaaGreatDoor.rowOf
 rcases h.rows i with ⟨a,b⟩|⟨v,a,_,c⟩
 ·rw [a,b];exact World.ownsRow_nil _ _ _ _
 ·rw [a];exact c
theorem zsU {k:Nat} (h:k<=4000000):k+1<=maxLen/\(k+1)*8<=140737488355328/\(k+1)*24<=140737488355328:=by unfold maxLen;omega
theorem zkp (s:ByteArray) (h:s.size<=512):s++(⟨(Lib.repeatL (⟨#[0]⟩:ByteArray).data.toList (512-s.size)).toArray⟩:ByteArray)=pad s:=by
 unfold pad
 rw [show (⟨#[0]⟩:ByteArray).data.toList=[0] from rfl,zfA]
 apply ByteArray.ext
 simp
theorem zkq {w W W2:World} {F:Nat->Prop} {tb lb mw:Nat} {puts:List (Int × ByteArray)} {pv x:Value} {m:List (Int × Value)} {i:Int} {o:Obj} {s:ByteArray} (h:zc7 w F tb lb puts pv mw m)
 (ho:W.ownsRow 0 3 1 x ((zbF puts 0 i).length+1) (zir (zbF puts 0 i)++[.int .i64 puts.length])) (hg:(w.drew.alloc o).grownBy W (rowOf m i).ownBlock) (ha:x.ownBlock=(rowOf m i).ownBlock\/x.ownBlock=some (w.drew.alloc o).heap.size)
 (hm2:za2 zeZ id W2 mw (put m i x)) (hu2:Upd (·=mw) W W2) :
 W2.heap[tb]?=some (.cells #[.pointer (some ⟨lb,0,none⟩),pv,.map (some mw)] 120 (0,0))/\W2.ownsRow 0 241 2 pv puts.length (wrs puts) /\
 (∀ j,(zbg (put m i x) j=none/\zbF (puts++[(i,s)]) 0 j=[])\/∃ v,zbg (put m i x) j=some v/\zbF (puts++[(i,s)]) 0 j≠[]/\W2.ownsRow 0 3 1 v (zbF (puts++[(i,s)]) 0 j).length (zir (zbF (puts++[(i,s)]) 0 j))) /\
 (∀ a b u v,a≠b->zbg (put m i x) a=some u->zbg (put m i x) b=some v->u.ownBlock≠v.ownBlock) /\
 Upd (λ k=>k=mw\/(rowOf m i).ownBlock=some k) w W2/\(∀ k,x.ownBlock=some k->(rowOf m i).ownBlock=some k\/w.heap.size<=k):=by
 have hv0:=h.rowOf i
 have nmt:mw≠tb:=h.map.ne_cells h.cells
 have nvt:(Go.Proofs.YtdcjhpafipbpkaaGreatDoor.rowOf m i).ownBlock≠some tb:=λ e=>by
  obtain ⟨cur,hc⟩:=zaj hv0 e
  rw [h.cells] at hc;simp at hc
 have nvm:(Go.Proofs.YtdcjhpafipbpkaaGreatDoor.rowOf m i).ownBlock≠some mw:=λ e=>by
  obtain ⟨cur,hc⟩:=zaj hv0 e
  exact h.map.ne_cells hc rfl
 have npm:pv.ownBlock≠some mw:=λ e=>by
  obtain ⟨cur,hc⟩:=zaj h.row e
  exact h.map.ne_cells hc rfl
 have npv:∀ k,pv.ownBlock=some k->(Go.Proofs.YtdcjhpafipbpkaaGreatDoor.rowOf m i).ownBlock≠some k:=λ k e1 e2=>by
  obtain ⟨c1,h1⟩:=zaj h.row e1
  obtain ⟨c2,h2⟩:=zaj hv0 e2
  rw [h1] at h2;simp at h2
 have hsz:(w.drew.alloc o).heap.size=w.heap.size+1:=by simp
 have hU1:Upd (λ k=>(Go.Proofs.YtdcjhpafipbpkaaGreatDoor.rowOf m i).ownBlock=some k) w W:=(((Upd.refl _ w).drew).alloc o).grown hg (λ k hk=>.inl hk)
 have hU:Upd (λ k=>k=mw\/(Go.Proofs.YtdcjhpafipbpkaaGreatDoor.rowOf m i).ownBlock=some k) w W2:=(hU1.mono (λ _ _ e=>.inr e)).trans (hu2.mono (λ _ _ e=>.inl e))
 have hxk:∀ k,x.ownBlock=some k->(Go.Proofs.YtdcjhpafipbpkaaGreatDoor.rowOf m i).ownBlock=some k\/w.heap.size<=k:=by
  intro k hk
  rcases ha with e|e
  ·exact .inl (by rw [<-e,hk])
  ·rw [hk] at e;simp at e;exact .inr (by omega)
 have hmlt:=h.map.lt
 have hxm:x.ownBlock≠some mw:=λ e=>by
  rcases hxk mw e with h1|h1
  ·exact nvm h1
  ·omega
 obtain ⟨gx,cx,hx,-,-⟩:=ho.form (by omega)
 have hxs:x.ownBlock=some gx:=by rw [hx];rfl
 have hlook:∀ k,(Go.Proofs.YtdcjhpafipbpkaaGreatDoor.rowOf m i).ownBlock=some k->∃ v,zbg m i=some v/\v.ownBlock=some k:=by
  intro k hk
  unfold Go.Proofs.YtdcjhpafipbpkaaGreatDoor.rowOf at hk
  cases hl:zbg m i with
  | none=>rw [hl] at hk;simp [Value.ownBlock] at hk
  | some v=>rw [hl] at hk;exact ⟨v,rfl,hk⟩
 refine ⟨hU.at h.cells (λ e=>e.elim (λ e=>nmt e.symm) (λ e=>nvt e)),zaH h.row hU (λ k hk e=>e.elim (λ e=>npm (by rw [hk,e])) (λ e=>npv k hk e)),λ j=>?_,λ a b u v hab hu hv=>?_,hU,hxk⟩
 ·rw [zcJ,zdf]
  by_cases e:i=j
  ·subst e
   rw [if_pos rfl,if_pos rfl]
   refine .inr ⟨x,rfl,by simp,?_⟩
   have:=zaH ho hu2 (λ k hk e=>hxm (by rw [hk,e]))
   simpa [zir] using this
  ·rw [if_neg e,if_neg e]
   rcases h.rows j with ⟨a,b⟩|⟨v,a,b,c⟩
   ·exact .inl ⟨a,b⟩
   ·refine .inr ⟨v,a,b,zaH c hU (λ k hk e2=>?_)⟩
    rcases e2 with e2|e2
    ·obtain ⟨cur,hc⟩:=zaj c hk
     exact h.map.ne_cells hc e2.symm
    ·obtain ⟨v',h1,h2⟩:=hlook k e2
     exact h.apart i j v' v e h1 a (by rw [h2,hk])
 ·have key:∀ b v,i≠b->zbg m b=some v->x.ownBlock≠v.ownBlock:=by
   intro b v hib hv e
   rw [hxs] at e
   rcases hxk gx hxs with h1|h1
   ·obtain ⟨v',h2,h3⟩:=hlook gx h1
    exact h.apart i b v' v hib h2 hv (by rw [h3,<-e])
   ·have:=h.lt gx ((h.own gx).2 (.inr (.inr (.inr ⟨b,v,hv,e.symm⟩))))
    omega
  rw [zcJ] at hu hv
  by_cases ea:i=a
  ·rw [if_pos ea] at hu
   cases hu
   rw [if_neg (λ e=>hab (ea ▸ e))] at hv
   exact key b v (λ e=>hab (ea ▸ e)) hv
  ·rw [if_neg ea] at hu
   by_cases eb:i=b
   ·rw [if_pos eb] at hv
    cases hv
    exact λ e=>key a u ea hu e.symm
   ·rw [if_neg eb] at hv
    exact h.apart a b u v hab hu hv
theorem zlp {W2 W4 W5:World} {tb lb mw:Nat} {puts:List (Int × ByteArray)} {pv px:Value} {m2:List (Int × Value)} {i:Int} {s:ByteArray}
 (h1:W2.heap[tb]?=some (.cells #[.pointer (some ⟨lb,0,none⟩),pv,.map (some mw)] 120 (0,0))) (h2:W2.ownsRow 0 241 2 pv puts.length (wrs puts))
 (h3:∀ j,(zbg m2 j=none/\zbF (puts++[(i,s)]) 0 j=[])\/∃ v,zbg m2 j=some v/\zbF (puts++[(i,s)]) 0 j≠[]/\W2.ownsRow 0 3 1 v (zbF (puts++[(i,s)]) 0 j).length (zir (zbF (puts++[(i,s)]) 0 j)))
 (h4:∀ a b u v,a≠b->zbg m2 a=some u->zbg m2 b=some v->u.ownBlock≠v.ownBlock) (hm:za2 zeZ id W2 mw m2) (hu:Upd (λ _=>False) W2 W4)
 (ho:W5.ownsRow 0 241 2 px (puts.length+1) (wrs puts++[.int .i64 i,.string s])) (hg:W4.grownBy W5 pv.ownBlock) :
 zc7 (W5.setCell ⟨tb,1,none⟩ px) (λ k=>k=tb\/k=mw\/px.ownBlock=some k\/∃ i v,zbg m2 i=some v/\v.ownBlock=some k) tb lb (puts++[(i,s)]) px mw m2/\Upd (λ k=>k=tb\/pv.ownBlock=some k) W2 (W5.setCell ⟨tb,1,none⟩ px):=by
 have npt:pv.ownBlock≠some tb:=λ e=>by
  obtain ⟨cur,hc⟩:=zaj h2 e
  rw [h1] at hc;simp at hc
 have npm:pv.ownBlock≠some mw:=λ e=>by
  obtain ⟨cur,hc⟩:=zaj h2 e
  exact hm.ne_cells hc rfl
 have nmt:mw≠tb:=hm.ne_cells h1
 have hU4:Upd (λ k=>k=tb\/pv.ownBlock=some k) W2 W5:=(hu.mono (λ _ _ e=>e.elim)).grown hg (λ k hk=>.inl (.inr hk))
 have hc5:W5.heap[tb]?=some (.cells #[.pointer (some ⟨lb,0,none⟩),pv,.map (some mw)] 120 (0,0)):=by
  have e4:=hu.at h1 (λ e=>e)
  exact (hg.block tb (zab e4) (λ e=>npt e.symm)).trans e4
 have nxt:px.ownBlock≠some tb:=λ e=>by
  obtain ⟨cur,hc⟩:=zaj ho e
  rw [hc5] at hc;simp at hc
 have hU:Upd (λ k=>k=tb\/pv.ownBlock=some k) W2 (W5.setCell ⟨tb,1,none⟩ px):=hU4.trans ((zbP _ _ _ _).mono (λ _ _ e=>.inl e))
 refine ⟨⟨zac hc5 _,?_,hm.upd hU (λ e=>e.elim nmt npm),λ j=>?_,h4,λ k=>Iff.rfl⟩,hU⟩
 ·have:=zaH ho (zbP W5 tb 1 px) (λ k hk e=>nxt (by rw [hk,e]))
  simpa [wrs] using this
 ·rcases h3 j with ⟨a,b⟩|⟨v,a,b,c⟩
  ·exact .inl ⟨a,b⟩
  ·refine .inr ⟨v,a,b,zaH c hU (λ k hk e=>?_)⟩
   obtain ⟨cur,hc⟩:=zaj c hk
   rcases e with rfl|e
   ·rw [h1] at hc;simp at hc
   ·obtain ⟨c2,hc2⟩:=zaj h2 e
    rw [hc] at hc2;simp at hc2
theorem zkr {w:World} {F:Nat->Prop} {tb lb mw:Nat} {puts:List (Int × ByteArray)} {pv:Value} {m:List (Int × Value)} (h:zc7 w F tb lb puts pv mw m) (i:Int):¬(rowOf m i).ownBlock=some mw:=λ e=>by
 obtain ⟨cur,hc⟩:=zaj (h.rowOf i) e
 exact h.map.ne_cells hc rfl
theorem zho {w W:World} {F:Nat->Prop} {tb lb mw:Nat} {puts:List (Int × ByteArray)} {pv:Value} {m:List (Int × Value)} {i:Int} {o:Obj} (h:zc7 w F tb lb puts pv mw m) (hg:(w.drew.alloc o).grownBy W (rowOf m i).ownBlock) :
 W.heap[tb]?=some (.cells #[.pointer (some ⟨lb,0,none⟩),pv,.map (some mw)] 120 (0,0)):=by
 have nvt:(rowOf m i).ownBlock≠some tb:=λ e=>by
  obtain ⟨cur,hc⟩:=zaj (h.rowOf i) e
  rw [h.cells] at hc;simp at hc
 have e1:(w.drew.alloc o).heap[tb]?=some (.cells #[.pointer (some ⟨lb,0,none⟩),pv,.map (some mw)] 120 (0,0)):=(zao o (w:=w.drew) (zab h.cells)).trans h.cells
 exact (hg.block tb (zab e1) (λ e=>nvt e.symm)).trans e1
theorem zlq {w w1 W2 W3 W5:World} {FL F:Nat->Prop} {tb lb n mw:Nat} {puts:List (Int × ByteArray)} {pv px x:Value} {m:List (Int × Value)} {i:Int} {s:ByteArray} {o:Obj} (hb1:Below w.heap.size w w1) (hc:Chg w1 FL F tb lb n puts) (h:zc7 w1 F tb lb puts pv mw m)
 (hn:W2.heap[tb]?=some (.cells #[.pointer (some ⟨lb,0,none⟩),pv,.map (some mw)] 120 (0,0))/\W2.ownsRow 0 241 2 pv puts.length (wrs puts) /\
 (∀ j,(zbg (put m i x) j=none/\zbF (puts++[(i,s)]) 0 j=[])\/∃ v,zbg (put m i x) j=some v/\zbF (puts++[(i,s)]) 0 j≠[]/\W2.ownsRow 0 3 1 v (zbF (puts++[(i,s)]) 0 j).length (zir (zbF (puts++[(i,s)]) 0 j))) /\
 (∀ a b u v,a≠b->zbg (put m i x) a=some u->zbg (put m i x) b=some v->u.ownBlock≠v.ownBlock) /\
 Upd (λ k=>k=mw\/(rowOf m i).ownBlock=some k) w1 W2/\(∀ k,x.ownBlock=some k->(rowOf m i).ownBlock=some k\/w1.heap.size<=k))
 (hm:za2 zeZ id W2 mw (put m i x)) (hb3:Below W2.heap.size W2 W3)
 (ho:W5.ownsRow 0 241 2 px (puts.length+1) (wrs puts++[.int .i64 i,.string s])) (hg:(W3.alloc o).grownBy W5 pv.ownBlock) (ha:px.ownBlock=pv.ownBlock\/px.ownBlock=some (W3.alloc o).heap.size)
 (hF:∀ k,F k->k<w.heap.size) :
 ∃ F',Chg (W5.setCell ⟨tb,1,none⟩ px) FL F' tb lb n (puts++[(i,s)])/\zdb F F' w (W5.setCell ⟨tb,1,none⟩ px):=by
 obtain ⟨n1,n2,n3,n4,n5,n6⟩:=hn
 have hu4:Upd (λ _=>False) W2 (W3.alloc o):=(hb3.upd' (zNr _)).alloc o
 obtain ⟨p1,p2⟩:=zlp n1 n2 n3 n4 hm hu4 ho hg
 have ow:=h.own
 have hrf:∀ k,(rowOf m i).ownBlock=some k->F k:=by
  intro k hk
  unfold rowOf at hk
  cases hl:zbg m i with
  | none=>rw [hl] at hk;simp [Value.ownBlock] at hk
  | some v=>rw [hl] at hk;exact (ow k).2 (.inr (.inr (.inr ⟨i,v,hl,hk⟩)))
 have hUF:Upd F w1 (W5.setCell ⟨tb,1,none⟩ px):=by
  refine (n5.mono (λ k _ e=>?_)).trans' p2 (λ k hk e=>?_)
  ·rcases e with rfl|e
   ·exact (ow k).2 (.inr (.inl rfl))
   ·exact hrf k e
  ·rcases e with rfl|e
   ·exact (ow k).2 (.inl rfl)
   ·exact (ow k).2 (.inr (.inr (.inl e)))
 have hU:Upd F w (W5.setCell ⟨tb,1,none⟩ px):=((hb1.upd' (zNr _)).mono (λ _ _ e=>e.elim)).trans hUF
 have hsub:∀ k,(k=tb\/k=mw\/px.ownBlock=some k\/∃ j v,zbg (put m i x) j=some v/\v.ownBlock=some k)->F k\/w1.heap.size<=k:=by
  intro k hk
  have s2:w1.heap.size<=(W3.alloc o).heap.size:=by have:=n5.size;have:=hu4.size;omega
  rcases hk with rfl|rfl|e|⟨j,v,e1,e2⟩
  ·exact .inl ((ow _).2 (.inl rfl))
  ·exact .inl ((ow _).2 (.inr (.inl rfl)))
  ·rcases ha with a|a
   ·exact .inl ((ow k).2 (.inr (.inr (.inl (by rw [<-a,e])))))
   ·rw [e] at a;simp only [Option.some.injEq] at a;exact .inr (by rw [a];exact s2)
  ·rw [zcJ] at e1
   split at e1
   ·cases e1
    rcases n6 k e2 with a|a
    ·exact .inl (hrf k a)
    ·exact .inr a
   ·exact .inl ((ow k).2 (.inr (.inr (.inr ⟨j,v,e1,e2⟩))))
 refine ⟨_,⟨hc.log.frame hUF (λ k hk e=>hc.apart k hk e),⟨_,_,_,p1⟩,λ k hk hf=>?_⟩,hU,λ k hk=>(hsub k hk).imp id (λ e=>Nat.le_trans hb1.size e)⟩
 rcases hsub k hf with e|e
 ·exact hc.apart k hk e
 ·have:=hc.log.lt k hk;omega
theorem zrd {W2 W3 W5:World} {tb lb mw k:Nat} {pv:Value} {l:List Value} {o:Obj} (h1:W2.heap[tb]?=some (.cells #[.pointer (some ⟨lb,0,none⟩),pv,.map (some mw)] 120 (0,0))) (h2:W2.ownsRow 0 241 2 pv k l) (hb3:Below W2.heap.size W2 W3) (hg:(W3.alloc o).grownBy W5 pv.ownBlock) :
 W5.heap[tb]?=some (.cells #[.pointer (some ⟨lb,0,none⟩),pv,.map (some mw)] 120 (0,0)):=by
 have npt:pv.ownBlock≠some tb:=λ e=>by
  obtain ⟨cur,hc⟩:=zaj h2 e
  rw [h1] at hc;simp at hc
 have e4:=((hb3.upd' (zNr _)).alloc o).at h1 (λ e=>e)
 exact (hg.block tb (zab e4) (λ e=>npt e.symm)).trans e4
theorem zlr (tb lb n:Nat) (FL F:Nat->Prop) (puts:List (Int × ByteArray)) (i:Int) (s:ByteArray) (w:World) (h:Chg w FL F tb lb n puts) (hp:puts.length<=4000000) (i0:0<=i) (i1:i<n) (hs:s.size<=512) :
 Calls Tryz.prog 94 #[.pointer (some ⟨tb,0,none⟩),.int .i64 i,.string s] w λ e w'=>e=.returned (.int .i64 0)/\Hid (∃ F',Chg w' FL F' tb lb n (puts++[(i,pad s)])/\zdb F F' w w'):=by
 have DD:=zit tb lb n FL F puts w h
 have HM:=zgD tb lb n FL F puts w h
 have H:=Hd h
 obtain ⟨q,hq⟩:=exE (512-s.size)
 have hq1:IntKind.i64.wrap (512-(s.size:Int))=(q:Int):=by rw [zoW (by omega) (by omega)];omega
 have RP:=Hd (λ w=>Tryz.strings_Repeat ⟨#[0]⟩ q w (by omega) (show 1*q<=_ by omega))
 have hpd:=zkp s hs
 rw [hq] at hpd
 obtain ⟨z,hz⟩:∃ z:ByteArray,(⟨(Lib.repeatL (⟨#[0]⟩:ByteArray).data.toList q).toArray⟩:ByteArray)=z:=⟨_,rfl⟩
 rw [hz] at RP hpd
 have hzs:s.size+z.size=512:=by
  have:=congrArg ByteArray.size hpd
  rw [ByteArray.size_append,Lib.size_eq (pad s)] at this
  simp [pad] at this
  omega
 have ha1:(s.size+z.size > 9223372036854775807)=False:=eq_false (by omega)
 have ha2:(9223372036854775807<s.size+z.size)=False:=eq_false (by omega)
 have HPD:=Hd hpd
 clear h hz hpd hq
 go_enter Tryz.func94,Tryz.ntmps94
 go_wp2_with (go_at_call 146;refine DD.mono ?_;rintro e w1 ⟨rfl,rfl⟩)
 refine HM.mono ?_
 rintro e w1 ⟨rfl,hb⟩
 have HB:=Hd hb
 have hc1:=H.out.below hb
 clear hb HM DD
 obtain ⟨pv,mw,m,ht⟩:=hc1.tx
 obtain ⟨-,c1,c2⟩:=ht.c
 obtain ⟨pa,pl,pc,rfl⟩:=zan ht.row
 obtain rfl:=zsv ht.row
 have f1:=zad ht.cells 1
 obtain ⟨jI,hjI,hI0,hI1,hI2⟩:=info_parts zlo
 obtain ⟨jU,hjU,hU0,hU1,hU2⟩:=info_parts zsw
 have hlen:=zjm puts 0 i
 have hr0:=ht.rowOf i
 have lkA:(Instr.lookup 117 (.map (some mw)) (.int .i64 i) false).run Tryz.prog w1.drew=.ok (rowOf m i) w1.drew:=by
  have:=zb6 (w:=w1.drew) (ht.map.of_heap rfl) Tryz.underlying117 Tryz.underlying3 (zea _) i
  simp only [zeZ,Option.map_id] at this
  exact this
 have lkB:(Instr.lookup 117 (.map (some mw)) (.int .i64 i) false).run Tryz.prog (w1.alloc (.cells #[.int .i64 (puts.length:Int)] 3)).drew=.ok (rowOf m i) (w1.alloc (.cells #[.int .i64 (puts.length:Int)] 3)).drew:=by
  have:=zb6 (w:=(w1.alloc (.cells #[.int .i64 (puts.length:Int)] 3)).drew) (ht.map.of_heap (zao _ ht.map.lt)) Tryz.underlying117 Tryz.underlying3 (zea _) i
  simp only [zeZ,Option.map_id] at this
  exact this
 have HT:=Hd ht
 have HC1:=Hd hc1
 have HR0:=Hd (show w1.drew.ownsRow 0 3 1 (rowOf m i) (zbF puts 0 i).length (zir (zbF puts 0 i)) from hr0)
 have HLI:=Hd (zsU (k:=(zbF puts 0 i).length) (by omega))
 have HLP:=Hd (zsU hp)
 clear ht hc1 hr0 hlen
 go_wp2_with fail
 go_region_held3 (λ w'=>w'.cell? ⟨tb,1,none⟩=some (.slice pa puts.length pc)/\w'.cell? ⟨tb,2,none⟩=some (.map (some mw))) (go_keep) ((first
  | (refine zat (by rfl) _ _ _ (by rfl) 0 3 jI _ 1 8 Tryz.underlying191 hjI hI0 hI1 hI2 rfl (by decide) _ _ _ (by rfl) (HR0.out.alloc _) _ 1 _ (by rfl) (zai _ #[.int .i64 (puts.length:Int)] _ 1 1) rfl (zkk _ rfl) HLI.out.1 HLI.out.2.1 (zNz _) ?_
     intro x W ho hg ha
     obtain ⟨W2,hrun,hm2,hu2⟩:=zcN (w:=W) (HT.out.map.upd (((Upd.refl (λ k=>(rowOf m i).ownBlock=some k) w1).drew.alloc (.cells #[.int .i64 (puts.length:Int)] 3)).grown hg (λ k hk=>.inl hk)) (zkr HT.out i)) Tryz.underlying117 Tryz.underlying3 i x
     simp only [zeZ,id] at hrun
     have hn:=zkq (s:=pad s) HT.out ho hg ha hm2 hu2
     have d1:W.cell? ⟨tb,1,none⟩=some (.slice pa puts.length pc):=zaa (zho HT.out hg) rfl
     have d2:W.cell? ⟨tb,2,none⟩=some (.map (some mw)):=zaa (zho HT.out hg) rfl
     have d3:W2.cell? ⟨tb,1,none⟩=some (.slice pa puts.length pc):=zaa hn.1 rfl
     have d4:W2.cell? ⟨tb,2,none⟩=some (.map (some mw)):=zaa hn.1 rfl
     have HN:=Hd hn
     have HM2:=Hd hm2
     clear hn hm2 hu2 ho hg ha)
  | fail))
 all_goals go_wp2_with fail
 all_goals (
  have d5:W2.cell? ⟨tb,1,none⟩=some (.slice pa puts.length pc):=zaa HN.out.1 rfl
  have HLT:=Hd (H.out.tx.lt)
  go_region_law ((first
   | (refine zat (by rfl) _ _ _ (by rfl) 0 241 jU _ 2 24 Tryz.underlying118 hjU hU0 hU1 hU2 rfl (by decide) _ _ _ (by rfl) ((zaH HN.out.2.1 (HB3.out.upd' (zNr _)) (λ _ _ e=>e)).alloc _) _ 1 _ (by rfl) (zai _ #[.int .i64 i,.string (s++z)] _ 1 1) rfl (znn _ _ rfl rfl) HLP.out.1 HLP.out.2.2 (zNz _) ?_
      intro px W5 ho5 hg5 ha5
      obtain ⟨xa,xm,xc,rfl⟩:=zan ho5
      have ho6:W5.ownsRow 0 241 2 (.slice xa xm xc) (puts.length+1) (wrs puts++[.int .i64 i,.string (pad s)]):=by rw [<-HPD.out];exact ho5
      have HE:=Hd (zlq HB.out HC1.out HT.out HN.out HM2.out HB3.out ho6 hg5 ha5 HLT.out)
      have g5:=zrd HN.out.1 HN.out.2.1 HB3.out hg5
      have g1:W5.cell? ⟨tb,1,none⟩=some (.slice pa puts.length pc):=zaa g5 rfl
      have g2:=zad g5 1
      clear ho5 hg5 ha5 g5 ho6)
   | (go_simp;go_at_call 147;refine Calls.at_args (RP.out _) (by with_reducible rfl) ?_;rintro e W3 ⟨rfl,hb3⟩
      have e3:W3.cell? ⟨tb,1,none⟩=some (.slice pa puts.length pc):=zaa ((hb3.block tb (zab HN.out.1)).trans HN.out.1) rfl
      have l3:tb<W3.heap.size:=Nat.lt_of_lt_of_le (zab HN.out.1) hb3.size
      have HB3:Hid (Below W2.heap.size W2 W3):=Hd (((zBr W2.heap.size W2).drew).trans hb3)
      clear hb3)))
  all_goals go_wp2_with fail
  all_goals go_ret
  all_goals exact ⟨rfl,HE⟩)
def zbZ (n:Nat) (puts:List (Int × ByteArray)) (i:Int) (s:ByteArray):Int × List (Int × ByteArray) :=
 if i<0\/(n:Int)<=i then (2,puts) else if 512<s.size then (5,puts) else (0,puts++[(i,pad s)])
theorem Chg.step {w w':World} {FL F:Nat->Prop} {tb lb n:Nat} {puts:List (Int × ByteArray)} (h:Chg w FL F tb lb n puts) (hb:Below w.heap.size w w'):Chg w' FL F tb lb n puts/\zdb F F w w' :=
 ⟨h.below hb,(hb.upd' (zNr _)).mono (λ _ _ e=>e.elim),λ _ e=>.inl e⟩
theorem zfl (tb lb n:Nat) (FL F:Nat->Prop) (puts:List (Int × ByteArray)) (i:Int) (s:ByteArray) (w:World) (h:Chg w FL F tb lb n puts) (hp:puts.length<=4000000) :
 Calls Tryz.prog 94 #[.pointer (some ⟨tb,0,none⟩),.int .i64 i,.string s] w λ e w'=>e=.returned (.int .i64 (zbZ n puts i s).1)/\Hid (∃ F',Chg w' FL F' tb lb n (zbZ n puts i s).2/\zdb F F' w w'):=by
 have DD:=zit tb lb n FL F puts w h
 have HM:=zgD tb lb n FL F puts w h
 have H:=Hd h
 by_cases i0:i<0
 ·have HE:=Hd (show zbZ n puts i s=(2,puts) by unfold zbZ;rw [if_pos (.inl i0)])
  clear HM h
  go_enter Tryz.func94,Tryz.ntmps94
  go_wp2_with (go_at_call 146;refine DD.mono ?_;rintro e w1 ⟨rfl,rfl⟩)
  go_ret
  exact ⟨by rw [HE.out];rfl,by rw [HE.out];exact ⟨F,H.out.step (zBr _ _)⟩⟩
 by_cases i1:(n:Int)<=i
 ·have HE:=Hd (show zbZ n puts i s=(2,puts) by unfold zbZ;rw [if_pos (.inr i1)])
  clear h
  go_enter Tryz.func94,Tryz.ntmps94
  go_wp2_with (first|(go_at_call 146;refine DD.mono ?_;rintro e w1 ⟨rfl,rfl⟩)|(go_at_call 58;refine HM.mono ?_;rintro e w2 ⟨rfl,hb⟩))
  go_ret
  exact ⟨by rw [HE.out];rfl,by rw [HE.out];exact ⟨F,H.out.step hb⟩⟩
 by_cases hs:512<s.size
 ·have HE:=Hd (show zbZ n puts i s=(5,puts) by unfold zbZ;rw [if_neg (by omega),if_pos hs])
  clear h
  go_enter Tryz.func94,Tryz.ntmps94
  go_wp2_with (first|(go_at_call 146;refine DD.mono ?_;rintro e w1 ⟨rfl,rfl⟩)|(go_at_call 58;refine HM.mono ?_;rintro e w2 ⟨rfl,hb⟩))
  go_ret
  exact ⟨by rw [HE.out];rfl,by rw [HE.out];exact ⟨F,H.out.step hb⟩⟩
 ·have:=zlr tb lb n FL F puts i s w h hp (by omega) (by omega) (by omega)
  rwa [show zbZ n puts i s=(0,puts++[(i,pad s)]) by unfold zbZ;rw [if_neg (by omega),if_neg hs]]
def zbt (a b c d e f g h:Bool):Nat:=a.toNat+2*b.toNat+4*c.toNat+8*d.toNat+16*e.toNat+32*f.toNat+64*g.toNat+128*h.toNat
def zbm (u:Nat->Bool) (k:Nat):Nat:=zbt (u k) (u (k+1)) (u (k+2)) (u (k+3)) (u (k+4)) (u (k+5)) (u (k+6)) (u (k+7))
theorem znB (a b c d e f g h:Bool):zbt a b c d e f g h<256:=by revert a b c d e f g h;decide
theorem zeb (u:Nat->Bool) (k:Nat):zbm u k<256:=znB _ _ _ _ _ _ _ _
theorem zls (a b c d e f g h:Bool):(zbt a b c d e f g h &&& 1 != 0)=a/\(zbt a b c d e f g h &&& 2 != 0)=b/\(zbt a b c d e f g h &&& 4 != 0)=c/\(zbt a b c d e f g h &&& 8 != 0)=d /\
 (zbt a b c d e f g h &&& 16 != 0)=e/\(zbt a b c d e f g h &&& 32 != 0)=f/\(zbt a b c d e f g h &&& 64 != 0)=g/\(zbt a b c d e f g h &&& 128 != 0)=h:=by revert a b c d e f g h;decide
theorem zlt (a b c d e f g h:Bool):zbt a b c d e f g h ^^^ 1=zbt (!a) b c d e f g h/\zbt a b c d e f g h ^^^ 2=zbt a (!b) c d e f g h/\zbt a b c d e f g h ^^^ 4=zbt a b (!c) d e f g h/\zbt a b c d e f g h ^^^ 8=zbt a b c (!d) e f g h /\
 zbt a b c d e f g h ^^^ 16=zbt a b c d (!e) f g h/\zbt a b c d e f g h ^^^ 32=zbt a b c d e (!f) g h/\zbt a b c d e f g h ^^^ 64=zbt a b c d e f (!g) h/\zbt a b c d e f g h ^^^ 128=zbt a b c d e f g (!h):=by revert a b c d e f g h;decide
def zbn (u:Nat->Bool) (p:Nat):Nat->Bool:=λ q=>if q=p then !u q else u q
theorem zhp {b:Nat} (h:b<8):b=0\/b=1\/b=2\/b=3\/b=4\/b=5\/b=6\/b=7:=by omega
theorem zlu (u:Nat->Bool) (k b:Nat) (hb:b<8):(zbm u k &&& 2 ^ b != 0)=u (k+b):=by
 obtain ⟨h0,h1,h2,h3,h4,h5,h6,h7⟩:=zls (u k) (u (k+1)) (u (k+2)) (u (k+3)) (u (k+4)) (u (k+5)) (u (k+6)) (u (k+7))
 rcases zhp hb with rfl|rfl|rfl|rfl|rfl|rfl|rfl|rfl
 ·exact h0
 ·exact h1
 ·exact h2
 ·exact h3
 ·exact h4
 ·exact h5
 ·exact h6
 ·exact h7
theorem zks (u:Nat->Bool) (k b:Nat) (hb:b<8):zbm u k ^^^ 2 ^ b=zbm (zbn u (k+b)) k:=by
 obtain ⟨h0,h1,h2,h3,h4,h5,h6,h7⟩:=zlt (u k) (u (k+1)) (u (k+2)) (u (k+3)) (u (k+4)) (u (k+5)) (u (k+6)) (u (k+7))
 have e:∀ j,zbn u (k+b) (k+j)=if j=b then !u (k+j) else u (k+j):=by
  intro j
  unfold zbn
  by_cases e:j=b
  ·rw [if_pos e,if_pos (by rw [e])]
  ·rw [if_neg e,if_neg (by omega)]
 unfold zbm
 rw [show zbn u (k+b) k=if 0=b then !u k else u k from e 0,e 1,e 2,e 3,e 4,e 5,e 6,e 7]
 rcases zhp hb with rfl|rfl|rfl|rfl|rfl|rfl|rfl|rfl
 ·exact h0
 ·exact h1
 ·exact h2
 ·exact h3
 ·exact h4
 ·exact h5
 ·exact h6
 ·exact h7
theorem zdM (u:Nat->Bool) (k p:Nat) (h:p<k\/k+8<=p):zbm (zbn u p) k=zbm u k:=by
 have e:∀ j,j<8->zbn u p (k+j)=u (k+j):=λ j hj=>by unfold zbn;rw [if_neg (by omega)]
 unfold zbm
 rw [show zbn u p k=u k from e 0 (by omega),e 1 (by omega),e 2 (by omega),e 3 (by omega),e 4 (by omega),e 5 (by omega),e 6 (by omega),e 7 (by omega)]
def zdH (u:Nat->Bool) (m:Nat):List UInt8:=(List.range 512).map λ i=>UInt8.ofNat (zbm u (m*4096+8*i))
def zbQ (u:Nat->Bool) (m:Nat):ByteArray:=⟨(zdH u m).toArray⟩
theorem ze1 (u:Nat->Bool) (m:Nat):(zdH u m).length=512:=by simp [zdH]
theorem zbR (u:Nat->Bool) (m:Nat):(zbQ u m).size=512:=by rw [Lib.size_eq];exact ze1 u m
theorem zec (u:Nat->Bool) (m i:Nat) (hi:i<512):(zbQ u m)[i]?=some (UInt8.ofNat (zbm u (m*4096+8*i))):=by
 rw [getElem?_pos _ i (by rw [zbR];exact hi)]
 have:(zbQ u m)[i]'(by rw [zbR];exact hi)=(zdH u m)[i]'(by rw [ze1];exact hi):=rfl
 rw [this]
 simp [zdH]
theorem zkt (u:Nat->Bool) (m p:Nat) (h:p / 4096=m):zdH (zbn u p) m=(zdH u m).set (p%4096 / 8) (UInt8.ofNat (zbm u (m*4096+8*(p%4096 / 8)) ^^^ 2 ^ (p%8))):=by
 apply List.ext_getElem
 ·simp [zdH]
 ·intro i h1 h2
  have hi:i<512:=by simpa [zdH] using h1
  rw [List.getElem_set]
  simp only [zdH,List.getElem_map,List.getElem_range]
  by_cases e:p%4096 / 8=i
  ·rw [if_pos e,zks _ _ _ (by omega)]
   subst e
   rw [show m*4096+8*(p%4096 / 8)+p%8=p by omega]
  ·rw [if_neg e,zdM _ _ _ (by omega)]
theorem zc2 (u:Nat->Bool) (m p:Nat) (h:p / 4096≠m):zbQ (zbn u p) m=zbQ u m:=by
 unfold zbQ zdH
 congr 2
 apply List.map_congr_left
 intro i hi
 have:=List.mem_range.1 hi
 rw [zdM _ _ _ (by omega)]
theorem zsx (a b c d e f g h:Bool) (hx:zbt a b c d e f g h≠255):Lib.trailingZeros8 (255 ^^^ zbt a b c d e f g h)<8/\[a,b,c,d,e,f,g,h][Lib.trailingZeros8 (255 ^^^ zbt a b c d e f g h)]?=some false /\
 ∀ j,j<Lib.trailingZeros8 (255 ^^^ zbt a b c d e f g h)->[a,b,c,d,e,f,g,h][j]?=some true:=by
 revert hx;revert a b c d e f g h;decide +kernel
theorem zsV (u:Nat->Bool) (k j:Nat) (hj:j<8):[u k,u (k+1),u (k+2),u (k+3),u (k+4),u (k+5),u (k+6),u (k+7)][j]?=some (u (k+j)):=by
 rcases zhp hj with rfl|rfl|rfl|rfl|rfl|rfl|rfl|rfl <;> rfl
theorem zku (u:Nat->Bool) (k:Nat) (hx:zbm u k≠255):∃ t,t<8/\Lib.trailingZeros8 (255 ^^^ zbm u k)=t/\u (k+t)=false/\∀ j,j<t->u (k+j)=true:=by
 obtain ⟨h1,h2,h3⟩:=zsx (u k) (u (k+1)) (u (k+2)) (u (k+3)) (u (k+4)) (u (k+5)) (u (k+6)) (u (k+7)) hx
 refine ⟨_,h1,rfl,?_,λ j hj=>?_⟩
 ·rw [zsV u k _ h1] at h2;exact Option.some.inj h2
 ·have:=h3 j hj;rw [zsV u k _ (Nat.lt_trans hj h1)] at this;exact Option.some.inj this
theorem zsy (a b c d e f g h:Bool) (hx:zbt a b c d e f g h=255):a=true/\b=true/\c=true/\d=true/\e=true/\f=true/\g=true/\h=true:=by
 have t:∀ x:Bool,x.toNat=1->x=true:=by decide
 have l:∀ x:Bool,x.toNat<=1:=by decide
 have la:=l a
 have lb:=l b
 have lc:=l c
 have ld:=l d
 have le:=l e
 have lf:=l f
 have lg:=l g
 have lh:=l h
 unfold zbt at hx
 exact ⟨t a (by omega),t b (by omega),t c (by omega),t d (by omega),t e (by omega),t f (by omega),t g (by omega),t h (by omega)⟩
theorem zkv (u:Nat->Bool) (k:Nat) (hx:zbm u k=255):∀ j,j<8->u (k+j)=true:=by
 obtain ⟨h0,h1,h2,h3,h4,h5,h6,h7⟩:=zsy _ _ _ _ _ _ _ _ hx
 intro j hj
 rcases zhp hj with rfl|rfl|rfl|rfl|rfl|rfl|rfl|rfl
 ·exact h0
 ·exact h1
 ·exact h2
 ·exact h3
 ·exact h4
 ·exact h5
 ·exact h6
 ·exact h7
def cnt (u:Nat->Bool):Nat->Nat
 | 0=>0
 | k+1=>cnt u k+(u k).toNat
theorem zsz (a b c d e f g h:Bool):Lib.onesCount (zbt a b c d e f g h)=a.toNat+b.toNat+c.toNat+d.toNat+e.toNat+f.toNat+g.toNat+h.toNat:=by
 revert a b c d e f g h;decide +kernel
theorem znC (u:Nat->Bool) (k:Nat):cnt u (k+8)=cnt u k+Lib.onesCount (zbm u k):=by
 unfold zbm
 rw [zsz]
 simp only [cnt]
 omega
def ze2 (r:Nat->Nat) (i:Nat):UInt8:=if i<128 then UInt8.ofNat (r (i / 8) / 256 ^ (7-i%8)%256) else 0
def zbB (r:Nat->Nat):List UInt8:=(List.range 512).map (ze2 r)
def zbW (r:Nat->Nat):ByteArray:=⟨(zbB r).toArray⟩
theorem zbo (r:Nat->Nat):(zbB r).length=512:=by simp [zbB]
theorem zbw (r:Nat->Nat):(zbW r).size=512:=by rw [Lib.size_eq];exact zbo r
theorem zkw (r:Nat->Nat) (k j:Nat) (hk:k<16) (hj:j<8):(zbW r)[8*k+j]?=some (UInt8.ofNat (r k / 256 ^ (7-j)%256)):=by
 have hi:8*k+j<512:=by omega
 rw [getElem?_pos _ (8*k+j) (by rw [zbw];exact hi)]
 have:(zbW r)[8*k+j]'(by rw [zbw];exact hi)=(zbB r)[8*k+j]'(by rw [zbo];exact hi):=rfl
 rw [this]
 simp only [zbB,List.getElem_map,List.getElem_range]
 unfold ze2
 rw [if_pos (by omega),show (8*k+j) / 8=k by omega,show (8*k+j)%8=j by omega]
def be8 (v n:Nat):List UInt8:=(List.range n).map λ j=>UInt8.ofNat (v / 256 ^ (7-j)%256)
def upd (r:Nat->Nat) (k v:Nat):Nat->Nat:=λ q=>if q=k then v else r q
theorem zlv (r:Nat->Nat) (k v:Nat) (hk:k<16):(zbB r).take (8*k)++be8 v 8++(zbB r).drop (8*k+8)=zbB (upd r k v):=by
 have l1:((zbB r).take (8*k)).length=8*k:=by rw [List.length_take,zbo];omega
 have l2:(be8 v 8).length=8:=by simp [be8]
 apply List.ext_getElem
 ·simp [zbB,be8];omega
 ·intro i h1 h2
  have hi:i<512:=by simpa [zbB] using h2
  have e2:(zbB (upd r k v))[i]'h2=ze2 (upd r k v) i:=by simp [zbB]
  rw [e2]
  by_cases c1:i<8*k
  ·rw [List.getElem_append_left (by simp [l1,l2];omega),List.getElem_append_left (by omega),List.getElem_take]
   simp only [zbB,List.getElem_map,List.getElem_range,ze2]
   rw [if_pos (by omega),if_pos (by omega)]
   unfold upd
   rw [if_neg (by omega)]
  ·by_cases c2:i<8*k+8
   ·rw [List.getElem_append_left (by simp [l1,l2];omega),List.getElem_append_right (by omega)]
    simp only [be8,List.getElem_map,List.getElem_range,ze2,l1]
    rw [if_pos (by omega)]
    unfold upd
    rw [if_pos (by omega),show 7-(i-8*k)=7-i%8 by omega]
   ·rw [List.getElem_append_right (by simp [l1,l2];omega),List.getElem_drop]
    simp only [zLa,l1,l2]
    simp only [zbB,List.getElem_map,List.getElem_range]
    rw [show 8*k+8+(i-(8*k+8))=i by omega]
    unfold ze2
    by_cases c3:i<128
    ·rw [if_pos c3,if_pos c3]
     unfold upd
     rw [if_neg (by omega)]
    ·rw [if_neg c3,if_neg c3]
theorem zlw (v j:Nat) (hj:j<8):v / 256 ^ (8-j)*256+v / 256 ^ (7-j)%256=v / 256 ^ (8-(j+1)):=by
 rw [show 8-(j+1)=7-j by omega,show 8-j=(7-j)+1 by omega,Nat.pow_succ,<-Nat.div_div_eq_div_mul]
 omega
theorem zlx (v:Nat) (h:v<18446744073709551616):v / 256 ^ (8-0)=0:=by
 rw [show (256:Nat) ^ (8-0)=18446744073709551616 by decide];omega
theorem zly (m:Nat):zbQ (λ _=>false) m=zdG:=by
 apply ByteArray.ext
 apply Array.toList_inj.1
 rw [zde]
 show zdH (λ _=>false) m=_
 unfold zdH
 rw [show (λ i=>UInt8.ofNat (zbm (λ _=>false) (m*4096+8*i)))=λ _=>0 from rfl]
 rw [List.map_const',List.length_range]
theorem zkx:zbW (λ _=>0)=zdG:=by
 apply ByteArray.ext
 apply Array.toList_inj.1
 rw [zde]
 show zbB (λ _=>0)=_
 unfold zbB
 rw [show ze2 (λ _=>0)=λ _=>0 from funext λ i=>by unfold ze2;simp]
 rw [List.map_const',List.length_range]
def zaf (n:Nat):Nat:=(n-1) / 4097*4096+((n-1)%4097-1)
def za7 (n:Nat):Nat:=(zaf n+4095) / 4096
theorem zed (n:Nat) (h:1<=n):1+za7 n+zaf n<=n:=by unfold za7 zaf;omega
theorem zdt (n p:Nat) (h:p<zaf n):p / 4096<za7 n:=by unfold za7;omega
structure Rm1 (w:World) (G:Nat->Prop) (rb n tb lb:Nat) (FL F:Nat->Prop) (puts:List (Int × ByteArray)):Prop where
 chg:Chg w FL F tb lb n puts
 cells:w.heap[rb]?=some (.cells #[.pointer (some ⟨tb,0,none⟩),.int .i64 (za7 n:Int),.int .i64 (zaf n:Int)] 116 (0,0))
 nL:¬FL rb
 nF:¬F rb
 own:∀ k,G k ↔ FL k\/F k\/k=rb
def Rm (w:World) (G:Nat->Prop) (rb n:Nat) (puts:List (Int × ByteArray)):Prop:=∃ tb lb FL F,Rm1 w G rb n tb lb FL F puts
variable {w w':World} {G S:Nat->Prop} {rb n:Nat} {puts puts':List (Int × ByteArray)}
theorem Rm1.c {tb lb:Nat} {FL F:Nat->Prop} (h:Rm1 w G rb n tb lb FL F puts):w.cell? ⟨rb,0,none⟩=some (.pointer (some ⟨tb,0,none⟩))/\w.cell? ⟨rb,1,none⟩=some (.int .i64 (za7 n:Int))/\w.cell? ⟨rb,2,none⟩=some (.int .i64 (zaf n:Int)) :=
 ⟨zaa h.cells rfl,zaa h.cells rfl,zaa h.cells rfl⟩
theorem Rm1.below {tb lb:Nat} {FL F:Nat->Prop} (h:Rm1 w G rb n tb lb FL F puts) (hb:Below w.heap.size w w'):Rm1 w' G rb n tb lb FL F puts :=
 ⟨h.chg.below hb,(hb.block rb (zab h.cells)).trans h.cells,h.nL,h.nF,h.own⟩
theorem Rm.below (h:Rm w G rb n puts) (hb:Below w.heap.size w w'):Rm w' G rb n puts:=by
 obtain ⟨tb,lb,FL,F,h⟩:=h;exact ⟨tb,lb,FL,F,h.below hb⟩
theorem Rm.frame (h:Rm w G rb n puts) (hu:Upd S w w') (hn:∀ k,G k->¬S k):Rm w' G rb n puts:=by
 obtain ⟨tb,lb,FL,F,h⟩:=h
 exact ⟨tb,lb,FL,F,⟨h.chg.log.frame hu (λ k hk=>hn k ((h.own k).2 (.inl hk))),h.chg.tx.frame hu (λ k hk=>hn k ((h.own k).2 (.inr (.inl hk)))),h.chg.apart⟩,hu.at h.cells (hn rb ((h.own rb).2 (.inr (.inr rfl)))),h.nL,h.nF,h.own⟩
theorem Rm.lt (h:Rm w G rb n puts):∀ k,G k->k<w.heap.size:=by
 obtain ⟨tb,lb,FL,F,h⟩:=h
 intro k hk
 rcases (h.own k).1 hk with e|e|rfl
 ·exact h.chg.log.lt k e
 ·exact h.chg.tx.lt k e
 ·exact zab h.cells
theorem Rm.bounds (h:Rm w G rb n puts):1<=n/\n<=65335:=by
 obtain ⟨tb,lb,FL,F,h⟩:=h
 obtain ⟨db,mo,mf,mn,hl⟩:=h.chg.log
 exact ⟨hl.n0,hl.n1⟩
theorem zpy (n:Nat) (w:World) (h:4<=n) (h1:n<=65335):Calls Tryz.prog 57 #[.int .i64 n] w λ e w'=>e=.returned (.int .i64 (zaf n:Int))/\w=w':=by
 have q1:min (n:Int) 1048576=n:=by omega
 have q2:Int.tdiv ((n:Int)-1) 4097=(((n-1) / 4097:Nat):Int):=by rw [Int.tdiv_eq_ediv_of_nonneg (by omega)];omega
 have q3:Int.tmod ((n:Int)-1) 4097=(((n-1)%4097:Nat):Int):=by rw [Int.tmod_eq_emod_of_nonneg (by omega)];omega
 have HE:=Hd (show zaf n=(n-1) / 4097*4096+((n-1)%4097-1) from rfl)
 go_enter Tryz.func57,Tryz.ntmps57
 go_wp2_with fail
 go_ret
 refine ⟨?_,rfl⟩
 rw [HE.out]
 show Ending.returned (Value.int .i64 (((n-1:Nat):Int) / 4097*4096+max (((n-1:Nat):Int)%4097-1) 0))=_
 congr 2;omega
theorem znD (n:Nat) (w:World) (h1:n<=65335):Calls Tryz.prog 59 #[.int .i64 (zaf n:Int)] w λ e w'=>e=.returned (.int .i64 (za7 n:Int))/\w=w':=by
 have hp:zaf n<=65335:=by unfold zaf;omega
 have HE:=Hd (show za7 n=(zaf n+4095) / 4096 from rfl)
 generalize zaf n=p at *
 go_enter Tryz.func59,Tryz.ntmps59
 go_wp2_with fail
 go_ret
 refine ⟨?_,rfl⟩
 rw [HE.out]
 show Ending.returned (Value.int .i64 (((p:Int)+4096-1) / 4096))=_
 congr 2;omega
theorem ze3 (G:Nat->Prop) (rb n:Nat) (puts:List (Int × ByteArray)) (i:Int) (w:World) (h:Rm w G rb n puts) (hp:puts.length<=4000000) :
 Calls Tryz.prog 105 #[.pointer (some ⟨rb,0,none⟩),.int .i64 i] w λ e w'=>e=.returned (.tuple #[.string (zbM n puts i).1,.int .i64 (zbM n puts i).2])/\Below w.heap.size w w':=by
 obtain ⟨tb,lb,FL,F,h⟩:=h
 obtain ⟨c0,-,-⟩:=h.c
 have TR:=zpx tb lb n FL F puts i w h.chg hp
 clear h
 generalize zbM n puts i=q at *
 obtain ⟨s,e⟩:=q
 simp only at TR ⊢
 go_enter Tryz.func105,Tryz.ntmps105
 go_wp2_with fail
 refine TR.mono ?_
 rintro e w1 ⟨rfl,hb⟩
 have HB:=Hd hb
 clear hb TR
 go_wp2_with fail
 go_ret2
 exact ⟨rfl,HB.out⟩
theorem ziu (n:Nat) (puts:List (Int × ByteArray)) (i:Int):¬(zbM n puts i).2=3:=by
 unfold zbM
 split
 ·simp
 ·unfold zca;split <;> simp
theorem zjn (G:Nat->Prop) (rb n:Nat) (puts:List (Int × ByteArray)) (w:World) (h:Rm w G rb n puts) (hp:puts.length<=4000000) :
 Calls Tryz.prog 91 #[.pointer (some ⟨rb,0,none⟩)] w λ e w'=>e=.returned (.bool false)/\Below w.heap.size w w':=by
 have TR:=ze3 G rb n puts 0 w h hp
 have h3:=ziu n puts 0
 clear h
 generalize zbM n puts 0=q at *
 obtain ⟨s,e⟩:=q
 simp only at TR h3
 have h3:(e == 3)=false:=by simpa using h3
 go_enter Tryz.func91,Tryz.ntmps91
 go_wp2_with fail
 refine TR.mono ?_
 rintro e w1 ⟨rfl,hb⟩
 have HB:=Hd hb
 clear hb TR
 go_wp2_with fail
 go_ret
 exact ⟨rfl,HB.out⟩
theorem zsA (G:Nat->Prop) (rb n:Nat) (puts:List (Int × ByteArray)) (p:Nat) (w:World) (h:Rm w G rb n puts) (hq:p<=100000) :
 Calls Tryz.prog 95 #[.pointer (some ⟨rb,0,none⟩),.int .i64 p] w λ e w'=>e=.returned (.int .i64 (1+za7 n+p:Nat))/\w=w':=by
 have hb:=h.bounds
 obtain ⟨tb,lb,FL,F,h⟩:=h
 obtain ⟨-,c1,-⟩:=h.c
 have hm:za7 n<=65335:=by unfold za7 zaf;omega
 clear h
 generalize za7 n=m at *
 go_enter Tryz.func95,Tryz.ntmps95
 go_wp2_with fail
 go_ret
 exact ⟨by simp,rfl⟩
theorem zre (p:Nat) (w:World) (hq:p<=100000) :
 Calls Tryz.prog 145 #[.int .i64 p] w λ e w'=>e=.returned (.tuple #[.int .i64 (1+p / 4096:Nat),.int .i64 (p%4096 / 8:Nat),.int .u8 (2 ^ (p%8):Nat)])/\Below w.heap.size w w':=by
 obtain ⟨a,ha⟩:=exE (p / 4096)
 obtain ⟨c,hc⟩:=exE (p%4096)
 obtain ⟨d,hd⟩:=exE (c / 8)
 obtain ⟨b,hb⟩:=exE (p%8)
 have hb8:b<8:=by omega
 have w1:IntKind.i64.wrap ((p:Int) / 4096)=(a:Int):=by rw [zoW (by omega) (by omega)];omega
 have w2:IntKind.i64.wrap (1+(a:Int))=((1+a:Nat):Int):=by rw [zoW (by omega) (by omega)];omega
 have w3:Int.tmod (p:Int) 4096=(c:Int):=by rw [Int.tmod_eq_emod_of_nonneg (by omega)];omega
 have w4:IntKind.i64.wrap (Int.tdiv (c:Int) 8)=(d:Int):=by rw [Int.tdiv_eq_ediv_of_nonneg (by omega),zoW (by omega) (by omega)];omega
 have w5:Int.tmod (p:Int) 8=(b:Int):=by rw [Int.tmod_eq_emod_of_nonneg (by omega)];omega
 have hsh:∀ w,(Op.shift BinOp.shl IntKind.u8 1 IntKind.i64 (b:Int)).run Tryz.prog w=.ok (.int .u8 ((2 ^ b:Nat):Int)) w:=by
  intro w
  rcases zhp hb8 with rfl|rfl|rfl|rfl|rfl|rfl|rfl|rfl <;> rfl
 rw [ha,hc,hd,hb]
 have w6:wrap64 ((c:Int) / 8)=(d:Int):=by unfold wrap64;omega
 have w7:(2:Int) ^ b%256=((2 ^ b:Nat):Int):=by rcases zhp hb8 with rfl|rfl|rfl|rfl|rfl|rfl|rfl|rfl <;> rfl
 have W6:=Hd w6
 have W7:=Hd w7
 clear ha hc hd hb hq w6 w7
 go_enter Tryz.func145,Tryz.ntmps145
 go_wp2_with fail
 go_region
 go_wp2_with fail
 go_ret3
 refine ⟨?_,(zBr _ _).drew⟩
 show Ending.returned (Value.tuple #[.int .i64 (1+(a:Int)),.int .i64 (wrap64 ((c:Int) / 8)),.int .u8 ((2:Int) ^ b%256)])=_
 rw [W6.out,W7.out];rfl
end Go.Proofs.YtdcjhpafipbpkaaGreatDoor
