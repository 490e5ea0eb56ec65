/- Parts of the proof of ChunksPages,joined: TreeR,TreeO,TreeS,TreeT,TreeU,TreeV,TreeW,TreeX,TreeY,TreeZ,MapA,MapB,DelA,DelB,DelC,DelD,DelE,DelF. No condition. -/
import Derived.Test.YtdcjhpafipbpkaaGreatDoorCq2
import Derived.Defers
import Derived.Recover
set_option linter.unusedSimpArgs false
set_option linter.unusedVariables false
set_option linter.unusedSectionVars false
namespace Go.Proofs.YtdcjhpafipbpkaaGreatDoor
set_option maxRecDepth 100000
set_option maxHeartbeats 1000000
open Go.RowKit
structure Frm (P P':List Nat) (S S':RS):Prop where
 keep:∀ q,q ∉ P->S.used q=true->q ∉ P'/\S'.used q=true/\S'.cont q=S.cont q
 back:∀ q,S'.used q=true->q∈P'\/(S.used q=true/\q ∉ P)
 root:S'.root=S.root
 base:S'.base=S.base
theorem Frm.refl (P:List Nat) (S:RS):Frm P P S S:=⟨fun q h u=>⟨h,u,rfl⟩,fun q u=>(Classical.em (q∈P)).imp id fun h=>⟨u,h⟩,rfl,rfl⟩
theorem Frm.trans {P P1 P2:List Nat} {S S1 S2:RS} (a:Frm P P1 S S1) (b:Frm P1 P2 S1 S2):Frm P P2 S S2:=by
 refine ⟨fun q h u=>?_,fun q u=>?_,b.root.trans a.root,b.base.trans a.base⟩
 ·obtain ⟨h1,u1,c1⟩:=a.keep q h u
  obtain ⟨h2,u2,c2⟩:=b.keep q h1 u1
  exact ⟨h2,u2,c2.trans c1⟩
 ·rcases b.back q u with h|⟨u1,h1⟩
  ·exact .inl h
  ·rcases a.back q u1 with h|h
   ·exact absurd h h1
   ·exact .inr h
theorem Frm.ctx {P P':List Nat} {S S':RS} (a:Frm P P' S S') (Q Q':List Nat) (X:List Nat) (hQ:∀ q,q∈Q ↔ q∈P\/q∈X) (hQ':∀ q,q∈Q' ↔ q∈P'\/q∈X):Frm Q Q' S S':=by
 refine ⟨fun q h u=>?_,fun q u=>?_,a.root,a.base⟩
 ·have h1:q ∉ P:=fun e=>h ((hQ q).2 (.inl e))
  have h2:q ∉ X:=fun e=>h ((hQ q).2 (.inr e))
  obtain ⟨h3,u1,c1⟩:=a.keep q h1 u
  exact ⟨fun e=>((hQ' q).1 e).elim h3 h2,u1,c1⟩
 ·rcases a.back q u with h|⟨u1,h1⟩
  ·exact .inl ((hQ' q).2 (.inl h))
  ·by_cases hx:q∈X
   ·exact .inl ((hQ' q).2 (.inr hx))
   ·exact .inr ⟨u1,fun e=>((hQ q).1 e).elim h1 hx⟩
def wrS (S:RS) (p:Nat) (d:Nd):RS:=⟨S.root,S.used,fun q=>if q=p then pad (ofL d.bytes) else S.cont q,S.base⟩
def frS (S:RS) (p:Nat):RS:=⟨S.root,flip S.used p,S.cont,S.base⟩
theorem Frm.write (P:List Nat) (S:RS) (p:Nat) (d:Nd) (hp:p∈P):Frm P P S (wrS S p d):=by
 refine ⟨fun q h u=>⟨h,u,?_⟩,fun q u=>(Classical.em (q∈P)).imp id fun h=>⟨u,h⟩,rfl,rfl⟩
 show (if q=p then _ else _)=_
 rw [if_neg (fun e=>h (by rw [e];exact hp))]
theorem Frm.alloc (P:List Nat) (S:RS) (p:Nat) (hp:S.used p=false):Frm P (p::P) S (allocS S p):=by
 refine ⟨fun q h u=>?_,fun q u=>?_,rfl,rfl⟩
 ·have hne:q≠p:=fun e=>by rw [e,hp] at u;cases u
  refine ⟨by simp [hne,h],?_,?_⟩
  ·show flip S.used p q=true
   unfold flip;rw [if_neg hne];exact u
  ·show (if q=p then _ else _)=_
   rw [if_neg hne]
 ·by_cases hne:q=p
  ·exact .inl (by simp [hne])
  ·have:flip S.used p q=true:=u
   unfold flip at this;rw [if_neg hne] at this
   exact (Classical.em (q∈P)).imp (fun h=>by simp [h]) fun h=>⟨this,h⟩
theorem Frm.free (P P':List Nat) (S:RS) (p:Nat) (hu:S.used p=true) (hP:∀ q,q∈P ↔ q=p\/q∈P') (hn:p ∉ P'):Frm P P' S (frS S p):=by
 refine ⟨fun q h u=>?_,fun q u=>?_,rfl,rfl⟩
 ·have hne:q≠p:=fun e=>h ((hP q).2 (.inl e))
  refine ⟨fun e=>h ((hP q).2 (.inr e)),?_,rfl⟩
  show flip S.used p q=true
  unfold flip;rw [if_neg hne];exact u
 ·have u':flip S.used p q=true:=u
  unfold flip at u'
  by_cases hne:q=p
  ·rw [if_pos hne,hne,hu] at u';cases u'
  ·rw [if_neg hne] at u'
   exact (Classical.em (q∈P')).imp id fun h=>⟨u',fun e=>((hP q).1 e).elim hne h⟩
def low:(h:Nat)->PT h->List Nat
 | 0,_=>[]
 | h+1,l=>List.flatMap (fun x=>pgs h x.2.1 x.2.2) l
def Kids (S:RS):(h:Nat)->PT h->Prop
 | 0,_=>True
 | h+1,l=>∀ x∈(l:List (Kid h)),On S h x.2.1 x.2.2
theorem pgs_low (h p:Nat) (t:PT h):pgs h p t=p::low h t:=by cases h <;> rfl
theorem on_iff {S:RS} {h p:Nat} {t:PT h}:On S h p t ↔ (S.used p=true/\S.cont p=pad (ofL (nd h t).bytes))/\Kids S h t:=by
 cases h with
 | zero=>exact ⟨fun h=>⟨h,trivial⟩,fun h=>h.1⟩
 | succ h=>exact Iff.rfl
theorem Kids.frame {S S':RS} {h:Nat} {t:PT h} (H:Kids S h t) (hq:∀ q∈low h t,S'.used q=S.used q/\S'.cont q=S.cont q):Kids S' h t:=by
 cases h with
 | zero=>trivial
 | succ h=>exact fun x hx=>(H x hx).frame fun q h'=>hq q (List.mem_flatMap.2 ⟨x,hx,h'⟩)
theorem Kids.used {S:RS} {h:Nat} {t:PT h} (H:Kids S h t):∀ q∈low h t,S.used q=true:=by
 cases h with
 | zero=>intro q hq;simp [low] at hq
 | succ h =>
   intro q hq
   obtain ⟨x,hx,h'⟩:=List.mem_flatMap.1 hq
   exact (H x hx).used q h'
theorem Tr.write {S:RS} {h p:Nat} {t:PT h} (hw:Wf h t) (hp:0<(nd h t).len) (hs:(nd h t).size<=512) (hk:Kids S h t) (hn:(pgs h p t).Nodup) (hu:S.used p=true):Tr (wrS S p (nd h t)) h p t:=by
 refine ⟨hw,hp,hs,on_iff.2 ⟨⟨hu,?_⟩,hk.frame fun q hq=>⟨rfl,?_⟩⟩,hn⟩
 ·show (if p=p then _ else _)=_
  rw [if_pos rfl]
 ·have hne:q≠p:=fun e=>by rw [pgs_low] at hn;exact (List.nodup_cons.1 hn).1 (e ▸ hq)
  show (if q=p then _ else _)=_
  rw [if_neg hne]
theorem Tr.fresh {S:RS} {h p:Nat} {t:PT h} (hw:Wf h t) (hp:0<(nd h t).len) (hs:(nd h t).size<=512) (hk:Kids S h t) (hn:(low h t).Nodup) (hu:S.used p=false):Tr (wrS (allocS S p) p (nd h t)) h p t:=by
 have hne:∀ q∈low h t,q≠p:=fun q hq e=>by have:=hk.used q hq;rw [e,hu] at this;cases this
 refine Tr.write hw hp hs (hk.frame fun q hq=>⟨?_,?_⟩) ?_ ?_
 ·show flip S.used p q=_
  unfold flip;rw [if_neg (hne q hq)]
 ·show (if q=p then _ else _)=_
  rw [if_neg (hne q hq)]
 ·rw [pgs_low];exact List.nodup_cons.2 ⟨fun hq=>hne p hq rfl,hn⟩
 ·show flip S.used p p=true
  unfold flip;rw [if_pos rfl,hu];rfl
theorem Tr.kids {S:RS} {h p:Nat} {t:PT h} (H:Tr S h p t):Kids S h t:=(on_iff.1 H.on).2
def tk:(h:Nat)->Nat->PT h->PT h
 | 0,n,l=>List.take n l
 | h+1,n,l=>List.take n l
def dr:(h:Nat)->Nat->PT h->PT h
 | 0,n,l=>List.drop n l
 | h+1,n,l=>List.drop n l
def Nd.take (n:Nat):Nd->Nd
 | .leaf l=>.leaf (l.take n)
 | .inner l=>.inner (l.take n)
def Nd.drop (n:Nat):Nd->Nd
 | .leaf l=>.leaf (l.drop n)
 | .inner l=>.inner (l.drop n)
theorem nd_tk (h n:Nat) (t:PT h):nd h (tk h n t)=(nd h t).take n:=by
 cases h with
 | zero=>rfl
 | succ h=>simp [nd,tk,Nd.take,List.map_take]
theorem nd_dr (h n:Nat) (t:PT h):nd h (dr h n t)=(nd h t).drop n:=by
 cases h with
 | zero=>rfl
 | succ h=>simp [nd,dr,Nd.drop,List.map_drop]
theorem ents_cut (h n:Nat) (t:PT h):ents h (tk h n t)++ents h (dr h n t)=ents h t:=by
 cases h with
 | zero=>exact List.take_append_drop n t
 | succ h=>exact (ents_app h _ _).symm.trans (by simp [tk,dr])
theorem low_cut (h n:Nat) (t:PT h):low h (tk h n t)++low h (dr h n t)=low h t:=by
 cases h with
 | zero=>rfl
 | succ h =>
   show List.flatMap _ (List.take n t)++List.flatMap _ (List.drop n t)=List.flatMap _ t
   rw [<-List.flatMap_append,List.take_append_drop]
theorem Kids.cut {S:RS} {h:Nat} {t:PT h} (n:Nat) (H:Kids S h t):Kids S h (tk h n t)/\Kids S h (dr h n t):=by
 cases h with
 | zero=>exact ⟨trivial,trivial⟩
 | succ h=>exact ⟨fun x hx=>H x (List.mem_of_mem_take hx),fun x hx=>H x (List.mem_of_mem_drop hx)⟩
theorem sing_cut (h n:Nat) (t:PT h) (h1:2<=(nd h (tk h n t)).len) (h2:2<=(nd h (dr h n t)).len):sing h (tk h n t)+sing h (dr h n t)<=sing h t:=by
 cases h with
 | zero=>simp [sing]
 | succ h =>
   rw [nd_lenS] at h1 h2
   have e:(List.map (fun x:Kid h=>sing h x.2.2) (List.take n t)).sum+(List.map (fun x:Kid h=>sing h x.2.2) (List.drop n t)).sum=(List.map (fun x:Kid h=>sing h x.2.2) t).sum:=by
    rw [<-List.sum_append,<-List.map_append,List.take_append_drop]
   change 2<=(List.take n t).length at h1
   change 2<=(List.drop n t).length at h2
   show ((if (List.take n t).length=1 then 1 else 0)+(List.map (fun x:Kid h=>sing h x.2.2) (List.take n t)).sum)+((if (List.drop n t).length=1 then 1 else 0)+(List.map (fun x:Kid h=>sing h x.2.2) (List.drop n t)).sum)<=(if List.length t=1 then 1 else 0)+(List.map (fun x:Kid h=>sing h x.2.2) t).sum
   rw [if_neg (by omega),if_neg (by omega)]
   omega
theorem Wf.cut {h:Nat} {t:PT h} (H:Wf h t) (n:Nat):Wf h (tk h n t)/\Wf h (dr h n t):=by
 cases h with
 | zero=>exact ⟨⟨fun e he=>H.1 e (List.mem_of_mem_take he),H.2.sublist (List.take_sublist _ _)⟩,⟨fun e he=>H.1 e (List.mem_of_mem_drop he),H.2.sublist (List.drop_sublist _ _)⟩⟩
 | succ h =>
   refine ⟨⟨fun e he=>H.1 e (List.mem_of_mem_take he),H.2.1.sublist (List.take_sublist _ _),fun y hy=>H.2.2 y ?_⟩,⟨fun e he=>H.1 e (List.mem_of_mem_drop he),H.2.1.sublist (List.drop_sublist _ _),fun y hy=>H.2.2 y ?_⟩⟩
   ·have:(tk (h+1) n t).tail=List.take (n-1) (List.tail t):=by
     show (List.take n t).tail=_
     cases n <;> cases t <;> simp
    rw [this] at hy;exact List.mem_of_mem_take hy
   ·have:(dr (h+1) n t).tail=List.drop n (List.tail t):=by
     show (List.drop n t).tail=_
     rw [List.tail_drop,<-List.drop_one,List.drop_drop];congr 1;omega
    rw [this] at hy;exact List.mem_of_mem_drop hy
theorem Wf.first {h:Nat} {t:PT h} (H:Wf h t) (n:Nat) (h0:0<n) (h1:0<(nd h (dr h n t)).len) :
 (∀ e∈ents h (tk h n t),kless e.1 ((nd h (dr h n t)).keys.getD 0 ByteArray.empty)=true)/\(∀ e∈ents h (dr h n t),kless e.1 ((nd h (dr h n t)).keys.getD 0 ByteArray.empty)=false)/\((nd h (dr h n t)).keys.getD 0 ByteArray.empty).size<=96:=by
 cases h with
 | zero =>
   rw [nd_len0] at h1
   have hs:Srt (List.take n t++List.drop n t):=by rw [List.take_append_drop];exact H.2
   have e:(nd 0 (dr 0 n t)).keys=(List.drop n t).map Prod.fst:=rfl
   have hm:∀ x∈List.drop n t,x.1.size<=96:=fun x hx=>(H.1 x (List.mem_of_mem_drop hx)).1
   rw [e]
   show (∀ e∈List.take n t,_)/\(∀ e∈List.drop n t,_)/\_
   change 0<(List.drop n t).length at h1
   generalize List.take n t=A at *
   generalize List.drop n t=B at *
   cases B with
   | nil=>simp at h1
   | cons x B =>
     obtain ⟨-,g1,g2⟩:=srt_of hs
     refine ⟨g1,fun e he=>?_,hm x (by simp)⟩
     rcases List.mem_cons.1 he with rfl|he
     ·exact kless_irrefl _
     ·exact kless_asymm (g2 e he)
 | succ h =>
   rw [nd_lenS] at h1
   have hs:Seps h (List.take n t++List.drop n t):=by rw [List.take_append_drop];exact H.2
   have e:(nd (h+1) (dr (h+1) n t)).keys=(List.drop n t).map Prod.fst:=by simp [nd,dr,Nd.keys,Function.comp_def]
   have hm:∀ x∈List.drop n t,x.1.size<=96/\0<(ents h x.2.2).length:=fun x hx=>by
    obtain ⟨a,b,c,d,f⟩:=H.1 x (List.mem_of_mem_drop hx)
    exact ⟨a,ents_pos f c⟩
   have hA:List.take n t≠[]:=fun e=>by
    have:=congrArg List.length e
    rw [List.length_take,List.length_nil] at this
    change 0<(List.drop n t).length at h1
    rw [List.length_drop] at h1
    omega
   rw [e]
   show (∀ e∈ents (h+1) (List.take n t),_)/\(∀ e∈ents (h+1) (List.drop n t),_)/\_
   change 0<(List.drop n t).length at h1
   generalize List.take n t=A at *
   generalize List.drop n t=B at *
   cases B with
   | nil=>simp at h1
   | cons x B =>
     obtain ⟨g1,g2,g3,g4,g5⟩:=seps_pair.1 hs.1
     obtain ⟨g6,g7,g8⟩:=seps_tail.1 hs.2
     obtain ⟨hx1,hx2⟩:=hm x (by simp)
     obtain ⟨e0,he0⟩:∃ e0,e0∈ents h x.2.2:=⟨_,List.getElem_mem hx2⟩
     refine ⟨fun e he=>?_,fun e he=>?_,hx1⟩
     ·obtain ⟨a,ha,he⟩:=(ents_mem h A e).1 he
      exact g3 a ha e he
     ·obtain ⟨a,ha,he'⟩:=(ents_mem h _ e).1 he
      rcases List.mem_cons.1 ha with rfl|ha
      ·exact g7 hA _ he'
      ·exact kle_trans (g7 hA e0 he0) (kless_asymm (kless_of_lt_le (g4 a ha e0 he0) (g8 a ha _ he')))
structure CutAt (d:Nd) (n:Nat):Prop where
 le:n<=d.len
 big:d.size / 2<=szUp d.isLeaf d.keys d.vals n
 fst:0<n->szUp d.isLeaf d.keys d.vals (n-1)<d.size / 2
theorem cut_fit {α:Type} (f:α->Nat) (l:List α) (c n:Nat) (hc:∀ x∈l,f x<=c) (hc2:c<=154) (h1:512<3+(l.map f).sum) (h2:3+(l.map f).sum<=666) (hn:n<=l.length)
 (hb:(3+(l.map f).sum) / 2<=3+((l.take n).map f).sum) (hf:0<n->3+((l.take (n-1)).map f).sum<(3+(l.map f).sum) / 2) :
 0<n/\n<l.length/\3+((l.take n).map f).sum<=512/\3+((l.drop n).map f).sum<=512/\253<=((l.take n).map f).sum/\256-c<((l.drop n).map f).sum:=by
 have h0:0<n:=by
  cases n with
  | zero=>simp at hb;omega
  | succ n=>omega
 have hf':=hf h0
 have e:((l.take n).map f).sum+((l.drop n).map f).sum=(l.map f).sum:=by rw [<-List.sum_append,<-List.map_append,List.take_append_drop]
 obtain ⟨m,rfl⟩:∃ m,n=m+1:=⟨n-1,by omega⟩
 have hlt:m<l.length:=hn
 have e2:((l.take (m+1)).map f).sum=((l.take m).map f).sum+f l[m]:=by
  rw [List.take_succ_eq_append_getElem hlt,List.map_append,List.sum_append];simp
 have hm:=hc _ (List.getElem_mem hlt)
 simp only [Nat.add_sub_cancel] at hf'
 refine ⟨h0,?_,by omega,by omega,by omega,by omega⟩
 by_cases hx:m+1<l.length
 ·exact hx
 ·rw [List.drop_eq_nil_of_le (by omega:l.length<=m+1)] at e
  simp only [List.map_nil,List.sum_nil,Nat.add_zero] at e;omega
theorem CutAt.fit {d:Nd} {n:Nat} (H:CutAt d n) (hk:∀ k∈d.keys,k.size<=96) (hv:∀ v∈d.vals,v.size<=56) (h1:512<d.size) (h2:d.size<=666) :
 0<n/\n<d.len/\(d.take n).size<=512/\(d.drop n).size<=512/\(d.isLeaf=false->2<=(d.take n).len/\2<=(d.drop n).len):=by
 cases d with
 | leaf l =>
   have hl:(Nd.leaf l).len=l.length:=by simp [Nd.len,Nd.keys]
   have a:=H.le
   have b:=H.big
   have c:=H.fst
   rw [hl] at a
   simp only [Nd.isLeaf,Nd.keys,Nd.vals] at b c
   rw [szUp_leaf l _ a] at b
   rw [szUp_leaf l _ (by omega)] at c
   rw [size_leaf] at b c h1 h2
   have hc:∀ x∈l,esL x<=154:=fun x hx=>by
    have q1:=hk x.1 (by simp [Nd.keys];exact ⟨_,hx⟩)
    have q2:=hv x.2 (by simp [Nd.vals];exact ⟨_,hx⟩)
    unfold esL;omega
   obtain ⟨g1,g2,g3,g4,g5,g6⟩:=cut_fit esL l 154 n hc (by omega) h1 h2 a b c
   refine ⟨g1,by rw [hl];exact g2,by rw [Nd.take,size_leaf];exact g3,by rw [Nd.drop,size_leaf];exact g4,by simp [Nd.isLeaf]⟩
 | inner l =>
   have hl:(Nd.inner l).len=l.length:=by simp [Nd.len,Nd.keys]
   have a:=H.le
   have b:=H.big
   have c:=H.fst
   rw [hl] at a
   simp only [Nd.isLeaf,Nd.keys,Nd.vals] at b c
   rw [szUp_inner l _ _ a] at b
   rw [szUp_inner l _ _ (by omega)] at c
   rw [size_inner] at b c h1 h2
   have hc:∀ x∈l,esI x<=101:=fun x hx=>by
    have q1:=hk x.1 (by simp [Nd.keys];exact ⟨_,hx⟩)
    unfold esI;omega
   obtain ⟨g1,g2,g3,g4,g5,g6⟩:=cut_fit esI l 101 n hc (by omega) h1 h2 a b c
   refine ⟨g1,by rw [hl];exact g2,by rw [Nd.take,size_inner];exact g3,by rw [Nd.drop,size_inner];exact g4,fun _=>?_⟩
   have k1:=sum_le esI 101 (l.take n) fun x hx=>hc x (List.mem_of_mem_take hx)
   have k2:=sum_le esI 101 (l.drop n) fun x hx=>hc x (List.mem_of_mem_drop hx)
   simp only [Nd.take,Nd.drop,Nd.len,Nd.keys,List.length_map]
   omega
def RdIn (w:World) (p:Nat) (d:Nd) (F:Nat->Prop):Prop:=∃ vk vv vi,NdV w p d vk vv vi/\∀ k,NdF p vk vv vi k->k<w.heap.size/\F k
theorem RdIn.upd {w W:World} {p:Nat} {d:Nd} {F S:Nat->Prop} (h:RdIn w p d F) (hu:Upd S w W) (hn:∀ k,F k->k<w.heap.size->¬S k):RdIn W p d F:=by
 obtain ⟨vk,vv,vi,a,b⟩:=h
 have c:=a.oth.upd hu fun k hk=>⟨(b k hk).1,hn k (b k hk).2 (b k hk).1⟩
 exact ⟨vk,vv,vi,⟨c.blk,c.ks,c.vs,c.is⟩,fun k hk=>⟨Nat.lt_of_lt_of_le (b k hk).1 hu.size,(b k hk).2⟩⟩
theorem wrap_small {x:Int} (h0:0<=x) (h1:x<9223372036854775808):IntKind.i64.wrap x=x:=by
 simp only [IntKind.wrap,IntKind.bits,IntKind.signed];simp;omega
theorem wrap_half {a b i n:Nat} (h1:b<=154) (h2:a<=3+154*i) (h3:i<n) (h4:n<=65536):wrap64 ((a:Int)+(3+(b:Int)-3))=((a+b:Nat):Int):=by
 rw [show ((a:Int)+(3+(b:Int)-3))=((a+b:Nat):Int) by omega]
 unfold wrap64;omega
theorem szUp_one (leaf:Bool) (K V:List ByteArray) (i:Nat):szUp leaf [K.getD i ByteArray.empty] [V.getD i ByteArray.empty] 1=3+esz leaf K V i:=by
 cases leaf <;> simp [szUp,esz]
theorem RRow.drop {w:World} {g off n cap i:Nat} {xs:List Value} (h:RRow w (.slice (some ⟨g,off,none⟩) n cap) xs) (hl:xs.length=n) (hi:i<n):RRow w (.slice (some ⟨g,off+i,none⟩) (n-i) (cap-i)) (xs.drop i):=by
 obtain ⟨g',off',cap',e,hc,hx⟩:=h.lit (by omega)
 simp only [Value.slice.injEq,Option.some.injEq,Addr.mk.injEq,and_true] at e
 obtain ⟨⟨rfl,rfl⟩,-,rfl⟩:=e
 refine .inr ⟨g,off+i,cap-i,by rw [List.length_drop,hl],by rw [List.length_drop];omega,fun j hj=>?_⟩
 rw [List.length_drop] at hj
 have:=hx (i+j) (by omega)
 rw [List.getElem_drop,Nat.add_assoc];exact this
theorem RRow.one {w:World} {g off n cap i:Nat} {xs:List Value} (h:RRow w (.slice (some ⟨g,off,none⟩) n cap) xs) (hl:xs.length=n) (hi:i<n):RRow w (.slice (some ⟨g,off+i,none⟩) 1 (cap-i)) [xs[i]'(by omega)]:=by
 obtain ⟨g',off',cap',e,hc,hx⟩:=h.lit (by omega)
 simp only [Value.slice.injEq,Option.some.injEq,Addr.mk.injEq,and_true] at e
 obtain ⟨⟨rfl,rfl⟩,-,rfl⟩:=e
 refine .inr ⟨g,off+i,cap-i,rfl,by simp;omega,fun j hj=>?_⟩
 have:j=0:=by simpa using hj
 subst this
 exact hx i (by omega)
theorem RRow.take {w:World} {g off n cap i:Nat} {xs:List Value} (h:RRow w (.slice (some ⟨g,off,none⟩) n cap) xs) (hl:xs.length=n) (hi:i<n):RRow w (.slice (some ⟨g,off,none⟩) i i) (xs.take i):=by
 obtain ⟨g',off',cap',e,hc,hx⟩:=h.lit (by omega)
 simp only [Value.slice.injEq,Option.some.injEq,Addr.mk.injEq,and_true] at e
 obtain ⟨⟨rfl,rfl⟩,-,rfl⟩:=e
 have e:(xs.take i).length=i:=by rw [List.length_take];omega
 refine .inr ⟨g,off,i,by rw [e],by rw [e];exact Nat.le_refl _,fun j hj=>?_⟩
 rw [e] at hj
 rw [List.getElem_take];exact hx j (by omega)
structure Spl (w W:World) (p q:Nat) (leaf:Bool) (a1 a2 a3:Value) (K V:List ByteArray) (C:List Nat) (b1 b2 b3:Value):Prop where
 up:Upd (fun k=>k=p) w W
 pl:p<w.heap.size
 bp:W.heap[p]?=some (.cells #[.bool leaf,a1,a2,a3] 222 (0,0))
 rq:NdP W q leaf K V C b1 b2 b3
 nw:∀ k,NdF q b1 b2 b3 k->w.heap.size<=k
section
variable {w W W':World} {p q:Nat} {leaf:Bool} {a1 a2 a3:Value} {K V:List ByteArray} {C:List Nat} {b1 b2 b3:Value}
theorem NdP.upd (h:NdP W q leaf K V C b1 b2 b3) {S:Nat->Prop} (hu:Upd S W W') (hn:∀ k,NdF q b1 b2 b3 k->¬S k):NdP W' q leaf K V C b1 b2 b3:=by
 have hk:∀ k,NdF q b1 b2 b3 k->W'.heap[k]?=W.heap[k]?:=fun k e=>hu.block k (h.lt k e) (hn k e)
 exact ⟨(hk q (.inl rfl)).trans h.blk,ownsRow_of h.ks fun k e=>hk k (.inr (.inl e)),ownsRow_of h.vs fun k e=>hk k (.inr (.inr (.inl e))),ownsRow_of h.is fun k e=>hk k (.inr (.inr (.inr e))),h.pk,h.pv,h.pi,h.kv,h.ki,h.vi'⟩
theorem Spl.setP (h:Spl w W p q leaf a1 a2 a3 K V C b1 b2 b3) (i:Nat) (x:Value) (y1 y2 y3:Value) (hy:(#[Value.bool leaf,a1,a2,a3]:Array Value).setIfInBounds i x=#[Value.bool leaf,y1,y2,y3]):Spl w (W.setCell ⟨p,i,none⟩ x) p q leaf y1 y2 y3 K V C b1 b2 b3:=by
 refine ⟨h.up.setCell (p:=⟨p,i,none⟩) (.inl rfl) x,h.pl,by rw [heap_set_lit h.bp x,hy],h.rq.upd (S:=fun k=>k=p) (Upd.setCell (S:=fun k=>k=p) (Upd.refl _ _) (p:=⟨p,i,none⟩) (.inl rfl) x) fun k hk e=>?_,h.nw⟩
 have:=h.nw k hk;have:=h.pl;omega
theorem Spl.below (h:Spl w W p q leaf a1 a2 a3 K V C b1 b2 b3) (hb:Below W.heap.size W W'):Spl w W' p q leaf a1 a2 a3 K V C b1 b2 b3 :=
 ⟨h.up.trans' (hb.upd' (Nat.le_refl _)) (fun _ _ e=>False.elim e),h.pl,(hb.block p (lt_of_heap h.bp)).trans h.bp,h.rq.below hb,h.nw⟩
theorem Spl.setV (h:Spl w W p q leaf a1 a2 a3 K [] C b1 (.slice none 0 0) b3) {v':Value} {V':List ByteArray} (hb:Below W.heap.size W W') (ho:W'.ownsRow W.heap.size 9 1 v' V'.length (V'.map Value.string)):Spl w (W'.setCell ⟨q,2,none⟩ v') p q leaf a1 a2 a3 K V' C b1 v' b3:=by
 obtain ⟨x,y,z⟩:=h.rq.setV (hb.upd' (Nat.le_refl _) |>.mono fun _ _ e=>False.elim e) (ownsRow_mono ho (Nat.zero_le _)) (fun k hk=>.inr (ho.lt k hk).1)
 refine ⟨h.up.trans' y fun j hj e=>?_,h.pl,?_,x,fun k hk=>?_⟩
 ·have:=h.nw j e;omega
 ·have hne:p≠q:=fun e=>by have:=h.nw q (.inl rfl);have:=h.pl;omega
  rw [heap_set_ne v' hne]
  exact (hb.block p (lt_of_heap h.bp)).trans h.bp
 ·rcases z k hk with e|e
  ·exact h.nw k e
  ·have:=h.up.size;omega
theorem Spl.setI (h:Spl w W p q leaf a1 a2 a3 K V [] b1 b2 (.slice none 0 0)) {v':Value} {C':List Nat} (hb:Below W.heap.size W W') (ho:W'.ownsRow W.heap.size 3 1 v' C'.length (C'.map encN)):Spl w (W'.setCell ⟨q,3,none⟩ v') p q leaf a1 a2 a3 K V C' b1 b2 v':=by
 obtain ⟨x,y,z⟩:=h.rq.setI (hb.upd' (Nat.le_refl _) |>.mono fun _ _ e=>False.elim e) (ownsRow_mono ho (Nat.zero_le _)) (fun k hk=>.inr (ho.lt k hk).1)
 refine ⟨h.up.trans' y fun j hj e=>?_,h.pl,?_,x,fun k hk=>?_⟩
 ·have:=h.nw j e;omega
 ·have hne:p≠q:=fun e=>by have:=h.nw q (.inl rfl);have:=h.pl;omega
  rw [heap_set_ne v' hne]
  exact (hb.block p (lt_of_heap h.bp)).trans h.bp
 ·rcases z k hk with e|e
  ·exact h.nw k e
  ·have:=h.up.size;omega
theorem Spl.start (hb:Below w.heap.size w W) (hp:w.heap[p]?=some (.cells #[.bool leaf,a1,a2,a3] 222 (0,0))) (ho:W.ownsRow w.heap.size 9 1 b1 K.length (K.map Value.string)):Spl w (W.alloc (.cells #[.bool leaf,b1,.slice none 0 0,.slice none 0 0] 222)) p W.heap.size leaf a1 a2 a3 K [] [] b1 (.slice none 0 0) (.slice none 0 0):=by
 have hb':=hb.alloc hb.size (.cells #[.bool leaf,b1,.slice none 0 0,.slice none 0 0] 222)
 refine ⟨(hb'.upd' (Nat.le_refl _)).mono fun _ _ e=>False.elim e,lt_of_heap hp,(hb'.block p (lt_of_heap hp)).trans hp,⟨heap_alloc_new _ _,(ownsRow_mono ho (Nat.zero_le _)).alloc _,World.ownsRow_nil _ _ _ _,World.ownsRow_nil _ _ _ _,fun e=>by have:=(ho.lt _ e).2;omega,by simp [Value.ownBlock],by simp [Value.ownBlock],by simp [Value.ownBlock],by simp [Value.ownBlock],by simp [Value.ownBlock]⟩,fun k hk=>?_⟩
 rcases hk with e|e|e|e
 ·rw [e];exact hb.size
 ·exact (ho.lt k e).1
 ·simp [Value.ownBlock] at e
 ·simp [Value.ownBlock] at e
theorem Spl.cells (h:Spl w W p q leaf a1 a2 a3 K V C b1 b2 b3):W.cell? ⟨p,0,none⟩=some (.bool leaf)/\W.cell? ⟨p,1,none⟩=some a1/\W.cell? ⟨p,2,none⟩=some a2/\W.cell? ⟨p,3,none⟩=some a3/\(∀ i,W.frozen? ⟨p,i,none⟩=false)/\p<W.heap.size/\W.cell? ⟨q,2,none⟩=some b2/\W.cell? ⟨q,3,none⟩=some b3/\(∀ i,W.frozen? ⟨q,i,none⟩=false)/\q<W.heap.size/\¬p=q/\¬q=p :=
 ⟨cell_lit h.bp rfl,cell_lit h.bp rfl,cell_lit h.bp rfl,cell_lit h.bp rfl,fun i=>frozen_lit h.bp i,lt_of_heap h.bp,cell_lit h.rq.blk rfl,cell_lit h.rq.blk rfl,fun i=>frozen_lit h.rq.blk i,lt_of_heap h.rq.blk,fun e=>by have:=h.nw q (.inl rfl);have:=h.pl;omega,fun e=>by have:=h.nw q (.inl rfl);have:=h.pl;omega⟩
end
theorem clone_i {w:World} {v:Value} {K:List Nat} (h:RRow w v (K.map encN)) (hp:0<K.length) (hl:K.length<=90000) :
 Calls Tryz.prog 216 #[v] w fun e w'=>∃ g cap,e=.returned (.slice (some ⟨g,0,none⟩) K.length cap)/\Hid (w'.ownsRow w.heap.size 3 1 (.slice (some ⟨g,0,none⟩) K.length cap) K.length (K.map encN)/\Below w.heap.size w w'):=by
 obtain ⟨g,off,cap,rfl,hcap,hc⟩:=h.lit (by simpa using hp)
 rw [List.length_map]
 have e:∀ L:List Nat,(L.map fun c:Nat=>(c:Int)).map (Value.int .i64)=L.map encN:=fun L=>by rw [List.map_map];rfl
 refine (Tryz.slices_Clone_int g off K.length cap (K.map fun c:Nat=>(c:Int)) w (by simp) (by omega) fun j hj=>?_).mono ?_
 ·have hj':j<K.length:=by simpa using hj
  rw [hc j (by simpa using hj'),getD_at _ _ hj];simp [encN]
 ·rintro e' w' ⟨v',rfl,ho,hne,hb⟩
  rw [List.take_of_length_le (by simp),e] at ho
  rcases ho.2 with ⟨rfl,-⟩|⟨g',cap',cur,rfl,-⟩
  ·exact absurd rfl hne
  ·exact ⟨g',cap',rfl,ho,hb⟩
theorem split_leaf (p:Nat) (K:List ByteArray) (V:List ByteArray) (vk vv vi:Value) (w:World) (h:NdP w p true K V [] vk vv vi) (hv:V.length=K.length) (hK:∀ k∈K,k.size<=96) (hV:∀ v∈V,v.size<=56) (hn:K.length<=65536)
 (hcut:∀ i,i<=K.length->szUp true K V K.length / 2<=szUp true K V i->(0<i->szUp true K V (i-1)<szUp true K V K.length / 2)->0<i/\i<K.length) (hp:0<K.length) :
 Calls Tryz.prog 179 #[.pointer (some ⟨p,0,none⟩)] w fun e w'=>∃ q,e=.returned (.pointer (some ⟨q,0,none⟩))/\Hid (∃ i g cap g2 cap2 b1 b2 b3,0<i/\i<K.length/\szUp true K V K.length / 2<=szUp true K V i/\szUp true K V (i-1)<szUp true K V K.length / 2/\vk=.slice (some ⟨g,0,none⟩) K.length cap/\vv=.slice (some ⟨g2,0,none⟩) K.length cap2 /\
  Spl w w' p q true (.slice (some ⟨g,0,none⟩) i i) (.slice (some ⟨g2,0,none⟩) i i) vi (K.drop i) (V.drop i) [] b1 b2 b3):=by
 have hr:=h.ks
 have hr2:=h.vs
 have hgp:vk.ownBlock≠some p:=h.pk
 have hgp2:vv.ownBlock≠some p:=h.pv
 rcases hr.2 with ⟨rfl,h0⟩|⟨g,cap,cur0,rfl,-⟩
 ·omega
 rcases hr2.2 with ⟨rfl,h0⟩|⟨g2,cap2,cur2,rfl,-⟩
 ·omega
 rw [hv] at h hr2
 obtain ⟨c0,c1,c2,c3,cf,cl⟩:=h.cells
 have hcap:K.length<=cap:=by obtain ⟨cur,g1,g2,g3,-⟩:=row_lit hr;exact g3
 have hcap2:K.length<=cap2:=by obtain ⟨cur,g1,g2,g3,-⟩:=row_lit hr2;exact g3
 have SZ:Hid (∀ W,Below w.heap.size w W->Calls Tryz.prog 178 #[.pointer (some ⟨p,0,none⟩)] W fun e w'=>e=.returned (.int .i64 (szUp true K V K.length:Nat))/\w'=W):=Hd fun W hW=>by
  have h':=h.below hW
  exact size_c p true K V _ _ _ (0,0) W h'.blk (.of_own h'.ks) hp (fun _=>⟨by have:=h'.vs;rw [<-hv] at this;have:=RRow.of_own this;rw [hv] at this;exact this,hv⟩) hK hV hn
 have hgB:Hid (g<w.heap.size/\¬g=p):=Hd ⟨(hr.lt g rfl).2,fun e=>hgp (by rw [<-e];rfl)⟩
 have hgB2:Hid (g2<w.heap.size/\¬g2=p):=Hd ⟨(hr2.lt g2 rfl).2,fun e=>hgp2 (by rw [<-e];rfl)⟩
 have RK:Hid (∀ W,Upd (fun k=>k=p) w W->RRow W (.slice (some ⟨g,0,none⟩) K.length cap) (K.map Value.string)):=Hd fun W hW=>(RRow.of_own hr).kept fun k e=>by
  simp [Value.ownBlock] at e;subst e;exact hW.block _ hgB.out.1 hgB.out.2
 have RX:Hid (∀ W,Upd (fun k=>k=p) w W->RRow W (.slice (some ⟨g2,0,none⟩) K.length cap2) (V.map Value.string)):=Hd fun W hW=>(RRow.of_own hr2).kept fun k e=>by
  simp [Value.ownBlock] at e;subst e;exact hW.block _ hgB2.out.1 hgB2.out.2
 have SZ1:Hid (∀ W b i,i<K.length->Below w.heap.size w W->W.heap[b]?=some (.cells #[.bool true,.slice (some ⟨g,i,none⟩) 1 (cap-i),.slice (some ⟨g2,i,none⟩) 1 (cap2-i),.slice none 0 0] 222 (0,0))->Calls Tryz.prog 178 #[.pointer (some ⟨b,0,none⟩)] W fun e w'=>e=.returned (.int .i64 ((3+esz true K V i:Nat):Int))/\w'=W):=Hd fun W b i hi hW hb=>by
  have hU:Upd (fun k=>k=p) w W:=(hW.upd' (Nat.le_refl _)).mono fun _ _ e=>False.elim e
  have r1:=(RK.out W hU).one (i:=i) (by simp) hi
  have r2:=(RX.out W hU).one (i:=i) (by simp [hv]) hi
  rw [Nat.zero_add] at r1 r2
  have e:=szUp_one true K V i
  rw [<-e]
  refine size_c b true [K.getD i ByteArray.empty] [V.getD i ByteArray.empty] _ _ _ (0,0) W hb ?_ (by simp) ?_ ?_ ?_ (by simp)
  ·rw [getD_at _ _ hi];simpa using r1
  ·intro _
   have hi':i<V.length:=by omega
   rw [getD_at _ _ hi'];exact ⟨by simpa using r2,rfl⟩
  ·intro k hk;simp at hk;rw [hk];have:=hK _ (List.getElem_mem hi);simpa [hi] using this
  ·have hi':i<V.length:=by omega
   intro k hk;simp at hk;rw [hk];have:=hV _ (List.getElem_mem hi');simpa [hi'] using this
 have CK:Hid (∀ W i,0<i->i<K.length->Upd (fun k=>k=p) w W->Calls Tryz.prog 215 #[.slice (some ⟨g,i,none⟩) (K.length-i) (cap-i)] W fun e w'=>∃ g' cap',e=.returned (.slice (some ⟨g',0,none⟩) (K.length-i) cap')/\Hid (w'.ownsRow W.heap.size 9 1 (.slice (some ⟨g',0,none⟩) (K.length-i) cap') (K.drop i).length ((K.drop i).map Value.string)/\Below W.heap.size W w')):=Hd fun W i h0 hi hU=>by
  have r1:=(RK.out W hU).drop (i:=i) (by simp) hi
  rw [Nat.zero_add,<-List.map_drop] at r1
  have:=clone_s r1 (by rw [List.length_drop];omega) (by rw [List.length_drop];omega)
  rw [List.length_drop] at this ⊢
  exact this
 have CX:Hid (∀ W i,0<i->i<K.length->Upd (fun k=>k=p) w W->Calls Tryz.prog 215 #[.slice (some ⟨g2,i,none⟩) (K.length-i) (cap2-i)] W fun e w'=>∃ g' cap',e=.returned (.slice (some ⟨g',0,none⟩) (K.length-i) cap')/\Hid (w'.ownsRow W.heap.size 9 1 (.slice (some ⟨g',0,none⟩) (K.length-i) cap') (V.drop i).length ((V.drop i).map Value.string)/\Below W.heap.size W w')):=Hd fun W i h0 hi hU=>by
  have r1:=(RX.out W hU).drop (i:=i) (by simp [hv]) hi
  rw [Nat.zero_add,<-List.map_drop] at r1
  have:=clone_s r1 (by rw [List.length_drop];omega) (by rw [List.length_drop];omega)
  rw [List.length_drop,hv] at this
  rw [List.length_drop,hv]
  exact this
 have hsz:=Hd (szUp_le true K V hK hV)
 have hes:=Hd (esz_le true K V hK hV)
 have HH:=Hd h
 have HP:=Hd h.blk
 have HCUT:=Hd hcut
 have HN:=Hd hn
 have HVL:=Hd hv
 have hstep:Hid (∀ i,szUp true K V (i+1)=szUp true K V i+esz true K V i):=Hd fun i=>rfl
 clear h hr hr2 hcut hK hV hgp hgp2 hv
 go_enter Tryz.func179,Tryz.ntmps179
 go_wp2_with fail
 go_loopg [3,4] K.length (fun gg s3 s4 wr=>∃ i:Nat,gg=K.length-i/\i<=K.length/\s3=.int .i64 (szUp true K V i:Nat)/\s4=.int .i64 (i:Int)/\Hid (0<i->szUp true K V (i-1)<szUp true K V K.length / 2)/\Hid (Below w.heap.size w wr))
 case atStart=>exact ⟨0,rfl,Nat.zero_le _,rfl,rfl,Hd fun e=>absurd e (by omega),Hd (Below.refl _ _)⟩
 case round =>
  obtain ⟨i,rfl,hi,rfl,rfl,hf,HB⟩:=hrel
  have S1:=Hd (SZ.out wr HB.out)
  have e1:=hes.out i
  have e2:=hsz.out i
  have e3:=hsz.out K.length
  have e4:=hstep.out i
  obtain ⟨d0,d1,d2,d3,df,dl⟩:=(HH.out.below HB.out).cells
  clear c0 c1 c2 c3 cf cl
  by_cases hlt:szUp true K V i<szUp true K V K.length / 2
  ·have hik:i<K.length:=by
    by_cases h:i<K.length
    ·exact h
    ·obtain rfl:i=K.length:=by omega
     omega
   go_wp2_with (go_at_call 178;refine S1.out.mono ?_;rintro e W1 ⟨rfl,rfl⟩)
   have w1:IntKind.i64.wrap ((i:Int)+1)=(i:Int)+1:=wrap_small (by omega) (by omega)
   have w2:((0:Int)<=(i:Int)+1)=True:=by simp <;> omega
   have w3:((i:Int)+1<=(cap:Int))=True:=by simp <;> omega
   have w4:((i:Int)<(cap:Int))=True:=by simp <;> omega
   have w5:(i<=((i:Int)+1).toNat)=True:=by simp <;> omega
   have w6:(cap=i)=False:=by simp <;> omega
   have w7:((i:Int)+1).toNat-i=1:=by omega
   have w8:((i:Int)+1<=(cap2:Int))=True:=by simp <;> omega
   have w9:((i:Int)<(cap2:Int))=True:=by simp <;> omega
   have w10:(cap2=i)=False:=by simp <;> omega
   have SZ2:=Hd (fun W b=>SZ1.out W b i hik)
   have HF:=Hd hlt
   have HI:=Hd hik
   have E1:=Hd e1
   have E2:=Hd e2
   have E4:=Hd e4
   clear e1 e2 e3 e4 hi hlt hik hp df hcap hcap2 hn hf SZ1
   go_region_held3 (fun w'=>w'.cell? ⟨p,0,none⟩=some (.bool true)/\w'.cell? ⟨p,1,none⟩=some (.slice (some ⟨g,0,none⟩) K.length cap)) (go_keep) (fail)
   all_goals (
    have HB1:=Hd ((HB.out.alloc HB.out.size (.cells #[.bool true,.slice (some ⟨g,i,none⟩) 1 (cap-i),.slice none 0 0,.slice none 0 0] 222)).drew)
    have hone:Hid (((W1.alloc (.cells #[.bool true,.slice (some ⟨g,i,none⟩) 1 (cap-i),.slice none 0 0,.slice none 0 0] 222)).drew).heap[W1.heap.size]?=some (.cells #[.bool true,.slice (some ⟨g,i,none⟩) 1 (cap-i),.slice none 0 0,.slice none 0 0] 222 (0,0))):=Hd (heap_alloc_new _ _)
    have hbs:=Hd HB.out.size
    generalize ((W1.alloc (.cells #[.bool true,.slice (some ⟨g,i,none⟩) 1 (cap-i),.slice none 0 0,.slice none 0 0] 222)).drew)=W2 at *
    obtain ⟨x0,x1,x2,x3,xf,xl⟩:=(HH.out.below HB1.out).cells
    have y2:=cell_lit (i:=2) hone.out rfl
    have yf:=frozen_lit hone.out 2
    clear xf d0 d1 d2 d3
    have HB3:=Hd (HB1.out.setCell (p:=⟨W1.heap.size,2,none⟩) hbs.out (.slice (some ⟨g2,i,none⟩) 1 (cap2-i)))
    have SZ3:=Hd (SZ2.out _ _ HB3.out (heap_set_lit hone.out _))
    have E1':=E1.out
    have E2':=E2.out
    go_wp2_with (go_at_call 178;refine SZ3.out.mono ?_;rintro e W5 ⟨rfl,rfl⟩)
    go_roundg (K.length-(i+1)))
   all_goals (first
    | (case measure=>have:=HI.out;omega)
    | (case rel=>exact ⟨i+1,rfl,HI.out,by rw [E4.out];congr 1;exact wrap_half E1.out E2.out HI.out HN.out,rfl,Hd fun _=>HF.out,HB3⟩))
  ·have hle:szUp true K V K.length / 2<=szUp true K V i:=by omega
   obtain ⟨k0,k1⟩:=HCUT.out i hi hle hf.out
   go_wp2_with (go_at_call 178;refine S1.out.mono ?_;rintro e W1 ⟨rfl,rfl⟩)
   have w1:(i<=K.length)=True:=by simp <;> omega
   have w3:((i:Int)<=(cap:Int))=True:=by simp <;> omega
   have w4:(i<=cap)=True:=by simp <;> omega
   have w6:(cap=i)=False:=by simp <;> omega
   have w7:(i=0)=False:=by simp <;> omega
   have w8:((i:Int)<=(cap2:Int))=True:=by simp <;> omega
   have w9:(i<=cap2)=True:=by simp <;> omega
   have w10:(cap2=i)=False:=by simp <;> omega
   have HK0:=Hd k0
   have HK1:=Hd k1
   have HLE:=Hd hle
   have CK2:=Hd (fun W=>CK.out W i k0 k1)
   have CX2:=Hd (fun W=>CX.out W i k0 k1)
   have HU:=Hd (((HB.out.drew).upd' (Nat.le_refl _)).mono (S':=fun k=>k=p) fun _ _ e=>False.elim e)
   clear e1 e2 e3 e4 hi hle k0 k1 hlt hp df hcap hcap2 hn SZ1 CK CX S1 SZ
   go_region_law ((go_simp;go_at_call 215;refine (CK2.out _ HU.out).mono ?_;rintro e Wc ⟨g3,cap3,rfl,HR⟩
                   have HR2:=Hd HR.out.2
                   have D0:Wc.cell? ⟨p,0,none⟩=some (.bool true):=(World.cell?_of_block (HR2.out.block p dl)).trans d0))
   all_goals (
    have HBc:=Hd (HB.out.drew.trans (HR2.out.mono HB.out.size))
    have SP1:=Hd (Spl.start HBc.out HP.out (ownsRow_mono HR.out.1 HB.out.size))
    generalize (Wc.alloc (.cells #[.bool true,.slice (some ⟨g3,0,none⟩) (K.length-i) cap3,.slice none 0 0,.slice none 0 0] 222))=W2 at *
    generalize Wc.heap.size=q at *
    clear HR HR2 D0 d0 d1 d2 d3 dl HBc HU HB CK2
    obtain ⟨x0,x1,x2,x3,xf,xl,y2,y3,yf,yl,n1,n2⟩:=SP1.out.cells
    have xf1:=xf 1
    have SP2:=Hd (SP1.out.setP 1 (.slice (some ⟨g,0,none⟩) i i) _ _ _ rfl)
    clear xf yf
    go_wp2_with fail
    refine (CX2.out _ SP2.out.up).mono ?_
    rintro e W4 ⟨g4,cap4,rfl,HR4⟩
    have SP3:=Hd (SP2.out.below HR4.out.2)
    obtain ⟨z0,z1,z2,z3,zf,zl,u2,u3,uf,ul,m1,m2⟩:=SP3.out.cells
    have zfx:=zf 2
    have ufx:=uf 2
    have SP4:=Hd (SP2.out.setV HR4.out.2 HR4.out.1)
    have SP5:=Hd (SP4.out.setP 2 (.slice (some ⟨g2,0,none⟩) i i) _ _ _ rfl)
    clear zf uf SP1 SP2 SP3 SP4 HR4 CX2 x0 x1 x2 x3 xl y2 y3 yl xf1 n1 n2
    go_wp2_with fail
    go_ret
    exact ⟨q,rfl,i,g,cap,g2,cap2,_,_,_,HK0.out,HK1.out,HLE.out,hf.out HK0.out,rfl,by rw [HVL.out],SP5.out⟩)
theorem split_inner (p:Nat) (K:List ByteArray) (C:List Nat) (vk vv vi:Value) (w:World) (h:NdP w p false K [] C vk vv vi) (hv:C.length=K.length) (hK:∀ k∈K,k.size<=96) (hn:K.length<=65536)
 (hcut:∀ i,i<=K.length->szUp false K [] K.length / 2<=szUp false K [] i->(0<i->szUp false K [] (i-1)<szUp false K [] K.length / 2)->0<i/\i<K.length) (hp:0<K.length) :
 Calls Tryz.prog 179 #[.pointer (some ⟨p,0,none⟩)] w fun e w'=>∃ q,e=.returned (.pointer (some ⟨q,0,none⟩))/\Hid (∃ i g cap g2 cap2 b1 b2 b3,0<i/\i<K.length/\szUp false K [] K.length / 2<=szUp false K [] i/\szUp false K [] (i-1)<szUp false K [] K.length / 2/\vk=.slice (some ⟨g,0,none⟩) K.length cap/\vi=.slice (some ⟨g2,0,none⟩) K.length cap2 /\
  Spl w w' p q false (.slice (some ⟨g,0,none⟩) i i) vv (.slice (some ⟨g2,0,none⟩) i i) (K.drop i) [] (C.drop i) b1 b2 b3):=by
 have hV:∀ v∈([]:List ByteArray),v.size<=56:=by simp
 have hr:=h.ks
 have hr2:=h.is
 have hgp:vk.ownBlock≠some p:=h.pk
 have hgp2:vi.ownBlock≠some p:=h.pi
 rcases hr.2 with ⟨rfl,h0⟩|⟨g,cap,cur0,rfl,-⟩
 ·omega
 rcases hr2.2 with ⟨rfl,h0⟩|⟨g2,cap2,cur2,rfl,-⟩
 ·omega
 rw [hv] at h hr2
 obtain ⟨c0,c1,c2,c3,cf,cl⟩:=h.cells
 have hcap:K.length<=cap:=by obtain ⟨cur,g1,g2,g3,-⟩:=row_lit hr;exact g3
 have hcap2:K.length<=cap2:=by obtain ⟨cur,g1,g2,g3,-⟩:=row_lit hr2;exact g3
 have SZ:Hid (∀ W,Below w.heap.size w W->Calls Tryz.prog 178 #[.pointer (some ⟨p,0,none⟩)] W fun e w'=>e=.returned (.int .i64 (szUp false K [] K.length:Nat))/\w'=W):=Hd fun W hW=>by
  have h':=h.below hW
  exact size_c p false K [] _ _ _ (0,0) W h'.blk (.of_own h'.ks) hp (fun e=>by cases e) hK hV hn
 have hgB:Hid (g<w.heap.size/\¬g=p):=Hd ⟨(hr.lt g rfl).2,fun e=>hgp (by rw [<-e];rfl)⟩
 have hgB2:Hid (g2<w.heap.size/\¬g2=p):=Hd ⟨(hr2.lt g2 rfl).2,fun e=>hgp2 (by rw [<-e];rfl)⟩
 have RK:Hid (∀ W,Upd (fun k=>k=p) w W->RRow W (.slice (some ⟨g,0,none⟩) K.length cap) (K.map Value.string)):=Hd fun W hW=>(RRow.of_own hr).kept fun k e=>by
  simp [Value.ownBlock] at e;subst e;exact hW.block _ hgB.out.1 hgB.out.2
 have RX:Hid (∀ W,Upd (fun k=>k=p) w W->RRow W (.slice (some ⟨g2,0,none⟩) K.length cap2) (C.map encN)):=Hd fun W hW=>(RRow.of_own hr2).kept fun k e=>by
  simp [Value.ownBlock] at e;subst e;exact hW.block _ hgB2.out.1 hgB2.out.2
 have SZ1:Hid (∀ W b i,i<K.length->Below w.heap.size w W->W.heap[b]?=some (.cells #[.bool false,.slice (some ⟨g,i,none⟩) 1 (cap-i),.slice none 0 0,.slice none 0 0] 222 (0,0))->Calls Tryz.prog 178 #[.pointer (some ⟨b,0,none⟩)] W fun e w'=>e=.returned (.int .i64 ((3+esz false K [] i:Nat):Int))/\w'=W):=Hd fun W b i hi hW hb=>by
  have hU:Upd (fun k=>k=p) w W:=(hW.upd' (Nat.le_refl _)).mono fun _ _ e=>False.elim e
  have r1:=(RK.out W hU).one (i:=i) (by simp) hi
  have r2:=(RX.out W hU).one (i:=i) (by simp [hv]) hi
  rw [Nat.zero_add] at r1 r2
  have e:=szUp_one false K [] i
  rw [<-e]
  refine size_c b false [K.getD i ByteArray.empty] [([]:List ByteArray).getD i ByteArray.empty] _ _ _ (0,0) W hb ?_ (by simp) ?_ ?_ ?_ (by simp)
  ·rw [getD_at _ _ hi];simpa using r1
  ·intro e;cases e
  ·intro k hk;simp at hk;rw [hk];have:=hK _ (List.getElem_mem hi);simpa [hi] using this
  ·intro k hk;simp at hk;rw [hk];decide
 have CK:Hid (∀ W i,0<i->i<K.length->Upd (fun k=>k=p) w W->Calls Tryz.prog 215 #[.slice (some ⟨g,i,none⟩) (K.length-i) (cap-i)] W fun e w'=>∃ g' cap',e=.returned (.slice (some ⟨g',0,none⟩) (K.length-i) cap')/\Hid (w'.ownsRow W.heap.size 9 1 (.slice (some ⟨g',0,none⟩) (K.length-i) cap') (K.drop i).length ((K.drop i).map Value.string)/\Below W.heap.size W w')):=Hd fun W i h0 hi hU=>by
  have r1:=(RK.out W hU).drop (i:=i) (by simp) hi
  rw [Nat.zero_add,<-List.map_drop] at r1
  have:=clone_s r1 (by rw [List.length_drop];omega) (by rw [List.length_drop];omega)
  rw [List.length_drop] at this ⊢
  exact this
 have CX:Hid (∀ W i,0<i->i<K.length->Upd (fun k=>k=p) w W->Calls Tryz.prog 216 #[.slice (some ⟨g2,i,none⟩) (K.length-i) (cap2-i)] W fun e w'=>∃ g' cap',e=.returned (.slice (some ⟨g',0,none⟩) (K.length-i) cap')/\Hid (w'.ownsRow W.heap.size 3 1 (.slice (some ⟨g',0,none⟩) (K.length-i) cap') (C.drop i).length ((C.drop i).map encN)/\Below W.heap.size W w')):=Hd fun W i h0 hi hU=>by
  have r1:=(RX.out W hU).drop (i:=i) (by simp [hv]) hi
  rw [Nat.zero_add,<-List.map_drop] at r1
  have:=clone_i r1 (by rw [List.length_drop];omega) (by rw [List.length_drop];omega)
  rw [List.length_drop,hv] at this
  rw [List.length_drop,hv]
  exact this
 have hsz:=Hd (szUp_le false K [] hK hV)
 have hes:=Hd (esz_le false K [] hK hV)
 have HH:=Hd h
 have HP:=Hd h.blk
 have HCUT:=Hd hcut
 have HN:=Hd hn
 have HVL:=Hd hv
 have hstep:Hid (∀ i,szUp false K [] (i+1)=szUp false K [] i+esz false K [] i):=Hd fun i=>rfl
 clear h hr hr2 hcut hK hV hgp hgp2 hv
 go_enter Tryz.func179,Tryz.ntmps179
 go_wp2_with fail
 go_loopg [3,4] K.length (fun gg s3 s4 wr=>∃ i:Nat,gg=K.length-i/\i<=K.length/\s3=.int .i64 (szUp false K [] i:Nat)/\s4=.int .i64 (i:Int)/\Hid (0<i->szUp false K [] (i-1)<szUp false K [] K.length / 2)/\Hid (Below w.heap.size w wr))
 case atStart=>exact ⟨0,rfl,Nat.zero_le _,rfl,rfl,Hd fun e=>absurd e (by omega),Hd (Below.refl _ _)⟩
 case round =>
  obtain ⟨i,rfl,hi,rfl,rfl,hf,HB⟩:=hrel
  have S1:=Hd (SZ.out wr HB.out)
  have e1:=hes.out i
  have e2:=hsz.out i
  have e3:=hsz.out K.length
  have e4:=hstep.out i
  obtain ⟨d0,d1,d2,d3,df,dl⟩:=(HH.out.below HB.out).cells
  clear c0 c1 c2 c3 cf cl
  by_cases hlt:szUp false K [] i<szUp false K [] K.length / 2
  ·have hik:i<K.length:=by
    by_cases h:i<K.length
    ·exact h
    ·obtain rfl:i=K.length:=by omega
     omega
   go_wp2_with (go_at_call 178;refine S1.out.mono ?_;rintro e W1 ⟨rfl,rfl⟩)
   have w1:IntKind.i64.wrap ((i:Int)+1)=(i:Int)+1:=wrap_small (by omega) (by omega)
   have w2:((0:Int)<=(i:Int)+1)=True:=by simp <;> omega
   have w3:((i:Int)+1<=(cap:Int))=True:=by simp <;> omega
   have w4:((i:Int)<(cap:Int))=True:=by simp <;> omega
   have w5:(i<=((i:Int)+1).toNat)=True:=by simp <;> omega
   have w6:(cap=i)=False:=by simp <;> omega
   have w7:((i:Int)+1).toNat-i=1:=by omega
   have w8:((i:Int)+1<=(cap2:Int))=True:=by simp <;> omega
   have w9:((i:Int)<(cap2:Int))=True:=by simp <;> omega
   have w10:(cap2=i)=False:=by simp <;> omega
   have SZ2:=Hd (fun W b=>SZ1.out W b i hik)
   have HF:=Hd hlt
   have HI:=Hd hik
   have E1:=Hd e1
   have E2:=Hd e2
   have E4:=Hd e4
   clear e1 e2 e3 e4 hi hlt hik hp df hcap hcap2 hn hf SZ1
   go_region_held3 (fun w'=>w'.cell? ⟨p,0,none⟩=some (.bool false)/\w'.cell? ⟨p,1,none⟩=some (.slice (some ⟨g,0,none⟩) K.length cap)) (go_keep) (fail)
   all_goals (
    have HB1:=Hd ((HB.out.alloc HB.out.size (.cells #[.bool false,.slice (some ⟨g,i,none⟩) 1 (cap-i),.slice none 0 0,.slice none 0 0] 222)).drew)
    have hone:Hid (((W1.alloc (.cells #[.bool false,.slice (some ⟨g,i,none⟩) 1 (cap-i),.slice none 0 0,.slice none 0 0] 222)).drew).heap[W1.heap.size]?=some (.cells #[.bool false,.slice (some ⟨g,i,none⟩) 1 (cap-i),.slice none 0 0,.slice none 0 0] 222 (0,0))):=Hd (heap_alloc_new _ _)
    have hbs:=Hd HB.out.size
    generalize ((W1.alloc (.cells #[.bool false,.slice (some ⟨g,i,none⟩) 1 (cap-i),.slice none 0 0,.slice none 0 0] 222)).drew)=W2 at *
    obtain ⟨x0,x1,x2,x3,xf,xl⟩:=(HH.out.below HB1.out).cells
    have y2:=cell_lit (i:=2) hone.out rfl
    have yf:=frozen_lit hone.out 2
    clear xf d0 d1 d2 d3
    have HB3:=HB1
    have SZ3:=Hd (SZ2.out _ _ HB3.out hone.out)
    have E1':=E1.out
    have E2':=E2.out
    go_wp2_with (go_at_call 178;refine SZ3.out.mono ?_;rintro e W5 ⟨rfl,rfl⟩)
    go_roundg (K.length-(i+1)))
   all_goals (first
    | (case measure=>have:=HI.out;omega)
    | (case rel=>exact ⟨i+1,rfl,HI.out,by rw [E4.out];congr 1;exact wrap_half E1.out E2.out HI.out HN.out,rfl,Hd fun _=>HF.out,HB3⟩))
  ·have hle:szUp false K [] K.length / 2<=szUp false K [] i:=by omega
   obtain ⟨k0,k1⟩:=HCUT.out i hi hle hf.out
   go_wp2_with (go_at_call 178;refine S1.out.mono ?_;rintro e W1 ⟨rfl,rfl⟩)
   have w1:(i<=K.length)=True:=by simp <;> omega
   have w3:((i:Int)<=(cap:Int))=True:=by simp <;> omega
   have w4:(i<=cap)=True:=by simp <;> omega
   have w6:(cap=i)=False:=by simp <;> omega
   have w7:(i=0)=False:=by simp <;> omega
   have w8:((i:Int)<=(cap2:Int))=True:=by simp <;> omega
   have w9:(i<=cap2)=True:=by simp <;> omega
   have w10:(cap2=i)=False:=by simp <;> omega
   have HK0:=Hd k0
   have HK1:=Hd k1
   have HLE:=Hd hle
   have CK2:=Hd (fun W=>CK.out W i k0 k1)
   have CX2:=Hd (fun W=>CX.out W i k0 k1)
   have HU:=Hd (((HB.out.drew).upd' (Nat.le_refl _)).mono (S':=fun k=>k=p) fun _ _ e=>False.elim e)
   clear e1 e2 e3 e4 hi hle k0 k1 hlt hp df hcap hcap2 hn SZ1 CK CX S1 SZ
   go_region_law ((go_simp;go_at_call 215;refine (CK2.out _ HU.out).mono ?_;rintro e Wc ⟨g3,cap3,rfl,HR⟩
                   have HR2:=Hd HR.out.2
                   have D0:Wc.cell? ⟨p,0,none⟩=some (.bool false):=(World.cell?_of_block (HR2.out.block p dl)).trans d0))
   all_goals (
    have HBc:=Hd (HB.out.drew.trans (HR2.out.mono HB.out.size))
    have SP1:=Hd (Spl.start HBc.out HP.out (ownsRow_mono HR.out.1 HB.out.size))
    generalize (Wc.alloc (.cells #[.bool false,.slice (some ⟨g3,0,none⟩) (K.length-i) cap3,.slice none 0 0,.slice none 0 0] 222))=W2 at *
    generalize Wc.heap.size=q at *
    clear HR HR2 D0 d0 d1 d2 d3 dl HBc HU HB CK2
    obtain ⟨x0,x1,x2,x3,xf,xl,y2,y3,yf,yl,n1,n2⟩:=SP1.out.cells
    have xf1:=xf 1
    have SP2:=Hd (SP1.out.setP 1 (.slice (some ⟨g,0,none⟩) i i) _ _ _ rfl)
    clear xf yf
    go_wp2_with fail
    refine (CX2.out _ SP2.out.up).mono ?_
    rintro e W4 ⟨g4,cap4,rfl,HR4⟩
    have SP3:=Hd (SP2.out.below HR4.out.2)
    obtain ⟨z0,z1,z2,z3,zf,zl,u2,u3,uf,ul,m1,m2⟩:=SP3.out.cells
    have zfx:=zf 3
    have ufx:=uf 3
    have SP4:=Hd (SP2.out.setI HR4.out.2 HR4.out.1)
    have SP5:=Hd (SP4.out.setP 3 (.slice (some ⟨g2,0,none⟩) i i) _ _ _ rfl)
    clear zf uf SP1 SP2 SP3 SP4 HR4 CX2 x0 x1 x2 x3 xl y2 y3 yl xf1 n1 n2
    go_wp2_with fail
    go_ret
    exact ⟨q,rfl,i,g,cap,g2,cap2,_,_,_,HK0.out,HK1.out,HLE.out,hf.out HK0.out,rfl,by rw [HVL.out],SP5.out⟩)
def RmS (w:World) (G:Nat->Prop) (rb n m:Nat) (S:RS):Prop:=∃ puts,puts.length<=m/\Rm w G rb n puts/\Rep n puts S
def StGo (w w':World) (G:Nat->Prop) (rb n m:Nat) (S:RS):Prop:=∃ G',RmS w' G' rb n m S/\Turn G G' w w'
def TB (w:World) (tb rb place:Nat):Prop:=w.heap[tb]?=some (.cells #[.pointer (some ⟨rb,0,none⟩),.int .i64 (place:Int)] 190 (0,0))
theorem RmS.below {w w':World} {G:Nat->Prop} {rb n m:Nat} {S:RS} (h:RmS w G rb n m S) (hb:Below w.heap.size w w'):RmS w' G rb n m S:=by
 obtain ⟨puts,a,b,c⟩:=h;exact ⟨puts,a,b.below hb,c⟩
theorem RmS.lt {w:World} {G:Nat->Prop} {rb n m:Nat} {S:RS} (h:RmS w G rb n m S):∀ k,G k->k<w.heap.size:=by
 obtain ⟨puts,a,b,c⟩:=h;exact b.lt
theorem RmS.bounds {w:World} {G:Nat->Prop} {rb n m:Nat} {S:RS} (h:RmS w G rb n m S):1<=n/\n<=65335:=by
 obtain ⟨puts,a,b,c⟩:=h;exact b.bounds
theorem RmS.more {w:World} {G:Nat->Prop} {rb n m m':Nat} {S:RS} (h:RmS w G rb n m S) (hm:m<=m'):RmS w G rb n m' S:=by
 obtain ⟨puts,a,b,c⟩:=h;exact ⟨puts,by omega,b,c⟩
theorem RmS.lim {w:World} {G:Nat->Prop} {rb n m:Nat} {S:RS} (h:RmS w G rb n m S):∀ p,S.used p=true->p<pagesN n:=by
 obtain ⟨puts,a,b,c⟩:=h;exact c.lim
theorem StGo.of_room {w w':World} {G:Nat->Prop} {rb n m c:Nat} {S:RS} {puts:List (Int × ByteArray)} (h:RoomGo w w' G rb n puts S c) (hm:puts.length<=m):StGo w w' G rb n (m+c) S:=by
 obtain ⟨G',puts',a,b,d,e⟩:=h
 exact ⟨G',⟨puts',by omega,b,d⟩,e⟩
theorem StGo.below_left {w W w':World} {G:Nat->Prop} {rb n m:Nat} {S:RS} (hb:Below w.heap.size w W) (h:StGo W w' G rb n m S):StGo w w' G rb n m S:=by
 obtain ⟨G',a,b⟩:=h;exact ⟨G',a,b.below_left hb⟩
theorem StGo.upd {w w':World} {G:Nat->Prop} {rb n m:Nat} {S:RS} (h:StGo w w' G rb n m S):Upd G w w':=by
 obtain ⟨G',a,b⟩:=h;exact b.upd
theorem TB.upd {w w':World} {tb rb place:Nat} {F:Nat->Prop} (h:TB w tb rb place) (hu:Upd F w w') (hn:¬F tb):TB w' tb rb place:=hu.at h hn
theorem TB.below {w w':World} {tb rb place:Nat} (h:TB w tb rb place) (hb:Below w.heap.size w w'):TB w' tb rb place:=(hb.block tb (lt_of_heap h)).trans h
theorem TB.cells {w:World} {tb rb place:Nat} (h:TB w tb rb place):w.cell? ⟨tb,0,none⟩=some (.pointer (some ⟨rb,0,none⟩))/\w.cell? ⟨tb,1,none⟩=some (.int .i64 (place:Int)):=⟨cell_lit h rfl,cell_lit h rfl⟩
theorem wrap_u64 {v:Nat} (h:v<18446744073709551616):IntKind.u64.wrap (v:Int)=(v:Int):=by
 simp only [IntKind.wrap,IntKind.bits,IntKind.signed];simp;omega
theorem must_c (w:World):Calls Tryz.prog 131 #[.int .i64 0] w fun e w'=>e=.returned (.tuple #[])/\w'=w:=by
 go_enter Tryz.func131,Tryz.ntmps131
 go_wp2_with fail
 go_end0
 exact ⟨rfl,rfl⟩
theorem root_c (G:Nat->Prop) (tb rb place n m:Nat) (S:RS) (w:World) (h:RmS w G rb n m S) (ht:TB w tb rb place) (hp:place<16) (hm:m<=4000000) (hr:S.root place<=65536) :
 Calls Tryz.prog 125 #[.pointer (some ⟨tb,0,none⟩)] w fun e w'=>e=.returned (.int .i64 ((S.root place:Int)-1))/\Hid (Below w.heap.size w w'):=by
 obtain ⟨puts,h1,h2,h3⟩:=h
 obtain ⟨c0,c1⟩:=ht.cells
 have MU:=must_c
 have RC:Hid (Calls Tryz.prog 69 #[.pointer (some ⟨rb,0,none⟩),.int .i64 (place:Int)] w.drew fun e w'=>e=.returned (.tuple #[.int .u64 (S.root place:Int),.int .i64 0])/\(w'.cell? ⟨tb,0,none⟩=some (.pointer (some ⟨rb,0,none⟩))/\w'.cell? ⟨tb,1,none⟩=some (.int .i64 (place:Int)))/\Hid (Below w.heap.size w w')):=Hd (by
  refine (Root_c G rb n puts S place w.drew (h2.below (Below.refl _ _).drew) h3 (by omega) hp).mono ?_
  rintro e w' ⟨rfl,hb⟩
  have hb':Below w.heap.size w w':=(Below.refl w.heap.size w).drew.trans hb
  exact ⟨rfl,(ht.below hb').cells,hb'⟩)
 have hq:S.root place<=65536:=hr
 generalize S.root place=v at *
 clear h2 h3 ht hr
 go_enter Tryz.func125,Tryz.ntmps125
 go_wp2_with fail
 go_region_held3 (fun w'=>w'.cell? ⟨tb,0,none⟩=some (.pointer (some ⟨rb,0,none⟩))/\w'.cell? ⟨tb,1,none⟩=some (.int .i64 (place:Int))) (go_keep) ((go_at_call 69;refine Calls.at_args RC.out (by with_reducible rfl) ?_;rintro e w1 ⟨rfl,hk,HB⟩))
 go_wp2_with (go_at_call 131;refine (MU _).mono ?_;rintro e w2 ⟨rfl,rfl⟩)
 go_ret
 exact ⟨rfl,HB⟩
theorem setRoot_c (G:Nat->Prop) (tb rb place n m:Nat) (S:RS) (v:Nat) (w:World) (h:RmS w G rb n m S) (ht:TB w tb rb place) (hg:¬G tb) (hp:place<16) (hm:m<=4000000) (hv:v<=65536) :
 Calls Tryz.prog 126 #[.pointer (some ⟨tb,0,none⟩),.int .i64 ((v:Int)-1)] w fun e w'=>e=.returned (.tuple #[])/\Hid (StGo w w' G rb n (m+1) (setRootS S place v)):=by
 obtain ⟨puts,h1,h2,h3⟩:=h
 obtain ⟨c0,c1⟩:=ht.cells
 have MU:=must_c
 have SR:Hid (Calls Tryz.prog 72 #[.pointer (some ⟨rb,0,none⟩),.int .i64 (place:Int),.int .u64 (v:Int)] w.drew fun e w'=>e=.returned (.int .i64 0)/\(w'.cell? ⟨tb,0,none⟩=some (.pointer (some ⟨rb,0,none⟩))/\w'.cell? ⟨tb,1,none⟩=some (.int .i64 (place:Int)))/\Hid (StGo w w' G rb n (m+1) (setRootS S place v))):=Hd (by
  refine (SetRoot_c G rb n puts S place v w.drew (h2.below (Below.refl _ _).drew) h3 (by omega) hp (by omega)).mono ?_
  rintro e w' ⟨rfl,hgo⟩
  have hgo':=(StGo.of_room hgo h1).below_left ((Below.refl w.heap.size w).drew)
  exact ⟨rfl,(ht.upd hgo'.upd hg).cells,hgo'⟩)
 have hw:IntKind.i64.wrap (v:Int)=(v:Int):=wrap_small (by omega) (by omega)
 have hw2:IntKind.u64.wrap (v:Int)=(v:Int):=wrap_u64 (by omega)
 clear h2 h3 ht
 go_enter Tryz.func126,Tryz.ntmps126
 go_wp2_with fail
 go_region_held3 (fun w'=>w'.cell? ⟨tb,0,none⟩=some (.pointer (some ⟨rb,0,none⟩))/\w'.cell? ⟨tb,1,none⟩=some (.int .i64 (place:Int))) (go_keep) ((first
  | (go_at_call 72;refine Calls.at_args SR.out (by with_reducible rfl) ?_;rintro e w1 ⟨rfl,hk,HG⟩)
  | (go_at_call 131;refine (MU _).mono ?_;rintro e w2 ⟨rfl,rfl⟩)))
 go_end0
 exact ⟨rfl,HG⟩
theorem ntext_c (d:Nd) (q:Nat) (F:Nat->Prop) (w:World) (hd:d.Ok) (h:RdIn w q d F) :
 Calls Tryz.prog 212 #[.pointer (some ⟨q,0,none⟩)] w fun e w'=>e=.returned (.string (ofL d.bytes))/\Below w.heap.size w w':=by
 obtain ⟨vk,vv,vi,h,-⟩:=h
 cases d with
 | leaf l=>exact text_leaf l q vk vv vi w hd h
 | inner l=>exact text_inner l q vk vv vi w hd h
theorem write_c (G F:Nat->Prop) (tb rb place n m:Nat) (S:RS) (p q:Nat) (d:Nd) (w:World) (h:RmS w G rb n m S) (ht:TB w tb rb place) (hg:¬G tb) (hm:m<=4000000) (hd:d.Ok) (hs:d.size<=512) (hq:RdIn w q d F) (hu:S.used p=true) :
 Calls Tryz.prog 176 #[.pointer (some ⟨tb,0,none⟩),.int .i64 (p:Int),.pointer (some ⟨q,0,none⟩)] w fun e w'=>e=.returned (.tuple #[])/\Hid (StGo w w' G rb n (m+1) (wrS S p d)):=by
 obtain ⟨puts,h1,h2,h3⟩:=h
 obtain ⟨c0,c1⟩:=ht.cells
 have MU:=must_c
 have hql:q<w.heap.size:=by obtain ⟨vk,vv,vi,a,b⟩:=hq;exact lt_of_heap a.blk
 have TX:Hid (Calls Tryz.prog 212 #[.pointer (some ⟨q,0,none⟩)] w.drew fun e w'=>e=.returned (.string (ofL d.bytes))/\w'.cell? ⟨tb,0,none⟩=some (.pointer (some ⟨rb,0,none⟩))/\Hid (Below w.heap.size w w')):=Hd (by
  refine (ntext_c d q F w.drew hd (hq.upd (S:=fun _=>False) (Upd.refl _ _).drew fun _ _ _ e=>e)).mono ?_
  rintro e w' ⟨rfl,hb⟩
  have hb':Below w.heap.size w w':=(Below.refl w.heap.size w).drew.trans hb
  exact ⟨rfl,(ht.below hb').cells.1,hb'⟩)
 have PW:Hid (∀ W,Below w.heap.size w W->Calls Tryz.prog 172 #[.pointer (some ⟨rb,0,none⟩),.int .i64 (p:Int),.string (ofL d.bytes)] W fun e w'=>e=.returned (.int .i64 0)/\w'.cell? ⟨tb,0,none⟩=some (.pointer (some ⟨rb,0,none⟩))/\Hid (StGo w w' G rb n (m+1) (wrS S p d))):=Hd fun W hW=>by
  refine (PWrite_c G rb n puts S p (ofL d.bytes) W (h2.below hW) h3 (by omega) hu (by rw [ofL_size,bytes_len];exact hs)).mono ?_
  rintro e w' ⟨rfl,hgo⟩
  have hgo':StGo w w' G rb n (m+1) (wrS S p d):=(StGo.of_room hgo h1).below_left hW
  exact ⟨rfl,(ht.upd hgo'.upd hg).cells.1,hgo'⟩
 generalize ofL d.bytes=s at *
 clear h2 h3 ht hq
 go_enter Tryz.func176,Tryz.ntmps176
 go_wp2_with fail
 go_region_held3 (fun w'=>w'.cell? ⟨tb,0,none⟩=some (.pointer (some ⟨rb,0,none⟩))) (go_keep) ((first
  | (go_at_call 212;refine Calls.at_args TX.out (by with_reducible rfl) ?_;rintro e w1 ⟨rfl,hk,HB⟩)
  | (go_at_call 172;refine Calls.at_args (PW.out _ HB.out) (by with_reducible rfl) ?_;rintro e w3 ⟨rfl,hk3,HG⟩)
  | (go_at_call 131;refine (MU _).mono ?_;rintro e w2 ⟨rfl,rfl⟩)))
 all_goals go_end0
 all_goals exact ⟨rfl,HG⟩
theorem pad_of (l:List UInt8):pad (ofL l)=ofL (l++List.replicate (512-l.length) 0):=by
 unfold pad;rw [ofL_size,toList_ofL];rfl
theorem read_c (G:Nat->Prop) (tb rb place n m:Nat) (S:RS) (p:Nat) (d:Nd) (w:World) (h:RmS w G rb n m S) (ht:TB w tb rb place) (hm:m<=4000000) (hd:d.Ok) (hs:d.size<=512) (hu:S.used p=true) (hc:S.cont p=pad (ofL d.bytes)) :
 Calls Tryz.prog 133 #[.pointer (some ⟨tb,0,none⟩),.int .i64 (p:Int)] w fun e w'=>∃ q,e=.returned (.pointer (some ⟨q,0,none⟩))/\Hid (∃ F,IsNd w' F q d/\(∀ k,F k->w.heap.size<=k)/\Below w.heap.size w w'):=by
 obtain ⟨puts,h1,h2,h3⟩:=h
 obtain ⟨c0,c1⟩:=ht.cells
 have MU:=must_c
 have hnot:∀ (x:Bool) (w:World),(Op.unary .not (.bool x)).run Tryz.prog w=.ok (.bool (!x)) w:=fun _ _=>rfl
 have RD:Hid (Calls Tryz.prog 183 #[.pointer (some ⟨rb,0,none⟩),.int .i64 (p:Int)] w fun e w'=>e=.returned (.tuple #[.string (S.cont p),.int .i64 0])/\Below w.heap.size w w'):=Hd (PRead_c G rb n puts S p w h2 h3 (by omega) hu)
 rw [hc,pad_of] at RD
 have PC:Hid (∀ W,Below w.heap.size w W->Calls Tryz.prog 184 #[.string (ofL (d.bytes++List.replicate (512-d.bytes.length) 0))] W fun e w'=>∃ p,e=.returned (.tuple #[.pointer (some ⟨p,0,none⟩),.bool true])/\Hid (∃ F,IsNd w' F p d/\(∀ k,F k->w.heap.size<=k)/\Below w.heap.size w w')):=Hd fun W hW=>by
  have hl:=bytes_len d
  refine (parse_c d (List.replicate (512-d.bytes.length) 0) W hd (by simp;omega)).mono ?_
  rintro e w' ⟨p,rfl,F,a,b,c⟩
  exact ⟨p,rfl,F,a,fun k hk=>Nat.le_trans hW.size (b k hk),hW.trans (c.mono hW.size)⟩
 generalize ofL (d.bytes++List.replicate (512-d.bytes.length) 0)=s at *
 clear h2 h3 ht hc
 go_enter Tryz.func133,Tryz.ntmps133
 go_wp2_with (first
  | (go_at_call 183;refine RD.out.mono ?_;rintro e w1 ⟨rfl,hb⟩;have HB:=Hd hb;clear hb)
  | (go_at_call 131;refine (MU _).mono ?_;rintro e w2 ⟨rfl,rfl⟩)
  | (go_at_call 184;refine (PC.out _ HB.out).mono ?_;rintro e w3 ⟨q,rfl,HQ⟩))
 go_ret
 exact ⟨q,rfl,HQ⟩
theorem alloc_c (G:Nat->Prop) (rb n m:Nat) (S:RS) (w:World) (h:RmS w G rb n m S) (hm:m<=3999990) (hfree:∃ q,q<pagesN n/\S.used q=false) :
 Calls Tryz.prog 44 #[.pointer (some ⟨rb,0,none⟩)] w fun e w'=>∃ p:Nat,e=.returned (.tuple #[.int .i64 p,.int .i64 0])/\Hid (p<pagesN n/\S.used p=false/\StGo w w' G rb n (m+2) (allocS S p)):=by
 obtain ⟨puts,h1,h2,h3⟩:=h
 refine (Alloc_c G rb n puts S w h2 h3 (by omega) hfree).mono ?_
 rintro e w' ⟨p,rfl,a,b,c⟩
 exact ⟨p,rfl,a,b,StGo.of_room c h1⟩
theorem fresh_c (G F:Nat->Prop) (tb rb place n m:Nat) (S:RS) (q:Nat) (d:Nd) (w:World) (h:RmS w G rb n m S) (ht:TB w tb rb place) (hg:¬G tb) (hm:m<=3999980) (hd:d.Ok) (hs:d.size<=512) (hq:RdIn w q d F) (hF:∀ k,F k->¬G k) (hfree:∃ q,q<pagesN n/\S.used q=false) :
 Calls Tryz.prog 127 #[.pointer (some ⟨tb,0,none⟩),.pointer (some ⟨q,0,none⟩)] w fun e w'=>∃ p:Nat,e=.returned (.int .i64 p)/\Hid (p<pagesN n/\S.used p=false/\StGo w w' G rb n (m+3) (wrS (allocS S p) p d)):=by
 obtain ⟨c0,c1⟩:=ht.cells
 have MU:=must_c
 have AL:=Hd (alloc_c G rb n m S w h (by omega) hfree)
 have hql:q<w.heap.size:=by obtain ⟨vk,vv,vi,a,b⟩:=hq;exact lt_of_heap a.blk
 have htl:=lt_of_heap ht
 have WR:Hid (∀ (p:Nat) W,p<pagesN n->S.used p=false->StGo w W G rb n (m+2) (allocS S p)->Calls Tryz.prog 176 #[.pointer (some ⟨tb,0,none⟩),.int .i64 (p:Int),.pointer (some ⟨q,0,none⟩)] W fun e w'=>e=.returned (.tuple #[])/\Hid (StGo w w' G rb n (m+3) (wrS (allocS S p) p d))):=Hd fun p W hp hu hW=>by
  obtain ⟨G',a,b⟩:=hW
  refine (write_c G' F tb rb place n (m+2) (allocS S p) p q d W a (ht.upd b.upd hg) (fun e=>?_) (by omega) hd hs (hq.upd b.upd fun k hk _=>hF k hk) ?_).mono ?_
  ·rcases b.sub tb e with x|x
   ·exact hg x
   ·omega
  ·show flip S.used p p=true
   unfold flip;rw [if_pos rfl,hu];rfl
  ·rintro e w' ⟨rfl,G2,x,y⟩
   exact ⟨rfl,G2,x,b.trans y⟩
 clear h ht hq
 go_enter Tryz.func127,Tryz.ntmps127
 go_wp2_with fail
 refine AL.out.mono ?_
 rintro e w1 ⟨p,rfl,HP⟩
 have WR2:=Hd (WR.out p w1 HP.out.1 HP.out.2.1 HP.out.2.2)
 clear WR AL
 go_wp2_with (first
  | (go_at_call 131;refine (MU _).mono ?_;rintro e w2 ⟨rfl,rfl⟩)
  | (go_at_call 176;refine WR2.out.mono ?_;rintro e w3 ⟨rfl,HW⟩))
 go_ret
 exact ⟨p,rfl,HP.out.1,HP.out.2.1,HW.out⟩
def Spare (S:RS) (n c:Nat):Prop:=∃ U:List Nat,(∀ q,S.used q=true->q∈U)/\U.length+c<=pagesN n
theorem pigeon:∀ (N:Nat) (U:List Nat),U.length<N->∃ q,q<N/\q ∉ U
 | 0,U,h=>by omega
 | N+1,U,h=>by
   by_cases hN:N∈U
   ·have hl:=List.length_erase_of_mem hN
    have hp:=List.length_pos_of_mem hN
    obtain ⟨q,h1,h2⟩:=pigeon N (U.erase N) (by omega)
    refine ⟨q,by omega,fun hq=>h2 ?_⟩
    exact (List.mem_erase_of_ne (by omega)).2 hq
   ·exact ⟨N,by omega,hN⟩
theorem Spare.free {S:RS} {n c:Nat} (h:Spare S n (c+1)):∃ q,q<pagesN n/\S.used q=false:=by
 obtain ⟨U,h1,h2⟩:=h
 obtain ⟨q,h3,h4⟩:=pigeon (pagesN n) U (by omega)
 refine ⟨q,h3,?_⟩
 cases e:S.used q with
 | false=>rfl
 | true=>exact absurd (h1 q e) h4
theorem Spare.alloc {S:RS} {n c p:Nat} (h:Spare S n (c+1)) (hp:S.used p=false):Spare (allocS S p) n c:=by
 obtain ⟨U,h1,h2⟩:=h
 refine ⟨p::U,fun q hq=>?_,by simp;omega⟩
 have hq':flip S.used p q=true:=hq
 unfold flip at hq'
 by_cases e:q=p
 ·simp [e]
 ·rw [if_neg e] at hq';simp [h1 q hq']
theorem Spare.write {S:RS} {n c p:Nat} {d:Nd} (h:Spare S n c):Spare (wrS S p d) n c:=h
theorem Spare.less {S:RS} {n c c':Nat} (h:Spare S n c) (hc:c'<=c):Spare S n c':=by
 obtain ⟨U,h1,h2⟩:=h;exact ⟨U,h1,by omega⟩
def wt:(h:Nat)->PT h->Nat
 | 0,l=>List.length l
 | h+1,l=>(List.map (fun x=>max (2 ^ h) (wt h x.2.2)) l).sum
theorem wt_zero (l:PT 0):wt 0 l=List.length l:=rfl
theorem wt_app {h:Nat} (A B:List (Kid h)):wt (h+1) (A++B:List (Kid h))=wt (h+1) A+wt (h+1) B:=by simp [wt]
theorem wt_cons {h:Nat} (x:Kid h) (B:List (Kid h)):wt (h+1) (x::B:List (Kid h))=max (2 ^ h) (wt h x.2.2)+wt (h+1) B:=by simp [wt]
theorem wt_mid {h:Nat} (A B:List (Kid h)) (x:Kid h):wt (h+1) (A++x::B:List (Kid h))=wt (h+1) A+(max (2 ^ h) (wt h x.2.2)+wt (h+1) B):=by rw [wt_app,wt_cons]
theorem wt_lo {h:Nat} (l:List (Kid h)):2 ^ h*l.length<=wt (h+1) l:=by
 induction l with
 | nil=>simp [wt]
 | cons x l ih =>
   rw [wt_cons,List.length_cons,Nat.mul_add,Nat.mul_one]
   have:=Nat.le_max_left (2 ^ h) (wt h x.2.2)
   omega
theorem wt_cut (h i:Nat) (u:PT h):wt h (tk h i u)+wt h (dr h i u)=wt h u:=by
 cases h with
 | zero=>show (List.take i u).length+(List.drop i u).length=List.length u;rw [<-List.length_append,List.take_append_drop]
 | succ h=>exact (wt_app _ _).symm.trans (by simp [tk,dr])
theorem wt_many {h:Nat} (u:PT h) (h2:(h=0->1<=(nd h u).len)/\(1<=h->2<=(nd h u).len)):2 ^ h<=wt h u:=by
 cases h with
 | zero=>have:=h2.1 rfl;rw [nd_len0] at this;exact this
 | succ h =>
   have:=h2.2 (by omega)
   rw [nd_lenS] at this
   have h3:=wt_lo (h:=h) u
   have h4:2 ^ h*2<=2 ^ h*List.length u:=Nat.mul_le_mul_left _ this
   have h5:2 ^ (h+1)=2 ^ h*2:=Nat.pow_succ 2 h
   omega
theorem wt_one {h:Nat} {A B:List (Kid h)} {x y:Kid h} (H:wt h y.2.2<=wt h x.2.2+1):wt (h+1) (A++y::B:List (Kid h))<=wt (h+1) (A++x::B:List (Kid h))+1:=by
 rw [wt_mid,wt_mid]
 generalize 2 ^ h=P
 omega
theorem wt_same {h:Nat} {A B:List (Kid h)} {x y:Kid h} (H:wt h y.2.2<=wt h x.2.2):wt (h+1) (A++y::B:List (Kid h))<=wt (h+1) (A++x::B:List (Kid h)):=by
 rw [wt_mid,wt_mid]
 generalize 2 ^ h=P
 omega
theorem wt_two {h:Nat} {A B:List (Kid h)} {x y z:Kid h} (H:wt h y.2.2+wt h z.2.2<=wt h x.2.2+1) (h1:2 ^ h<=wt h y.2.2) (h2:2 ^ h<=wt h z.2.2):wt (h+1) (A++y::z::B:List (Kid h))<=wt (h+1) (A++x::B:List (Kid h))+1:=by
 rw [wt_mid,wt_cons,wt_mid]
 generalize 2 ^ h=P at *
 omega
theorem wt_hgt {h k:Nat} {t:PT h} (hp:0<(nd h t).len) (hw:wt h t<2 ^ k):h<=k:=by
 cases h with
 | zero=>omega
 | succ h =>
   rw [nd_lenS] at hp
   have h1:=wt_lo (h:=h) t
   have h2:2 ^ h*1<=2 ^ h*List.length t:=Nat.mul_le_mul_left _ hp
   have h3:2 ^ h<2 ^ k:=by omega
   have:=(Nat.pow_lt_pow_iff_right (by decide:1<2)).1 h3
   omega
structure PutOne (S S':RS) (h p:Nat) (t:PT h) (key val:ByteArray) (t':PT h):Prop where
 tr:Tr S' h p t'
 ins:Ins key val (ents h t) (ents h t')
 frm:Frm (pgs h p t) (pgs h p t') S S'
 sng:sing h t'<=sing h t
 len:(nd h t).len<=(nd h t').len
 spr:∀ n c,Spare S n (c+h)->Spare S' n c
 lenU:(nd h t').len<=(nd h t).len+1
 wtU:wt h t'<=wt h t+1
structure PutTwo (S S':RS) (h p:Nat) (t:PT h) (key val:ByteArray) (k:ByteArray) (q:Nat) (t1 t2:PT h):Prop where
 tr1:Tr S' h p t1
 tr2:Tr S' h q t2
 ins:Ins key val (ents h t) (ents h t1++ents h t2)
 frm:Frm (pgs h p t) (pgs h p t1++pgs h q t2) S S'
 nod:(pgs h p t1++pgs h q t2).Nodup
 qlt:q<65536
 ksz:k.size<=96
 lo:∀ e∈ents h t1,kless e.1 k=true
 hi:∀ e∈ents h t2,kless e.1 k=false
 sng:sing h t1+sing h t2<=sing h t
 spr:∀ n c,Spare S n (c+h+1)->Spare S' n c
 five:1<=h->5<=(nd h t).len
 six:1<=h->6<=(nd h t1).len+(nd h t2).len
 wtU:wt h t1+wt h t2<=wt h t+1/\2 ^ h<=wt h t1/\2 ^ h<=wt h t2
structure Over (S S1:RS) (h p:Nat) (t:PT h) (key val:ByteArray) (u:PT h):Prop where
 wf:Wf h u
 pos:0<(nd h u).len
 siz:(nd h u).size<=666
 kid:Kids S1 h u
 nod:(p::low h u).Nodup
 use:S1.used p=true
 ins:Ins key val (ents h t) (ents h u)
 frm:Frm (pgs h p t) (p::low h u) S S1
 sng:sing h u<=sing h t
 len:(nd h t).len<=(nd h u).len
 spr:∀ n c,Spare S n (c+h)->Spare S1 n c
 lenU:(nd h u).len<=(nd h t).len+1
 wtU:wt h u<=wt h t+1
theorem nodup_swap {X Y:List Nat} {P P':List Nat} {S S':RS} (h:(X++(P++Y)).Nodup) (hf:Frm P P' S S') (hn:P'.Nodup) (hu:∀ q∈X++(P++Y),S.used q=true):(X++(P'++Y)).Nodup:=by
 obtain ⟨h1,h2,h3⟩:=List.nodup_append.1 h
 obtain ⟨h4,h5,h6⟩:=List.nodup_append.1 h2
 have hX:∀ q∈X,q ∉ P':=fun q hq=>(hf.keep q (fun e=>h3 q hq q (by simp [e]) rfl) (hu q (by simp [hq]))).1
 have hY:∀ q∈Y,q ∉ P':=fun q hq=>(hf.keep q (fun e=>h6 q e q hq rfl) (hu q (by simp [hq]))).1
 refine List.nodup_append.2 ⟨h1,List.nodup_append.2 ⟨hn,h5,fun a ha b hb e=>?_⟩,fun a ha b hb e=>?_⟩
 ·subst e;exact hY a hb ha
 ·subst e
  rcases List.mem_append.1 hb with hb|hb
  ·exact hX a ha hb
  ·exact h3 a ha a (by simp [hb]) rfl
section
variable {S S':RS} {h p:Nat} {A B:List (Kid h)} {x:Kid h} {key val:ByteArray}
theorem low_mid (A B:List (Kid h)) (x:Kid h):low (h+1) (A++x::B:List (Kid h))=low (h+1) A++(pgs h x.2.1 x.2.2++low (h+1) B):=by
 simp [low]
theorem Kids.mid {S:RS} {A B:List (Kid h)} {x:Kid h} (H:Kids S (h+1) (A++x::B:List (Kid h))):Kids S (h+1) A/\On S h x.2.1 x.2.2/\Kids S (h+1) B :=
 ⟨fun y hy=>H y (by simp [hy]),H x (by simp),fun y hy=>H y (by simp [hy])⟩
theorem Kids.mk {S:RS} {A B:List (Kid h)} {x:Kid h} (h1:Kids S (h+1) A) (h2:On S h x.2.1 x.2.2) (h3:Kids S (h+1) B):Kids S (h+1) (A++x::B:List (Kid h)):=by
 intro y hy
 rcases List.mem_append.1 hy with hy|hy
 ·exact h1 y hy
 ·rcases List.mem_cons.1 hy with rfl|hy
  ·exact h2
  ·exact h3 y hy
theorem Frm.others {P':List Nat} (H:Tr S (h+1) p (A++x::B:List (Kid h))) (hf:Frm (pgs h x.2.1 x.2.2) P' S S') (hn:P'.Nodup) :
 Kids S' (h+1) A/\Kids S' (h+1) B/\(S'.used p=true/\S'.cont p=pad (ofL (nd (h+1) (A++x::B:List (Kid h))).bytes))/\(p::(low (h+1) A++(P'++low (h+1) B))).Nodup/\Frm (pgs (h+1) p (A++x::B:List (Kid h))) (p::(low (h+1) A++(P'++low (h+1) B))) S S':=by
 have hN:=H.nod
 rw [pgs_low,low_mid] at hN
 obtain ⟨hp,hN2⟩:=List.nodup_cons.1 hN
 obtain ⟨n1,n2,n3⟩:=List.nodup_append.1 hN2
 obtain ⟨n4,n5,n6⟩:=List.nodup_append.1 n2
 obtain ⟨k1,k2,k3⟩:=H.kids.mid
 have hU:=H.on.used
 rw [pgs_low,low_mid] at hU
 have kp:∀ q,q ∉ pgs h x.2.1 x.2.2->S.used q=true->S'.used q=S.used q/\S'.cont q=S.cont q:=fun q a b=>by
  obtain ⟨c,d,e⟩:=hf.keep q a b
  exact ⟨d.trans b.symm,e⟩
 have hpx:p ∉ pgs h x.2.1 x.2.2:=fun e=>hp (by simp [e])
 have hpu:=H.on.top
 refine ⟨k1.frame fun q hq=>kp q (fun e=>n3 q hq q (by simp [e]) rfl) (k1.used q hq),k3.frame fun q hq=>kp q (fun e=>n6 q e q hq rfl) (k3.used q hq),⟨(kp p hpx hpu.1).1.trans hpu.1,(kp p hpx hpu.1).2.trans hpu.2⟩,?_,?_⟩
 ·have:=nodup_swap (X:=p::low (h+1) A) (Y:=low (h+1) B) (P:=pgs h x.2.1 x.2.2) (by simpa using hN) hf hn (by simpa using hU)
  simpa using this
 ·refine hf.ctx _ _ (p::(low (h+1) A++low (h+1) B)) (fun q=>?_) (fun q=>?_)
  ·rw [pgs_low,low_mid]
   simp only [List.mem_cons,List.mem_append]
   constructor
   ·rintro (a|a|a|a) <;> simp [a]
   ·rintro (a|a|a|a) <;> simp [a]
  ·simp only [List.mem_cons,List.mem_append]
   constructor
   ·rintro (a|a|a|a) <;> simp [a]
   ·rintro (a|a|a|a) <;> simp [a]
theorem sing_mid (A B:List (Kid h)) (x:Kid h):sing (h+1) (A++x::B:List (Kid h))=(if A.length+B.length=0 then 1 else 0)+((A.map fun x=>sing h x.2.2).sum+(sing h x.2.2+(B.map fun x=>sing h x.2.2).sum)):=by
 have e:((A++x::B).length=1) ↔ (A.length+B.length=0):=by rw [List.length_append,List.length_cons];omega
 simp only [sing,e,List.map_append,List.map_cons,List.sum_append,List.sum_cons]
theorem PutOne.inner {t':PT h} (H:Tr S (h+1) p (A++x::B:List (Kid h))) (W:Way key A x B) (K:PutOne S S' h x.2.1 x.2.2 key val t') :
 PutOne S S' (h+1) p (A++x::B:List (Kid h)) key val (A++(x.1,x.2.1,t')::B:List (Kid h)):=by
 obtain ⟨k1,k3,kp,hn,hf⟩:=K.frm.others H K.tr.nod
 have e:nd (h+1) (A++(x.1,x.2.1,t')::B:List (Kid h))=nd (h+1) (A++x::B:List (Kid h)):=by simp [nd]
 have hx:=H.wf.1 x (by simp)
 refine ⟨⟨⟨fun y hy=>?_,H.wf.2.set W x.2.1 t' K.ins.mem⟩,by rw [e];exact H.pos,by rw [e];exact H.fit,⟨by rw [e];exact kp,Kids.mk k1 K.tr.on k3⟩,by rw [pgs_low,low_mid];exact hn⟩,?_,by rw [pgs_low (h+1) p (A++(x.1,x.2.1,t')::B:List (Kid h)),low_mid];exact hf,?_,by rw [e];exact Nat.le_refl _,fun n c hc=>K.spr n c (hc.less (by omega)),by rw [e];exact Nat.le_succ _,wt_one K.wtU⟩
 ·rcases List.mem_append.1 hy with hy|hy
  ·exact H.wf.1 y (by simp [hy])
  ·rcases List.mem_cons.1 hy with rfl|hy
   ·exact ⟨hx.1,hx.2.1,K.tr.pos,K.tr.fit,K.tr.wf⟩
   ·exact H.wf.1 y (by simp [hy])
 ·obtain ⟨w1,w2⟩:=H.wf.2.way W
  rw [ents_mid,ents_mid]
  exact K.ins.lift _ _ (fun a ha=>by obtain ⟨y,hy,he⟩:=(ents_mem h A a).1 ha;exact w1 y hy a he) fun b hb=>by obtain ⟨y,hy,he⟩:=(ents_mem h B b).1 hb;exact w2 y hy b he
 ·rw [sing_mid,sing_mid]
  have:=K.sng
  show _+(_+(sing h t'+_))<=_
  omega
theorem size_mid_inner (l1 l2:List (ByteArray × Nat)) (k:ByteArray) (q:Nat):(Nd.inner (l1++(k,q)::l2)).size=(Nd.inner (l1++l2)).size+(5+k.size):=by
 rw [size_inner,size_inner];simp [esI];omega
theorem nd_two (t1 t2:PT h) (k:ByteArray) (q:Nat):nd (h+1) (A++(x.1,x.2.1,t1)::(k,q,t2)::B:List (Kid h))=.inner ((A++[x]).map (fun x:Kid h=>(x.1,x.2.1))++(k,q)::B.map (fun x:Kid h=>(x.1,x.2.1))):=by simp [nd]
theorem nd_of_mid:nd (h+1) (A++x::B:List (Kid h))=.inner ((A++[x]).map (fun x:Kid h=>(x.1,x.2.1))++B.map (fun x:Kid h=>(x.1,x.2.1))):=by simp [nd]
theorem Over.inner {t1 t2:PT h} {k:ByteArray} {q:Nat} (H:Tr S (h+1) p (A++x::B:List (Kid h))) (W:Way key A x B) (K:PutTwo S S' h x.2.1 x.2.2 key val k q t1 t2) :
 Over S S' (h+1) p (A++x::B:List (Kid h)) key val (A++(x.1,x.2.1,t1)::(k,q,t2)::B:List (Kid h)):=by
 obtain ⟨k1,k3,kp,hn,hf⟩:=K.frm.others H K.nod
 have hx:=H.wf.1 x (by simp)
 have hlow:low (h+1) (A++(x.1,x.2.1,t1)::(k,q,t2)::B:List (Kid h))=low (h+1) A++((pgs h x.2.1 t1++pgs h q t2)++low (h+1) B):=by simp [low]
 have hsz:=H.fit
 rw [nd_of_mid] at hsz
 refine ⟨⟨fun y hy=>?_,?_⟩,?_,?_,Kids.mk k1 K.tr1.on (fun y hy=>?_),by rw [hlow];exact hn,kp.1,?_,by rw [hlow];exact hf,?_,?_,fun n c hc=>K.spr n c (hc.less (by omega)),by rw [nd_lenS,nd_lenS];simp;omega,wt_two K.wtU.1 K.wtU.2.1 K.wtU.2.2⟩
 ·rcases List.mem_append.1 hy with hy|hy
  ·exact H.wf.1 y (by simp [hy])
  ·rcases List.mem_cons.1 hy with rfl|hy
   ·exact ⟨hx.1,hx.2.1,K.tr1.pos,K.tr1.fit,K.tr1.wf⟩
   ·rcases List.mem_cons.1 hy with rfl|hy
    ·exact ⟨K.ksz,K.qlt,K.tr2.pos,K.tr2.fit,K.tr2.wf⟩
    ·exact H.wf.1 y (by simp [hy])
 ·exact H.wf.2.part W x.2.1 q t1 t2 (fun e he=>K.ins.mem e (by simp [he])) (fun e he=>K.ins.mem e (by simp [he])) (ents_pos K.tr1.wf K.tr1.pos) K.lo K.hi
 ·rw [nd_lenS,List.length_append,List.length_cons];omega
 ·rw [nd_two,size_mid_inner];have:=K.ksz;omega
 ·rcases List.mem_cons.1 hy with rfl|hy
  ·exact K.tr2.on
  ·exact k3 y hy
 ·obtain ⟨w1,w2⟩:=H.wf.2.way W
  have e:ents (h+1) (A++(x.1,x.2.1,t1)::(k,q,t2)::B:List (Kid h))=ents (h+1) A++((ents h t1++ents h t2)++ents (h+1) B):=by simp [ents]
  rw [ents_mid,e]
  exact K.ins.lift _ _ (fun a ha=>by obtain ⟨y,hy,he⟩:=(ents_mem h A a).1 ha;exact w1 y hy a he) fun b hb=>by obtain ⟨y,hy,he⟩:=(ents_mem h B b).1 hb;exact w2 y hy b he
 ·have:=K.sng
  rw [sing_mid,sing_mid]
  have e:¬(A.length+((k,q,t2)::B).length=0):=by simp
  rw [if_neg e]
  simp only [List.map_cons,List.sum_cons]
  show _+(_+(sing h t1+(sing h t2+_)))<=_
  omega
 ·rw [nd_lenS,nd_lenS];simp
end
section
variable {S S1:RS} {h p:Nat} {t u:PT h} {key val:ByteArray}
theorem Over.one (H:Over S S1 h p t key val u) (hs:(nd h u).size<=512):PutOne S (wrS S1 p (nd h u)) h p t key val u:=by
 refine ⟨Tr.write H.wf H.pos hs H.kid (by rw [pgs_low];exact H.nod) H.use,H.ins,?_,H.sng,H.len,fun n c hc=>(H.spr n c hc).write,H.lenU,H.wtU⟩
 rw [pgs_low h p u]
 exact H.frm.trans (Frm.write _ _ _ _ (by simp))
theorem big_len:∀ {h:Nat} {u:PT h},Wf h u->1<=h->512<(nd h u).size->6<=(nd h u).len
 | 0,_,_,h,_=>absurd h (by decide)
 | h+1,u,H,_,hs=>by
   obtain ⟨l,hl⟩:∃ l:List (Kid h),l=u:=⟨u,rfl⟩
   subst hl
   have h1:(List.map esI (List.map (fun x:Kid h=>(x.1,x.2.1)) l)).sum<=101*(List.map (fun x:Kid h=>(x.1,x.2.1)) l).length:=sum_le esI 101 _ fun x hx=>by
    obtain ⟨y,hy,rfl⟩:=List.mem_map.1 hx
    have:=(H.1 y hy).1
    show 5+y.1.size<=101
    omega
   have h2:512<3+(List.map esI (List.map (fun x:Kid h=>(x.1,x.2.1)) l)).sum:=by
    rw [<-size_inner];exact hs
   rw [nd_lenS]
   rw [List.length_map] at h1
   omega
theorem Over.ok (H:Over S S1 h p t key val u):(nd h u).Ok:=H.wf.ok H.pos (Nat.le_trans H.siz (by decide))
theorem Over.cut (H:Over S S1 h p t key val u) (hs:512<(nd h u).size) {i:Nat} (hc:CutAt (nd h u) i):0<i/\i<(nd h u).len/\((nd h u).take i).size<=512/\((nd h u).drop i).size<=512/\((nd h u).isLeaf=false->2<=((nd h u).take i).len/\2<=((nd h u).drop i).len) :=
 hc.fit H.ok.key H.ok.val hs H.siz
theorem len_take (d:Nd) (i:Nat) (hi:i<=d.len):(d.take i).len=i/\(d.drop i).len=d.len-i:=by
 cases d with
 | leaf l=>simp [Nd.take,Nd.drop,Nd.len,Nd.keys] at *;omega
 | inner l=>simp [Nd.take,Nd.drop,Nd.len,Nd.keys] at *;omega
theorem Over.two (H:Over S S1 h p t key val u) (hs:512<(nd h u).size) {i:Nat} (hc:CutAt (nd h u) i) {q:Nat} (hq:S1.used q=false) (hq2:q<65536) :
 PutTwo S (wrS (allocS (wrS S1 p (nd h (tk h i u))) q) q (nd h (dr h i u))) h p t key val ((nd h (dr h i u)).keys.getD 0 ByteArray.empty) q (tk h i u) (dr h i u):=by
 obtain ⟨h0,h1,h2,h3,h4⟩:=H.cut hs hc
 obtain ⟨e1,e2⟩:=len_take (nd h u) i (by omega)
 obtain ⟨w1,w2⟩:=H.wf.cut i
 obtain ⟨k1,k2⟩:=H.kid.cut i
 have hlow:=low_cut h i u
 have hN:=H.nod
 rw [<-hlow] at hN
 obtain ⟨n1,n2⟩:=List.nodup_cons.1 hN
 obtain ⟨n3,n4,n5⟩:=List.nodup_append.1 n2
 have hpq:p≠q:=fun e=>by have:=H.use;rw [e,hq] at this;cases this
 have hql:q ∉ low h u:=fun e=>by have:=H.kid.used q e;rw [hq] at this;cases this
 rw [<-hlow] at hql
 have T1:Tr (wrS S1 p (nd h (tk h i u))) h p (tk h i u):=Tr.write w1 (by rw [nd_tk,e1];exact h0) (by rw [nd_tk];exact h2) k1 (by rw [pgs_low];exact List.nodup_cons.2 ⟨fun e=>n1 (by simp [e]),n3⟩) H.use
 have hu2:(wrS S1 p (nd h (tk h i u))).used q=false:=hq
 have k2':Kids (wrS S1 p (nd h (tk h i u))) h (dr h i u):=k2.frame fun r hr=>⟨rfl,by
  have:r≠p:=fun e=>n1 (by rw [<-e];simp [hr])
  show (if r=p then _ else _)=_
  rw [if_neg this]⟩
 have T2:=Tr.fresh w2 (by rw [nd_dr,e2];omega) (by rw [nd_dr];exact h3) k2' n4 hu2
 have f1:=H.frm.trans (Frm.write (p::low h u) S1 p (nd h (tk h i u)) (by simp))
 have f2:=f1.trans (Frm.alloc (p::low h u) _ q hu2)
 have f3:=f2.trans (Frm.write (q::p::low h u) _ q (nd h (dr h i u)) (by simp))
 obtain ⟨g1,g2,g3⟩:=H.wf.first i h0 (by rw [nd_dr,e2];omega)
 have hmem:∀ r,r∈pgs h p (tk h i u)++pgs h q (dr h i u) ↔ r∈q::p::low h u:=fun r=>by
  rw [pgs_low,pgs_low,<-hlow]
  simp only [List.mem_append,List.mem_cons]
  constructor
  ·rintro ((a|a)|(a|a)) <;> simp [a]
  ·rintro (a|a|a|a) <;> simp [a]
 refine ⟨T1.frame fun r hr=>?_,T2,by rw [ents_cut];exact H.ins,?_,?_,hq2,g3,g1,g2,?_,fun n c hc'=>?_,fun hh=>?_,fun hh=>?_,?_⟩
 ·have hr':r≠q:=fun e=>by
   rw [pgs_low] at hr
   rcases List.mem_cons.1 hr with e'|e'
   ·exact hpq (by rw [<-e',e])
   ·exact hql (by rw [<-e];simp [e'])
  refine ⟨?_,?_⟩
  ·show flip _ q r=_
   unfold flip;rw [if_neg hr']
  ·show (if r=q then _ else if r=q then _ else _)=_
   rw [if_neg hr',if_neg hr']
 ·exact ⟨fun r a b=>by obtain ⟨x,y,z⟩:=f3.keep r a b;exact ⟨fun e=>x ((hmem r).1 e),y,z⟩,fun r a=>(f3.back r a).imp (fun e=>(hmem r).2 e) id,f3.root,f3.base⟩
 ·rw [pgs_low,pgs_low]
  refine List.nodup_append.2 ⟨List.nodup_cons.2 ⟨fun e=>n1 (by simp [e]),n3⟩,List.nodup_cons.2 ⟨fun e=>hql (by simp [e]),n4⟩,fun a ha b hb e=>?_⟩
  subst e
  rcases List.mem_cons.1 ha with rfl|ha
  ·rcases List.mem_cons.1 hb with e|hb
   ·exact hpq e
   ·exact n1 (by simp [hb])
  ·rcases List.mem_cons.1 hb with rfl|hb
   ·exact hql (by simp [ha])
   ·exact n5 a ha a hb rfl
 ·refine Nat.le_trans ?_ H.sng
  cases h with
  | zero=>simp [sing]
  | succ h =>
    obtain ⟨a,b⟩:=h4 rfl
    exact sing_cut (h+1) i u (by rw [nd_tk];exact a) (by rw [nd_dr];exact b)
 ·exact ((H.spr n (c+1) (hc'.less (by omega))).write.alloc hu2).write
 ·have:=H.lenU
  have:=big_len H.wf hh hs
  omega
 ·have:=big_len H.wf hh hs
  rw [nd_tk,nd_dr,e1,e2]
  omega
 ·refine ⟨by rw [wt_cut];exact H.wtU,wt_many _ ⟨fun _=>by rw [nd_tk,e1];omega,fun hh=>?_⟩,wt_many _ ⟨fun _=>by rw [nd_dr,e2];omega,fun hh=>?_⟩⟩
  ·rw [nd_tk]
   cases h with
   | zero=>omega
   | succ h=>exact (h4 rfl).1
  ·rw [nd_dr]
   cases h with
   | zero=>omega
   | succ h=>exact (h4 rfl).2
end
theorem Over.leaf {S:RS} {p:Nat} {A B:List (ByteArray × ByteArray)} {t:List (ByteArray × ByteArray)} {key val:ByteArray} (H:Tr S 0 p t) (ht:t=A++B\/∃ v,t=A++(key,v)::B) (hA:∀ a∈A,kless a.1 key=true) (hB:∀ b∈B,kless key b.1=true) (hk:key.size<=96) (hv:val.size<=56) :
 Over S S 0 p t key val (A++(key,val)::B):=by
 have hsrt:Srt (A++B):=by
  rcases ht with rfl|⟨v,rfl⟩
  ·exact H.wf.2
  ·exact (srt_of H.wf.2).1
 have hmem:∀ e∈A++B,e.1.size<=96/\e.2.size<=56:=fun e he=>by
  rcases ht with rfl|⟨v,rfl⟩
  ·exact H.wf.1 e he
  ·exact H.wf.1 e (by rcases List.mem_append.1 he with h|h <;> simp [h])
 have hsz:(Nd.leaf (A++B)).size<=512:=by
  have:=H.fit
  rcases ht with rfl|⟨v,rfl⟩
  ·exact this
  ·rw [nd_leaf,size_leaf] at this
   rw [size_leaf]
   simp at this ⊢;omega
 refine ⟨⟨fun e he=>?_,srt_mid hsrt hA hB⟩,by rw [nd_len0,List.length_append,List.length_cons];omega,?_,trivial,by simp [low],H.on.1,⟨A,B,rfl,ht,hA,hB⟩,Frm.refl _ _,by simp [sing],?_,fun n c hc=>hc,by rw [nd_len0,nd_len0];rcases ht with rfl|⟨v,rfl⟩ <;> simp <;> omega,by rw [wt_zero,wt_zero];rcases ht with rfl|⟨v,rfl⟩ <;> simp <;> omega⟩
 ·rcases List.mem_append.1 he with he|he
  ·exact hmem e (by simp [he])
  ·rcases List.mem_cons.1 he with rfl|he
   ·exact ⟨hk,hv⟩
   ·exact hmem e (by simp [he])
 ·rw [nd_leaf,size_leaf]
  rw [size_leaf] at hsz
  simp [esL] at hsz ⊢;omega
 ·rw [nd_len0,nd_len0]
  rcases ht with rfl|⟨v,rfl⟩ <;> simp
theorem RmS.frame {w w':World} {G F:Nat->Prop} {rb n m:Nat} {S:RS} (h:RmS w G rb n m S) (hu:Upd F w w') (hn:∀ k,G k->¬F k):RmS w' G rb n m S:=by
 obtain ⟨puts,a,b,c⟩:=h;exact ⟨puts,a,b.frame hu hn,c⟩
structure TBase (w0 W:World) (G0 G:Nat->Prop) (tb rb place n m:Nat) (S:RS):Prop where
 room:RmS W G rb n m S
 up:Upd G0 w0 W
 sub:∀ k,G k->G0 k\/w0.heap.size<=k
 blk:TB W tb rb place
 gt:¬G tb
 tl:tb<w0.heap.size
section
variable {w0 W W':World} {G0 G G':Nat->Prop} {tb rb place n m m':Nat} {S S':RS}
theorem TBase.start (h:RmS w0 G rb n m S) (ht:TB w0 tb rb place) (hg:¬G tb):TBase w0 w0 G G tb rb place n m S:=⟨h,Upd.refl _ _,fun _ e=>.inl e,ht,hg,lt_of_heap ht⟩
theorem TBase.below (h:TBase w0 W G0 G tb rb place n m S) (hb:Below W.heap.size W W'):TBase w0 W' G0 G tb rb place n m S :=
 ⟨h.room.below hb,h.up.trans' (hb.upd' (Nat.le_refl _)) (fun _ _ e=>False.elim e),h.sub,h.blk.below hb,h.gt,h.tl⟩
theorem TBase.step (h:TBase w0 W G0 G tb rb place n m S) (hg:StGo W W' G rb n m' S'):∃ G',TBase w0 W' G0 G' tb rb place n m' S'/\Turn G G' W W':=by
 obtain ⟨G',a,b⟩:=hg
 have hs:=h.up.size
 have htW:=lt_of_heap h.blk
 refine ⟨G',⟨a,h.up.trans' b.upd fun j hj e=>(h.sub j e).resolve_right (by omega),fun k hk=>?_,h.blk.upd b.upd h.gt,fun e=>?_,h.tl⟩,b⟩
 ·rcases b.sub k hk with e|e
  ·exact h.sub k e
  ·exact .inr (by omega)
 ·rcases b.sub tb e with e|e
  ·exact h.gt e
  ·omega
theorem TBase.node (h:TBase w0 W G0 G tb rb place n m S) {F:Nat->Prop} (hu:Upd F W W') (hF:∀ k,F k->w0.heap.size<=k/\¬G k):TBase w0 W' G0 G tb rb place n m S :=
 ⟨h.room.frame hu fun k hk e=>(hF k e).2 hk,h.up.trans' hu fun j hj e=>absurd (hF j e).1 (by omega),h.sub,h.blk.upd hu fun e=>by have:=(hF tb e).1;have:=h.tl;omega,h.gt,h.tl⟩
theorem TBase.go (h:TBase w0 W G0 G tb rb place n m S):StGo w0 W G0 rb n m S:=⟨G,h.room,h.up,h.sub⟩
def Nod (w0 W:World) (G:Nat->Prop) (q:Nat) (d:Nd):Prop:=∃ F,IsNd W F q d/\∀ k,F k->w0.heap.size<=k/\¬G k
def RdN (w0 W:World) (G:Nat->Prop) (q:Nat) (d:Nd):Prop:=∃ F,RdIn W q d F/\∀ k,F k->w0.heap.size<=k/\¬G k
theorem IsNd.rdIn {W:World} {F:Nat->Prop} {q:Nat} {d:Nd} (h:IsNd W F q d):RdIn W q d F:=by
 obtain ⟨vk,vv,vi,a⟩:=h
 exact ⟨vk,vv,vi,a.read,fun k hk=>⟨a.lt k ((a.own k).2 hk),(a.own k).2 hk⟩⟩
variable {q:Nat} {d:Nd}
theorem Nod.rd (h:Nod w0 W G q d):RdN w0 W G q d:=by
 obtain ⟨F,a,b⟩:=h;exact ⟨F,a.rdIn,b⟩
theorem Nod.start {F:Nat->Prop} (h:IsNd W F q d) (hF:∀ k,F k->w0.heap.size<=k) (hG:∀ k,G k->k<w0.heap.size):Nod w0 W G q d:=⟨F,h,fun k hk=>⟨hF k hk,fun e=>by have:=hF k hk;have:=hG k e;omega⟩⟩
theorem Nod.below (h:Nod w0 W G q d) (hb:Below W.heap.size W W'):Nod w0 W' G q d:=by
 obtain ⟨F,a,b⟩:=h;exact ⟨F,a.below hb (Nat.le_refl _),b⟩
theorem Nod.turn (h:Nod w0 W G q d) (ht:Turn G G' W W'):Nod w0 W' G' q d:=by
 obtain ⟨F,a,b⟩:=h
 refine ⟨F,a.upd ht.upd fun k hk=>(b k hk).2,fun k hk=>⟨(b k hk).1,fun e=>?_⟩⟩
 rcases ht.sub k e with e|e
 ·exact (b k hk).2 e
 ·have:=a.lt k hk;omega
theorem Nod.go {d':Nd} {F:Nat->Prop} (hF:∀ k,F k->w0.heap.size<=k/\¬G k) (hg:NdGo W W' F q d') (hG:∀ k,G k->k<W.heap.size) (hs:w0.heap.size<=W.heap.size):Nod w0 W' G q d':=by
 obtain ⟨F',a,b,c⟩:=hg
 refine ⟨F',a,fun k hk=>?_⟩
 rcases b k hk with e|e
 ·exact hF k e
 ·exact ⟨by omega,fun e'=>by have:=hG k e';omega⟩
theorem RdN.below (h:RdN w0 W G q d) (hb:Below W.heap.size W W'):RdN w0 W' G q d:=by
 obtain ⟨F,a,b⟩:=h;exact ⟨F,a.upd (hb.upd' (Nat.le_refl _)) fun k _ _ e=>e,b⟩
theorem RdN.turn (h:RdN w0 W G q d) (ht:Turn G G' W W'):RdN w0 W' G' q d:=by
 obtain ⟨F,a,b⟩:=h
 have a':=a.upd ht.upd fun k hk _=>(b k hk).2
 obtain ⟨vk,vv,vi,x,y⟩:=a
 obtain ⟨vk',vv',vi',x',y'⟩:=a'
 refine ⟨fun k=>F k/\k<W.heap.size,⟨vk,vv,vi,?_,fun k hk=>⟨Nat.lt_of_lt_of_le (y k hk).1 ht.upd.size,(y k hk).2,(y k hk).1⟩⟩,fun k hk=>⟨(b k hk.1).1,fun e=>?_⟩⟩
 ·have c:=x.oth.upd ht.upd fun k hk=>⟨(y k hk).1,(b k (y k hk).2).2⟩
  exact ⟨c.blk,c.ks,c.vs,c.is⟩
 ·rcases ht.sub k e with e|e
  ·exact (b k hk.1).2 e
  ·have:=hk.2;omega
theorem RdN.view (h:RdN w0 W G q d):∃ vk vv vi,NdV W q d vk vv vi:=by
 obtain ⟨F,⟨vk,vv,vi,a,-⟩,-⟩:=h;exact ⟨vk,vv,vi,a⟩
end
theorem size_nd (q:Nat) (d:Nd) (vk vv vi:Value) (w:World) (h:NdV w q d vk vv vi) (hd:d.Ok) :
 Calls Tryz.prog 178 #[.pointer (some ⟨q,0,none⟩)] w fun e w'=>e=.returned (.int .i64 (d.size:Nat))/\w'=w :=
 size_c q d.isLeaf d.keys d.vals vk vv vi (0,0) w h.blk h.ks hd.pos (fun e=>⟨h.vs,d.vals_len e⟩) hd.key hd.val (Nat.le_of_lt hd.few)
theorem split_nd (F:Nat->Prop) (q:Nat) (d:Nd) (w:World) (h:IsNd w F q d) (hd:d.Ok) (h1:512<d.size) (h2:d.size<=666) :
 Calls Tryz.prog 179 #[.pointer (some ⟨q,0,none⟩)] w fun e w'=>∃ q1,e=.returned (.pointer (some ⟨q1,0,none⟩))/\Hid (∃ i,CutAt d i/\RdIn w' q (d.take i) F/\RdIn w' q1 (d.drop i) (fun k=>w.heap.size<=k)/\Upd F w w'):=by
 obtain ⟨vk,vv,vi,h⟩:=h
 have hcut:∀ i,i<=d.len->d.size / 2<=szUp d.isLeaf d.keys d.vals i->(0<i->szUp d.isLeaf d.keys d.vals (i-1)<d.size / 2)->CutAt d i/\0<i/\i<d.len:=fun i a b c=>by
  have hc:CutAt d i:=⟨a,b,c⟩
  have:=hc.fit hd.key hd.val h1 h2
  exact ⟨hc,this.1,this.2.1⟩
 cases d with
 | leaf l =>
   refine (split_leaf q (l.map Prod.fst) (l.map Prod.snd) vk vv vi w h.parts (by simp) hd.key hd.val (Nat.le_of_lt hd.few) (fun i a b c=>(hcut i a b c).2) hd.pos).mono ?_
   rintro e w' ⟨q1,rfl,i,g,cap,g2,cap2,b1,b2,b3,c0,c1,c2,c3,rfl,rfl,sp⟩
   refine ⟨q1,rfl,i,(hcut i (Nat.le_of_lt c1) c2 fun _=>c3).1,?_,?_,sp.up.mono fun k _ e=>(h.own k).2 (.inl e)⟩
   ·have hl1:∀ k,(Value.slice (some (⟨g,0,none⟩:Addr)) (l.map Prod.fst).length cap).ownBlock=some k->k<w.heap.size/\¬k=q:=fun k hk=>⟨(h.ks.lt k hk).2,fun e=>h.pk (by rw [<-e];exact hk)⟩
    have hl2:∀ k,(Value.slice (some (⟨g2,0,none⟩:Addr)) (l.map Prod.fst).length cap2).ownBlock=some k->k<w.heap.size/\¬k=q:=fun k hk=>⟨(h.vs.lt k hk).2,fun e=>h.pv (by rw [<-e];exact hk)⟩
    have hl3:∀ k,vi.ownBlock=some k->k<w.heap.size/\¬k=q:=fun k hk=>⟨(h.is.lt k hk).2,fun e=>h.pi (by rw [<-e];exact hk)⟩
    have r1:=((RRow.of_own h.ks).kept fun k hk=>sp.up.block k (hl1 k hk).1 (hl1 k hk).2).take (i:=i) (by simp [Nd.keys]) c1
    have r2:=((RRow.of_own h.vs).kept fun k hk=>sp.up.block k (hl2 k hk).1 (hl2 k hk).2).take (i:=i) (by simp [Nd.vals]) c1
    have r3:=(RRow.of_own h.is).kept fun k hk=>sp.up.block k (hl3 k hk).1 (hl3 k hk).2
    refine ⟨_,_,_,⟨sp.bp,?_,?_,?_⟩,fun k hk=>?_⟩
    ·simpa [Nd.keys,Nd.take,List.map_take] using r1
    ·simpa [Nd.vals,Nd.take,List.map_take] using r2
    ·exact r3
    ·have hs:=sp.up.size
     rcases hk with e|e|e|e
     ·exact ⟨by rw [e];exact lt_of_heap sp.bp,(h.own k).2 (.inl e)⟩
     ·exact ⟨Nat.lt_of_lt_of_le (hl1 k e).1 hs,(h.own k).2 (.inr (.inl e))⟩
     ·exact ⟨Nat.lt_of_lt_of_le (hl2 k e).1 hs,(h.own k).2 (.inr (.inr (.inl e)))⟩
     ·exact ⟨Nat.lt_of_lt_of_le (hl3 k e).1 hs,(h.own k).2 (.inr (.inr (.inr e)))⟩
   ·refine ⟨_,_,_,⟨sp.rq.blk,?_,?_,?_⟩,fun k hk=>⟨sp.rq.lt k hk,sp.nw k hk⟩⟩
    ·simpa [Nd.keys,Nd.drop,List.map_drop] using RRow.of_own sp.rq.ks
    ·simpa [Nd.vals,Nd.drop,List.map_drop] using RRow.of_own sp.rq.vs
    ·exact RRow.of_own sp.rq.is
 | inner l =>
   refine (split_inner q (l.map Prod.fst) (l.map Prod.snd) vk vv vi w h.parts (by simp) hd.key (Nat.le_of_lt hd.few) (fun i a b c=>(hcut i a b c).2) hd.pos).mono ?_
   rintro e w' ⟨q1,rfl,i,g,cap,g2,cap2,b1,b2,b3,c0,c1,c2,c3,rfl,rfl,sp⟩
   refine ⟨q1,rfl,i,(hcut i (Nat.le_of_lt c1) c2 fun _=>c3).1,?_,?_,sp.up.mono fun k _ e=>(h.own k).2 (.inl e)⟩
   ·have hl1:∀ k,(Value.slice (some (⟨g,0,none⟩:Addr)) (l.map Prod.fst).length cap).ownBlock=some k->k<w.heap.size/\¬k=q:=fun k hk=>⟨(h.ks.lt k hk).2,fun e=>h.pk (by rw [<-e];exact hk)⟩
    have hl2:∀ k,vv.ownBlock=some k->k<w.heap.size/\¬k=q:=fun k hk=>⟨(h.vs.lt k hk).2,fun e=>h.pv (by rw [<-e];exact hk)⟩
    have hl3:∀ k,(Value.slice (some (⟨g2,0,none⟩:Addr)) (l.map Prod.fst).length cap2).ownBlock=some k->k<w.heap.size/\¬k=q:=fun k hk=>⟨(h.is.lt k hk).2,fun e=>h.pi (by rw [<-e];exact hk)⟩
    have r1:=((RRow.of_own h.ks).kept fun k hk=>sp.up.block k (hl1 k hk).1 (hl1 k hk).2).take (i:=i) (by simp [Nd.keys]) c1
    have r2:=(RRow.of_own h.vs).kept fun k hk=>sp.up.block k (hl2 k hk).1 (hl2 k hk).2
    have r3:=((RRow.of_own h.is).kept fun k hk=>sp.up.block k (hl3 k hk).1 (hl3 k hk).2).take (i:=i) (by simp [Nd.kids]) c1
    refine ⟨_,_,_,⟨sp.bp,?_,?_,?_⟩,fun k hk=>?_⟩
    ·simpa [Nd.keys,Nd.take,List.map_take] using r1
    ·exact r2
    ·simpa [Nd.kids,Nd.take,List.map_take] using r3
    ·have hs:=sp.up.size
     rcases hk with e|e|e|e
     ·exact ⟨by rw [e];exact lt_of_heap sp.bp,(h.own k).2 (.inl e)⟩
     ·exact ⟨Nat.lt_of_lt_of_le (hl1 k e).1 hs,(h.own k).2 (.inr (.inl e))⟩
     ·exact ⟨Nat.lt_of_lt_of_le (hl2 k e).1 hs,(h.own k).2 (.inr (.inr (.inl e)))⟩
     ·exact ⟨Nat.lt_of_lt_of_le (hl3 k e).1 hs,(h.own k).2 (.inr (.inr (.inr e)))⟩
   ·refine ⟨_,_,_,⟨sp.rq.blk,?_,?_,?_⟩,fun k hk=>⟨sp.rq.lt k hk,sp.nw k hk⟩⟩
    ·simpa [Nd.keys,Nd.drop,List.map_drop] using RRow.of_own sp.rq.ks
    ·exact RRow.of_own sp.rq.vs
    ·have:=RRow.of_own sp.rq.is
     simp only [Nd.kids,Nd.drop,List.map_drop] at this ⊢
     exact this
theorem set_val {w:World} {F:Nat->Prop} {q:Nat} {A B:List (ByteArray × ByteArray)} {key v:ByteArray} (h:IsNd w F q (.leaf (A++(key,v)::B))) (val:ByteArray) :
 ∃ g cap,w.cell? ⟨q,2,none⟩=some (.slice (some ⟨g,0,none⟩) (A.length+1+B.length) cap)/\w.cell? ⟨g,A.length,none⟩=some (.string v)/\w.frozen? ⟨g,A.length,none⟩=false/\NdGo w (w.setCell ⟨g,A.length,none⟩ (.string val)) F q (.leaf (A++(key,val)::B)):=by
 obtain ⟨vk,vv,vi,h⟩:=h
 have hl:(Nd.leaf (A++(key,v)::B)).vals.length=A.length+1+B.length:=by simp [Nd.vals];omega
 have hr:=h.vs
 rw [hl] at hr
 rcases hr.2 with ⟨rfl,h0⟩|⟨g,cap,cur,rfl,-⟩
 ·omega
 have hgF:F g:=(h.own g).2 (.inr (.inr (.inl rfl)))
 have hgp:g≠q:=fun e=>h.pv (by rw [<-e];rfl)
 obtain ⟨s1,s2⟩:=World.ownsRow.stored hr A.length (.string val)
 have e1:((Nd.leaf (A++(key,v)::B)).vals.map Value.string).set A.length (.string val)=(Nd.leaf (A++(key,val)::B)).vals.map Value.string:=by simp [Nd.vals]
 rw [e1] at s1
 refine ⟨g,cap,cell_lit h.blk rfl,?_,hr.frozenAt _,F,⟨_,_,_,⟨?_,?_,?_,?_,h.pk,h.pv,h.pi,h.kv,h.ki,h.vi',h.own⟩⟩,fun k hk=>.inl hk,(Upd.refl _ _).setCell (p:=⟨g,A.length,none⟩) (.inl hgF) _⟩
 ·rw [hr.cellAt A.length (by omega)];simp [Nd.vals]
 ·exact (heap_set_ne _ (fun e=>hgp e.symm)).trans h.blk
 ·have:=row_set h.ks A.length (.string val) (p:=g) (fun e=>h.kv g e rfl)
  simpa [Nd.keys,Nd.len] using this
 ·have e2:(Nd.leaf (A++(key,val)::B)).vals.length=A.length+1+B.length:=by simp [Nd.vals];omega
  rw [e2];exact s1
 ·exact row_set h.is A.length (.string val) (p:=g) (fun e=>h.vi' g rfl e)
section
variable {w0 W:World} {G0 G:Nat->Prop} {tb rb place n m:Nat} {S:RS} {q:Nat} {d:Nd}
theorem tail_size (hN:Nod w0 W G q d) (hd:d.Ok):Calls Tryz.prog 178 #[.pointer (some ⟨q,0,none⟩)] W fun e w'=>e=.returned (.int .i64 (d.size:Nat))/\w'=W:=by
 obtain ⟨vk,vv,vi,a⟩:=hN.rd.view
 exact size_nd q d vk vv vi W a hd
theorem tail_write (hB:TBase w0 W G0 G tb rb place n m S) (p:Nat) (hN:RdN w0 W G q d) (hd:d.Ok) (hs:d.size<=512) (hu:S.used p=true) (hm:m<=3999000) :
 Calls Tryz.prog 176 #[.pointer (some ⟨tb,0,none⟩),.int .i64 (p:Int),.pointer (some ⟨q,0,none⟩)] W fun e w'=>e=.returned (.tuple #[])/\Hid (∃ G',TBase w0 w' G0 G' tb rb place n (m+1) (wrS S p d)/\Turn G G' W w'):=by
 obtain ⟨F,a,b⟩:=hN
 refine (write_c G F tb rb place n m S p q d W hB.room hB.blk hB.gt (by omega) hd hs a hu).mono ?_
 rintro e w' ⟨rfl,hg⟩
 exact ⟨rfl,hB.step hg⟩
theorem tail_split (hB:TBase w0 W G0 G tb rb place n m S) (hN:Nod w0 W G q d) (hd:d.Ok) (h1:512<d.size) (h2:d.size<=666) :
 Calls Tryz.prog 179 #[.pointer (some ⟨q,0,none⟩)] W fun e w'=>∃ q1,e=.returned (.pointer (some ⟨q1,0,none⟩))/\Hid (∃ i,CutAt d i/\TBase w0 w' G0 G tb rb place n m S/\RdN w0 w' G q (d.take i)/\RdN w0 w' G q1 (d.drop i)):=by
 obtain ⟨F,a,b⟩:=hN
 refine (split_nd F q d W a hd h1 h2).mono ?_
 rintro e w' ⟨q1,rfl,i,c,x,y,z⟩
 refine ⟨q1,rfl,i,c,hB.node z b,⟨F,x,b⟩,⟨_,y,fun k hk=>⟨Nat.le_trans hB.up.size hk,fun e=>?_⟩⟩⟩
 have:=hB.room.lt k e;omega
theorem tail_fresh (hB:TBase w0 W G0 G tb rb place n m S) (hN:RdN w0 W G q d) (hd:d.Ok) (hs:d.size<=512) (hm:m<=3999000) (hf:∃ r,r<pagesN n/\S.used r=false) :
 Calls Tryz.prog 127 #[.pointer (some ⟨tb,0,none⟩),.pointer (some ⟨q,0,none⟩)] W fun e w'=>∃ r:Nat,e=.returned (.int .i64 r)/\Hid (r<pagesN n/\S.used r=false/\∃ G',TBase w0 w' G0 G' tb rb place n (m+3) (wrS (allocS S r) r d)/\Turn G G' W w'):=by
 obtain ⟨F,a,b⟩:=hN
 refine (fresh_c G F tb rb place n m S q d W hB.room hB.blk hB.gt (by omega) hd hs a (fun k hk=>(b k hk).2) hf).mono ?_
 rintro e w' ⟨r,rfl,x,y,hg⟩
 exact ⟨r,rfl,x,y,hB.step hg⟩
end
theorem RdN.key0 {w0 W:World} {G:Nat->Prop} {q:Nat} {d:Nd} (h:RdN w0 W G q d) (hp:0<d.len) :
 ∃ g off nn cap,0<nn/\W.cell? ⟨q,1,none⟩=some (.slice (some ⟨g,off,none⟩) nn cap)/\W.cell? ⟨g,off,none⟩=some (.string (d.keys.getD 0 ByteArray.empty))/\q<W.heap.size/\g<W.heap.size/\¬G q/\¬G g:=by
 obtain ⟨F,⟨vk,vv,vi,a,b⟩,c⟩:=h
 obtain ⟨g,off,cap,rfl,hcap,hc⟩:=a.ks.lit (by simpa [Nd.len] using hp)
 have h0:=strs_at hc 0 hp
 refine ⟨g,off,_,cap,by simpa [Nd.len] using hp,cell_lit a.blk rfl,h0,lt_of_heap a.blk,World.block_lt_of_cell? W _ h0,(c q (b q (.inl rfl)).2).2,(c g (b g (.inr (.inl rfl))).2).2⟩
def PutPost (w w':World) (G:Nat->Prop) (rb n m:Nat) (S:RS) (h p:Nat) (t:PT h) (key val k:ByteArray) (q:Nat) (more:Bool):Prop :=
 ∃ S',StGo w w' G rb n m S'/\if more then ∃ t1 t2,PutTwo S S' h p t key val k q t1 t2 else k=ByteArray.empty/\q=0/\∃ t',PutOne S S' h p t key val t'
theorem TBase.more {w0 W:World} {G0 G:Nat->Prop} {tb rb place n m m':Nat} {S:RS} (h:TBase w0 W G0 G tb rb place n m S) (hm:m<=m'):TBase w0 W G0 G tb rb place n m' S:=⟨h.room.more hm,h.up,h.sub,h.blk,h.gt,h.tl⟩
theorem drewN_below (w:World) (q:Nat):Below w.heap.size w (w.drewN q):=Below.drewN (Below.refl _ _) q
theorem put_leaf (G:Nat->Prop) (tb rb place n m:Nat) (S:RS) (p:Nat) (t:PT 0) (key val:ByteArray) (deep:Nat) (w:World) (h:RmS w G rb n m S) (ht:TB w tb rb place) (hg:¬G tb) (hT:Tr S 0 p t) (hks:key.size<=96) (hvs:val.size<=56) (hdp:deep<=20) (hsp:Spare S n 1) (hm:m<=3998000) :
 Calls Tryz.prog 128 #[.pointer (some ⟨tb,0,none⟩),.int .i64 (p:Int),.string key,.string val,.int .i64 (deep:Int)] w fun e w'=>∃ (k:ByteArray) (q:Nat) (more:Bool),e=.returned (.tuple #[.string k,.int .i64 (q:Int),.bool more])/\Hid (PutPost w w' G rb n (m+4) S 0 p t key val k q more):=by
 have RD:=Hd (read_c G tb rb place n m S p (nd 0 t) w h ht (by omega) hT.ok hT.fit hT.on.top.1 hT.on.top.2)
 have B0:=Hd (TBase.start h ht hg)
 have HM1:Hid (m<=3999000):=Hd (by omega)
 have HM3:Hid (m+1<=3999000):=Hd (by omega)
 have HM2:Hid (m+1<=m+4):=Hd (by omega)
 have HM4:Hid (m+1+3<=m+4):=Hd (by omega)
 have HSP:Hid (Spare S n (0+1)):=Hd hsp
 have HG:=Hd h.lt
 have hd1:¬(20:Int)<(deep:Int):=by omega
 have HT:=Hd hT
 obtain ⟨A,B,rfl,hA,hB,hor⟩:=lb_split t key hT.wf.srt
 have hlen:(Nd.leaf (A++B)).len<=1000000:=Nat.le_of_lt (Nat.lt_trans hT.ok.few (by decide))
 have HL:=Hd hlen
 have HPOS:=Hd hT.pos
 have HA:=Hd hA
 have HB:=Hd hB
 have HKS:=Hd hks
 have HVS:=Hd hvs
 have HN4:Hid ((A++B).length<=90000):=Hd (by have:=hT.ok.few;rw [nd_len0] at this;exact Nat.le_of_lt (Nat.lt_trans this (by decide)))
 clear h ht hg hT hsp hm hlen hA hB hks hvs hdp
 rcases hor with ⟨v,B',rfl,hB'⟩|hB'
 ·have OV:=Hd (Over.leaf (val:=val) HT.out (.inr ⟨v,rfl⟩) HA.out hB' HKS.out HVS.out)
  clear hB'
  go_enter Tryz.func128,Tryz.ntmps128
  go_wp2_with fail
  refine RD.out.mono ?_
  rintro e w1 ⟨q,rfl,HQ⟩
  obtain ⟨F,x1,x2,x3⟩:=HQ.out
  have N1:=Hd (Nod.start (w0:=w) (G:=G) x1 x2 HG.out)
  have B1:=Hd (B0.out.below x3)
  obtain ⟨vk,vv,vi,hv1⟩:=N1.out.rd.view
  have c0:w1.cell? ⟨q,0,none⟩=some (.bool true):=cell_lit hv1.blk rfl
  have FD:=Hd (find_c true q (.leaf (A++(key,v)::B')) vk vv vi (A.map Prod.fst) (key::B'.map Prod.fst) key w1 hv1 (by simp [Nd.keys]) HPOS.out HL.out (fun a ha=>by obtain ⟨e,he,rfl⟩:=List.mem_map.1 ha;exact HA.out e he) (fun b hb=>by
   rcases List.mem_cons.1 hb with rfl|hb
   ·exact kless_irrefl _
   ·obtain ⟨e,he,rfl⟩:=List.mem_map.1 hb;exact HB.out e (by simp [he])) ⟨fun _=>⟨_,rfl⟩,fun _=>rfl⟩)
  rw [List.length_map] at FD
  clear x1 x2 x3 HQ hv1 RD B0
  go_wp2_with fail
  refine FD.out.mono ?_
  rintro e w2 ⟨rfl,qn,rfl⟩
  have N2:=N1.out.below (drewN_below w1 qn)
  have B2:=B1.out.below (drewN_below w1 qn)
  generalize w1.drewN qn=w2 at *
  obtain ⟨F2,y1,y2⟩:=N2
  obtain ⟨g2,cap2,s1,s2,s3,s4⟩:=set_val y1 val
  have NT:Hid (Nod w (w2.setCell ⟨g2,A.length,none⟩ (.string val)) G q (nd 0 (A++(key,val)::B'))):=Hd (Nod.go y2 s4 B2.room.lt B2.up.size)
  have BT:=Hd (B2.node (by obtain ⟨F',a,b,c⟩:=s4;exact c) y2)
  have hlt:(A.length:Int)<((A.length+1+B'.length:Nat):Int):=by omega
  clear y1 y2 s4 B2 N1 B1 FD c0
  go_wp2_with fail
  have TS:=Hd (tail_size NT.out OV.out.ok)
  refine TS.out.mono ?_
  rintro e w4 ⟨rfl,rfl⟩
  clear TS
  by_cases hsz:(nd 0 (A++(key,val)::B')).size<=512
  ·have TW:=Hd (tail_write BT.out p NT.out.rd OV.out.ok hsz OV.out.use HM1.out)
   have hI:(((nd 0 (A++(key,val)::B')).size:Nat):Int)<=512:=by omega
   have HSZ:=Hd hsz
   clear hsz
   go_wp2_with fail
   refine TW.out.mono ?_
   rintro e w5 ⟨rfl,HW⟩
   clear hI TW
   go_wp2_with fail
   go_ret3
   obtain ⟨G5,b5,-⟩:=HW.out
   exact ⟨ByteArray.empty,0,false,rfl,_,(b5.more HM2.out).go,rfl,rfl,_,OV.out.one HSZ.out⟩
  ·have TSp:=Hd (tail_split BT.out NT.out OV.out.ok (by omega) OV.out.siz)
   have hI:¬(((nd 0 (A++(key,val)::B')).size:Nat):Int)<=512:=by omega
   have HSZ:=Hd (show 512<(nd 0 (A++(key,val)::B')).size by omega)
   clear hsz
   go_wp2_with fail
   refine TSp.out.mono ?_
   rintro e w5 ⟨q1,rfl,HS⟩
   clear TSp hI NT BT
   obtain ⟨i,hc,b5,r1,r2⟩:=HS.out
   obtain ⟨z0,z1,z2,z3,z4⟩:=OV.out.cut HSZ.out hc
   obtain ⟨l1,l2⟩:=len_take (nd 0 (A++(key,val)::B')) i (Nat.le_of_lt z1)
   have ok1:((nd 0 (A++(key,val)::B')).take i).Ok:=by rw [<-nd_tk];exact ((OV.out.wf.cut i).1).ok (by rw [nd_tk,l1];exact z0) (by rw [nd_tk];omega)
   have ok2:((nd 0 (A++(key,val)::B')).drop i).Ok:=by rw [<-nd_dr];exact ((OV.out.wf.cut i).2).ok (by rw [nd_dr,l2];omega) (by rw [nd_dr];omega)
   have TW:=Hd (tail_write b5 p r1 ok1 z2 OV.out.use HM1.out)
   have R2:=Hd r2
   have OK2:=Hd ok2
   have HC:=Hd hc
   have HZ3:=Hd z3
   clear hc b5 r1 r2 z0 z1 z2 z3 z4 l1 l2 ok1 ok2 HS
   go_wp2_with fail
   refine TW.out.mono ?_
   rintro e w6 ⟨rfl,HW⟩
   clear TW
   obtain ⟨G6,b6,tn6⟩:=HW.out
   have r6:=R2.out.turn tn6
   obtain ⟨g,off,nn,cap,hnn,k1,k2,ql,gl,hgq,hgg⟩:=r6.key0 OK2.out.pos
   have FR:Hid (Calls Tryz.prog 127 #[.pointer (some ⟨tb,0,none⟩),.pointer (some ⟨q1,0,none⟩)] w6.drew fun e w'=>∃ r:Nat,e=.returned (.int .i64 (r:Int))/\(w'.cell? ⟨q1,1,none⟩=some (.slice (some ⟨g,off,none⟩) nn cap)/\w'.cell? ⟨g,off,none⟩=some (.string (((nd 0 (A++(key,val)::B')).drop i).keys.getD 0 ByteArray.empty)))/\Hid (PutPost w w' G rb n (m+4) S (0) p (A++(key,v)::B') key val (((nd 0 (A++(key,val)::B')).drop i).keys.getD 0 ByteArray.empty) r true)):=Hd (by
    have hd:=(Below.refl w6.heap.size w6).drew
    refine (tail_fresh (b6.below hd) (r6.below hd) OK2.out HZ3.out HM3.out HSP.out.free).mono ?_
    rintro e w' ⟨r,rfl,hr1,hr2,G7,b7,tn7⟩
    have hu:Upd G6 w6 w':=tn7.upd.drew_left
    refine ⟨r,rfl,⟨(World.cell?_of_block (hu.block q1 ql hgq)).trans k1,(World.cell?_of_block (hu.block g gl hgg)).trans k2⟩,⟨_,(b7.more HM4.out).go,?_⟩⟩
    have hrn:r<65536:=by have:=b7.room.bounds;unfold pagesN at hr1;omega
    have T:=OV.out.two HSZ.out HC.out hr2 hrn
    rw [nd_tk,nd_dr] at T
    rw [if_pos rfl]
    exact ⟨_,_,T⟩)
   have hnn':(0:Int)<(nn:Int):=by omega
   clear HW b6 tn6 r6 ql gl hgq hgg R2 HC HZ3
   generalize ((nd 0 (A++(key,val)::B')).drop i).keys.getD 0 ByteArray.empty=kk at *
   go_wp2_with fail
   go_region_held3 (fun w'=>w'.cell? ⟨q1,1,none⟩=some (.slice (some ⟨g,off,none⟩) nn cap)/\w'.cell? ⟨g,off,none⟩=some (.string kk)) (go_keep) ((go_at_call 127;refine Calls.at_args FR.out (by with_reducible rfl) ?_;rintro e w7 ⟨r,rfl,hk,HF⟩))
   all_goals go_wp2_with fail
   all_goals go_ret3
   all_goals exact ⟨kk,r,true,rfl,HF⟩
 ·have OV:=Hd (Over.leaf (val:=val) HT.out (.inl rfl) HA.out hB' HKS.out HVS.out)
  have HB2:=Hd hB'
  clear hB'
  go_enter Tryz.func128,Tryz.ntmps128
  go_wp2_with fail
  refine RD.out.mono ?_
  rintro e w1 ⟨q,rfl,HQ⟩
  obtain ⟨F,x1,x2,x3⟩:=HQ.out
  have N1:=Hd (Nod.start (w0:=w) (G:=G) x1 x2 HG.out)
  have B1:=Hd (B0.out.below x3)
  obtain ⟨vk,vv,vi,hv1⟩:=N1.out.rd.view
  have c0:w1.cell? ⟨q,0,none⟩=some (.bool true):=cell_lit hv1.blk rfl
  have FD:=Hd (find_c false q (.leaf (A++B)) vk vv vi (A.map Prod.fst) (B.map Prod.fst) key w1 hv1 (by simp [Nd.keys]) HPOS.out HL.out (fun a ha=>by obtain ⟨e,he,rfl⟩:=List.mem_map.1 ha;exact HA.out e he) (fun b hb=>by obtain ⟨e,he,rfl⟩:=List.mem_map.1 hb;exact HB.out e he) ⟨(fun e=>by cases e),(fun ⟨B',e⟩=>by
   have hm:key∈B.map Prod.fst:=by rw [e];simp
   obtain ⟨e',he,he2⟩:=List.mem_map.1 hm
   have:=HB2.out e' he
   rw [he2,kless_irrefl] at this;cases this)⟩)
  rw [List.length_map] at FD
  clear x1 x2 x3 HQ hv1 RD B0
  go_wp2_with fail
  refine FD.out.mono ?_
  rintro e w2 ⟨rfl,qn,rfl⟩
  have N2:=N1.out.below (drewN_below w1 qn)
  have B2:=B1.out.below (drewN_below w1 qn)
  generalize w1.drewN qn=w2 at *
  obtain ⟨F2,y1,y2⟩:=N2
  have IN:=Hd (insert_leaf F2 q A B key val 0 w2 y1 HN4.out)
  have Y2:=Hd y2
  have B2':=Hd B2
  clear y1 y2 B2 N1 B1 FD c0
  go_wp2_with fail
  refine IN.out.mono ?_
  rintro e w3 ⟨rfl,HI⟩
  have NT:Hid (Nod w w3 G q (nd 0 (A++(key,val)::B))):=Hd (Nod.go Y2.out HI.out B2'.out.room.lt B2'.out.up.size)
  have BT:=Hd (B2'.out.node (by obtain ⟨F',a,b,c⟩:=HI.out;exact c) Y2.out)
  clear IN Y2 B2' HI
  go_wp2_with fail
  have TS:=Hd (tail_size NT.out OV.out.ok)
  refine TS.out.mono ?_
  rintro e w4 ⟨rfl,rfl⟩
  clear TS
  by_cases hsz:(nd 0 (A++(key,val)::B)).size<=512
  ·have TW:=Hd (tail_write BT.out p NT.out.rd OV.out.ok hsz OV.out.use HM1.out)
   have hI:(((nd 0 (A++(key,val)::B)).size:Nat):Int)<=512:=by omega
   have HSZ:=Hd hsz
   clear hsz
   go_wp2_with fail
   refine TW.out.mono ?_
   rintro e w5 ⟨rfl,HW⟩
   clear hI TW
   go_wp2_with fail
   go_ret3
   obtain ⟨G5,b5,-⟩:=HW.out
   exact ⟨ByteArray.empty,0,false,rfl,_,(b5.more HM2.out).go,rfl,rfl,_,OV.out.one HSZ.out⟩
  ·have TSp:=Hd (tail_split BT.out NT.out OV.out.ok (by omega) OV.out.siz)
   have hI:¬(((nd 0 (A++(key,val)::B)).size:Nat):Int)<=512:=by omega
   have HSZ:=Hd (show 512<(nd 0 (A++(key,val)::B)).size by omega)
   clear hsz
   go_wp2_with fail
   refine TSp.out.mono ?_
   rintro e w5 ⟨q1,rfl,HS⟩
   clear TSp hI NT BT
   obtain ⟨i,hc,b5,r1,r2⟩:=HS.out
   obtain ⟨z0,z1,z2,z3,z4⟩:=OV.out.cut HSZ.out hc
   obtain ⟨l1,l2⟩:=len_take (nd 0 (A++(key,val)::B)) i (Nat.le_of_lt z1)
   have ok1:((nd 0 (A++(key,val)::B)).take i).Ok:=by rw [<-nd_tk];exact ((OV.out.wf.cut i).1).ok (by rw [nd_tk,l1];exact z0) (by rw [nd_tk];omega)
   have ok2:((nd 0 (A++(key,val)::B)).drop i).Ok:=by rw [<-nd_dr];exact ((OV.out.wf.cut i).2).ok (by rw [nd_dr,l2];omega) (by rw [nd_dr];omega)
   have TW:=Hd (tail_write b5 p r1 ok1 z2 OV.out.use HM1.out)
   have R2:=Hd r2
   have OK2:=Hd ok2
   have HC:=Hd hc
   have HZ3:=Hd z3
   clear hc b5 r1 r2 z0 z1 z2 z3 z4 l1 l2 ok1 ok2 HS
   go_wp2_with fail
   refine TW.out.mono ?_
   rintro e w6 ⟨rfl,HW⟩
   clear TW
   obtain ⟨G6,b6,tn6⟩:=HW.out
   have r6:=R2.out.turn tn6
   obtain ⟨g,off,nn,cap,hnn,k1,k2,ql,gl,hgq,hgg⟩:=r6.key0 OK2.out.pos
   have FR:Hid (Calls Tryz.prog 127 #[.pointer (some ⟨tb,0,none⟩),.pointer (some ⟨q1,0,none⟩)] w6.drew fun e w'=>∃ r:Nat,e=.returned (.int .i64 (r:Int))/\(w'.cell? ⟨q1,1,none⟩=some (.slice (some ⟨g,off,none⟩) nn cap)/\w'.cell? ⟨g,off,none⟩=some (.string (((nd 0 (A++(key,val)::B)).drop i).keys.getD 0 ByteArray.empty)))/\Hid (PutPost w w' G rb n (m+4) S (0) p (A++B) key val (((nd 0 (A++(key,val)::B)).drop i).keys.getD 0 ByteArray.empty) r true)):=Hd (by
    have hd:=(Below.refl w6.heap.size w6).drew
    refine (tail_fresh (b6.below hd) (r6.below hd) OK2.out HZ3.out HM3.out HSP.out.free).mono ?_
    rintro e w' ⟨r,rfl,hr1,hr2,G7,b7,tn7⟩
    have hu:Upd G6 w6 w':=tn7.upd.drew_left
    refine ⟨r,rfl,⟨(World.cell?_of_block (hu.block q1 ql hgq)).trans k1,(World.cell?_of_block (hu.block g gl hgg)).trans k2⟩,⟨_,(b7.more HM4.out).go,?_⟩⟩
    have hrn:r<65536:=by have:=b7.room.bounds;unfold pagesN at hr1;omega
    have T:=OV.out.two HSZ.out HC.out hr2 hrn
    rw [nd_tk,nd_dr] at T
    rw [if_pos rfl]
    exact ⟨_,_,T⟩)
   have hnn':(0:Int)<(nn:Int):=by omega
   clear HW b6 tn6 r6 ql gl hgq hgg R2 HC HZ3
   generalize ((nd 0 (A++(key,val)::B)).drop i).keys.getD 0 ByteArray.empty=kk at *
   go_wp2_with fail
   go_region_held3 (fun w'=>w'.cell? ⟨q1,1,none⟩=some (.slice (some ⟨g,off,none⟩) nn cap)/\w'.cell? ⟨g,off,none⟩=some (.string kk)) (go_keep) ((go_at_call 127;refine Calls.at_args FR.out (by with_reducible rfl) ?_;rintro e w7 ⟨r,rfl,hk,HF⟩))
   all_goals go_wp2_with fail
   all_goals go_ret3
   all_goals exact ⟨kk,r,true,rfl,HF⟩
theorem kids_at {w0 W:World} {G:Nat->Prop} {q:Nat} {l1 l2:List (ByteArray × Nat)} {x:ByteArray × Nat} (h:RdN w0 W G q (.inner (l1++x::l2))) :
 ∃ g off cap,W.cell? ⟨q,3,none⟩=some (.slice (some ⟨g,off,none⟩) (l1.length+1+l2.length) cap)/\W.cell? ⟨g,off+l1.length,none⟩=some (.int .i64 (x.2:Int)):=by
 obtain ⟨vk,vv,vi,a⟩:=h.view
 have hl:((Nd.inner (l1++x::l2)).kids.map encN).length=l1.length+1+l2.length:=by simp [Nd.kids];omega
 obtain ⟨g,off,cap,rfl,hcap,hc⟩:=a.is.lit (by simp [Nd.kids];omega)
 refine ⟨g,off,cap,?_,?_⟩
 ·have:=cell_lit (i:=3) a.blk rfl
  rw [<-hl];exact this
 ·have:=hc l1.length (by simp [Nd.kids])
  rw [this];simp [Nd.kids]
theorem way_nd {w0 W:World} {G:Nat->Prop} {h q:Nat} {A B:List (Kid h)} {x:Kid h} {key:ByteArray} (hN:RdN w0 W G q (nd (h+1) (A++x::B:List (Kid h)))) (hl:(nd (h+1) (A++x::B:List (Kid h))).len<=1000000) (hW:Way key A x B) (hA:∀ y∈A.tail,kless key y.1=false) :
 Calls Tryz.prog 166 #[.pointer (some ⟨q,0,none⟩),.string key] W fun e w'=>e=.returned (.int .i64 (A.length:Nat))/\Hid (Below W.heap.size W w'):=by
 obtain ⟨vk,vv,vi,a⟩:=hN.view
 have:=way_c q _ vk vv vi (A.map Prod.fst) (B.map Prod.fst) x.1 key W a (by simp [nd,Nd.keys,Function.comp_def]) hl (fun y hy=>?_) (fun b hb=>by obtain ⟨e,he,rfl⟩:=List.mem_map.1 hb;exact hW.2 e he)
 ·rw [List.length_map] at this;exact this
 ·cases A with
  | nil=>simp at hy
  | cons a A =>
    simp only [List.map_cons,List.cons_append,List.tail_cons,List.mem_append,List.mem_map,List.mem_singleton] at hy
    rcases hy with ⟨e,he,rfl⟩|rfl
    ·exact hA e he
    ·exact hW.1 (by simp)
theorem put_c:∀ (h:Nat) (G:Nat->Prop) (tb rb place n m:Nat) (S:RS) (p:Nat) (t:PT h) (key val:ByteArray) (deep:Nat) (w:World) (_:RmS w G rb n m S) (_:TB w tb rb place) (_:¬G tb) (_:Tr S h p t) (_:key.size<=96) (_:val.size<=56) (_:deep+h<=20) (_:Spare S n (h+1)) (_:m+4*(h+1)<=3998000),
 Calls Tryz.prog 128 #[.pointer (some ⟨tb,0,none⟩),.int .i64 (p:Int),.string key,.string val,.int .i64 (deep:Int)] w fun e w'=>∃ (k:ByteArray) (q:Nat) (more:Bool),e=.returned (.tuple #[.string k,.int .i64 (q:Int),.bool more])/\Hid (PutPost w w' G rb n (m+4*(h+1)) S h p t key val k q more)
 | 0,G,tb,rb,place,n,m,S,p,t,key,val,deep,w,h,ht,hg,hT,hks,hvs,hdp,hsp,hm=>put_leaf G tb rb place n m S p t key val deep w h ht hg hT hks hvs (by omega) hsp (by omega)
 | hh+1,G,tb,rb,place,n,m,S,p,t,key,val,deep,w,h,ht,hg,hT,hks,hvs,hdp,hsp,hm=>by
   have RD:=Hd (read_c G tb rb place n m S p (nd (hh+1) t) w h ht (by omega) hT.ok hT.fit hT.on.top.1 hT.on.top.2)
   have B0:=Hd (TBase.start h ht hg)
   have HM1:Hid (m+4*(hh+1)<=3999000):=Hd (by omega)
   have HM3:Hid (m+4*(hh+1)+1<=3999000):=Hd (by omega)
   have HM2:Hid (m+4*(hh+1)+1<=m+4*(hh+1+1)):=Hd (by omega)
   have HM4:Hid (m+4*(hh+1)+1+3<=m+4*(hh+1+1)):=Hd (by omega)
   have HM5:Hid (m+4*(hh+1)<=m+4*(hh+1+1)):=Hd (by omega)
   have HG:=Hd h.lt
   have hd1:¬(20:Int)<(deep:Int):=by omega
   have hd2:deep<=20:=by omega
   have hlenO:=hT.ok.few
   have hpos:=hT.pos
   rw [nd_lenS] at hpos
   obtain ⟨A,x,B,rfl,hW,hA⟩:=way_split t key (hT.wf.2.keys fun x hx=>ents_pos (hT.wf.1 x hx).2.2.2.2 (hT.wf.1 x hx).2.2.1) hpos
   have hk:=hT.kid (x:=x) (by simp)
   have IH:Hid (∀ W G2,TBase w W G G2 tb rb place n m S->Calls Tryz.prog 128 #[.pointer (some ⟨tb,0,none⟩),.int .i64 (x.2.1:Int),.string key,.string val,.int .i64 ((deep:Int)+1)] W fun e w'=>∃ (k:ByteArray) (q:Nat) (more:Bool),e=.returned (.tuple #[.string k,.int .i64 (q:Int),.bool more])/\Hid (PutPost W w' G2 rb n (m+4*(hh+1)) S hh x.2.1 x.2.2 key val k q more)):=Hd fun W G2 hB=>by
    have:=put_c hh G2 tb rb place n m S x.2.1 x.2.2 key val (deep+1) W hB.room hB.blk hB.gt hk hks hvs (by omega) (hsp.less (by omega)) (by omega)
    rw [show ((deep+1:Nat):Int)=(deep:Int)+1 by omega] at this
    exact this
   have HT:=Hd hT
   have HW:=Hd hW
   have HA:=Hd hA
   have HSP0:=Hd hsp
   have HLEN:=Hd hlenO
   clear h ht hg hT hsp hm hW hA hks hvs hdp hk hpos hlenO
   go_enter Tryz.func128,Tryz.ntmps128
   go_wp2_with fail
   refine RD.out.mono ?_
   rintro e w1 ⟨q,rfl,HQ⟩
   obtain ⟨F,x1,x2,x3⟩:=HQ.out
   have N1:=Hd (Nod.start (w0:=w) (G:=G) x1 x2 HG.out)
   have B1:=Hd (B0.out.below x3)
   obtain ⟨vk,vv,vi,hv1⟩:=N1.out.rd.view
   have c0:w1.cell? ⟨q,0,none⟩=some (.bool false):=cell_lit hv1.blk rfl
   have WN:=Hd (way_nd N1.out.rd (Nat.le_of_lt (Nat.lt_trans HLEN.out (by decide))) HW.out HA.out)
   clear x1 x2 x3 HQ hv1 RD B0
   go_wp2_with fail
   refine WN.out.mono ?_
   rintro e w2 ⟨rfl,hb⟩
   have N2:=Hd (N1.out.below hb.out)
   have B2:=Hd (B1.out.below hb.out)
   have hN2:=N2.out.rd
   rw [show nd (hh+1) (A++x::B:List (Kid hh))=.inner (A.map (fun x:Kid hh=>(x.1,x.2.1))++(x.1,x.2.1)::B.map (fun x:Kid hh=>(x.1,x.2.1))) by simp [nd]] at hN2
   obtain ⟨g3,off,cap3,k1,k2⟩:=kids_at hN2
   rw [List.length_map,List.length_map] at k1
   rw [List.length_map] at k2
   have hlt:(A.length:Int)<((A.length+1+B.length:Nat):Int):=by omega
   have hlA:A.length<=65536:=by have:=HLEN.out;rw [nd_lenS,List.length_append,List.length_cons] at this;omega
   have IH2:=Hd (IH.out w2 G B2.out)
   clear hN2 IH N1 B1 WN c0 hb
   go_wp2_with fail
   refine IH2.out.mono ?_
   rintro e w3 ⟨k,q2,more,rfl,HP⟩
   clear IH2 k1 k2
   cases more with
   | false =>
     obtain ⟨S',hgo,hif⟩:=HP.out
     rw [if_neg (by simp)] at hif
     obtain ⟨rfl,rfl,t',K⟩:=hif
     have HK:=Hd K
     obtain ⟨G3,b3,-⟩:=B2.out.step hgo
     have HB3:=Hd (b3.more HM5.out)
     clear hgo K b3 HP
     go_wp2_with fail
     go_ret3
     exact ⟨ByteArray.empty,0,false,rfl,_,HB3.out.go,rfl,rfl,_,HK.out.inner HT.out HW.out⟩
   | true =>
     obtain ⟨S3,hgo,hif⟩:=HP.out
     rw [if_pos rfl] at hif
     obtain ⟨t1,t2,K⟩:=hif
     have OV:=Hd (Over.inner HT.out HW.out K)
     have HSP:Hid (Spare S3 n (0+1)):=Hd (K.spr n 1 (HSP0.out.less (by omega)))
     obtain ⟨G3,b3,tn3⟩:=B2.out.step hgo
     obtain ⟨F2,y1,y2⟩:=N2.out.turn tn3
     rw [nd_of_mid] at y1
     have IN:=insert_inner F2 q ((A++[x]).map (fun x:Kid hh=>(x.1,x.2.1))) (B.map (fun x:Kid hh=>(x.1,x.2.1))) k ⟨#[]⟩ q2 w3 y1 (by have:=HLEN.out;rw [nd_lenS,List.length_append,List.length_cons] at this;simp;omega)
     rw [show ((((A++[x]).map (fun x:Kid hh=>(x.1,x.2.1))).length:Nat):Int)=(A.length:Int)+1 by simp,<-nd_two t1 t2 k q2] at IN
     have IN2:=Hd IN
     have Y2:=Hd y2
     have B3:=Hd b3
     clear y1 y2 b3 hgo K HP tn3 IN N2 B2
     go_wp2_with fail
     refine IN2.out.mono ?_
     rintro e w4' ⟨rfl,HI⟩
     have NT:Hid (Nod w w4' G3 q (nd (hh+1) (A++(x.1,x.2.1,t1)::(k,q2,t2)::B:List (Kid hh)))):=Hd (Nod.go Y2.out HI.out B3.out.room.lt B3.out.up.size)
     have BT:=Hd (B3.out.node (by obtain ⟨F',a,b,c⟩:=HI.out;exact c) Y2.out)
     clear IN2 Y2 B3 HI
     go_wp2_with fail
     have TS:=Hd (tail_size NT.out OV.out.ok)
     refine TS.out.mono ?_
     rintro e w4 ⟨rfl,rfl⟩
     clear TS
     by_cases hsz:(nd (hh+1) (A++(x.1,x.2.1,t1)::(k,q2,t2)::B:List (Kid hh))).size<=512
     ·have TW:=Hd (tail_write BT.out p NT.out.rd OV.out.ok hsz OV.out.use HM1.out)
      have hI:(((nd (hh+1) (A++(x.1,x.2.1,t1)::(k,q2,t2)::B:List (Kid hh))).size:Nat):Int)<=512:=by omega
      have HSZ:=Hd hsz
      clear hsz
      go_wp2_with fail
      refine TW.out.mono ?_
      rintro e w5 ⟨rfl,HW⟩
      clear hI TW
      go_wp2_with fail
      go_ret3
      obtain ⟨G5,b5,-⟩:=HW.out
      exact ⟨ByteArray.empty,0,false,rfl,_,(b5.more HM2.out).go,rfl,rfl,_,OV.out.one HSZ.out⟩
     ·have TSp:=Hd (tail_split BT.out NT.out OV.out.ok (by omega) OV.out.siz)
      have hI:¬(((nd (hh+1) (A++(x.1,x.2.1,t1)::(k,q2,t2)::B:List (Kid hh))).size:Nat):Int)<=512:=by omega
      have HSZ:=Hd (show 512<(nd (hh+1) (A++(x.1,x.2.1,t1)::(k,q2,t2)::B:List (Kid hh))).size by omega)
      clear hsz
      go_wp2_with fail
      refine TSp.out.mono ?_
      rintro e w5 ⟨q1,rfl,HS⟩
      clear TSp hI NT BT
      obtain ⟨i,hc,b5,r1,r2⟩:=HS.out
      obtain ⟨z0,z1,z2,z3,z4⟩:=OV.out.cut HSZ.out hc
      obtain ⟨l1,l2⟩:=len_take (nd (hh+1) (A++(x.1,x.2.1,t1)::(k,q2,t2)::B:List (Kid hh))) i (Nat.le_of_lt z1)
      have ok1:((nd (hh+1) (A++(x.1,x.2.1,t1)::(k,q2,t2)::B:List (Kid hh))).take i).Ok:=by rw [<-nd_tk];exact ((OV.out.wf.cut i).1).ok (by rw [nd_tk,l1];exact z0) (by rw [nd_tk];omega)
      have ok2:((nd (hh+1) (A++(x.1,x.2.1,t1)::(k,q2,t2)::B:List (Kid hh))).drop i).Ok:=by rw [<-nd_dr];exact ((OV.out.wf.cut i).2).ok (by rw [nd_dr,l2];omega) (by rw [nd_dr];omega)
      have TW:=Hd (tail_write b5 p r1 ok1 z2 OV.out.use HM1.out)
      have R2:=Hd r2
      have OK2:=Hd ok2
      have HC:=Hd hc
      have HZ3:=Hd z3
      clear hc b5 r1 r2 z0 z1 z2 z3 z4 l1 l2 ok1 ok2 HS
      go_wp2_with fail
      refine TW.out.mono ?_
      rintro e w6 ⟨rfl,HW⟩
      clear TW
      obtain ⟨G6,b6,tn6⟩:=HW.out
      have r6:=R2.out.turn tn6
      obtain ⟨g,off,nn,cap,hnn,k1,k2,ql,gl,hgq,hgg⟩:=r6.key0 OK2.out.pos
      have FR:Hid (Calls Tryz.prog 127 #[.pointer (some ⟨tb,0,none⟩),.pointer (some ⟨q1,0,none⟩)] w6.drew fun e w'=>∃ r:Nat,e=.returned (.int .i64 (r:Int))/\(w'.cell? ⟨q1,1,none⟩=some (.slice (some ⟨g,off,none⟩) nn cap)/\w'.cell? ⟨g,off,none⟩=some (.string (((nd (hh+1) (A++(x.1,x.2.1,t1)::(k,q2,t2)::B:List (Kid hh))).drop i).keys.getD 0 ByteArray.empty)))/\Hid (PutPost w w' G rb n (m+4*(hh+1+1)) S ((hh+1)) p (A++x::B:List (Kid hh)) key val (((nd (hh+1) (A++(x.1,x.2.1,t1)::(k,q2,t2)::B:List (Kid hh))).drop i).keys.getD 0 ByteArray.empty) r true)):=Hd (by
       have hd:=(Below.refl w6.heap.size w6).drew
       refine (tail_fresh (b6.below hd) (r6.below hd) OK2.out HZ3.out HM3.out HSP.out.free).mono ?_
       rintro e w' ⟨r,rfl,hr1,hr2,G7,b7,tn7⟩
       have hu:Upd G6 w6 w':=tn7.upd.drew_left
       refine ⟨r,rfl,⟨(World.cell?_of_block (hu.block q1 ql hgq)).trans k1,(World.cell?_of_block (hu.block g gl hgg)).trans k2⟩,⟨_,(b7.more HM4.out).go,?_⟩⟩
       have hrn:r<65536:=by have:=b7.room.bounds;unfold pagesN at hr1;omega
       have T:=OV.out.two HSZ.out HC.out hr2 hrn
       rw [nd_tk,nd_dr] at T
       rw [if_pos rfl]
       exact ⟨_,_,T⟩)
      have hnn':(0:Int)<(nn:Int):=by omega
      clear HW b6 tn6 r6 ql gl hgq hgg R2 HC HZ3
      generalize ((nd (hh+1) (A++(x.1,x.2.1,t1)::(k,q2,t2)::B:List (Kid hh))).drop i).keys.getD 0 ByteArray.empty=kk at *
      go_wp2_with fail
      go_region_held3 (fun w'=>w'.cell? ⟨q1,1,none⟩=some (.slice (some ⟨g,off,none⟩) nn cap)/\w'.cell? ⟨g,off,none⟩=some (.string kk)) (go_keep) ((go_at_call 127;refine Calls.at_args FR.out (by with_reducible rfl) ?_;rintro e w7 ⟨r,rfl,hk,HF⟩))
      all_goals go_wp2_with fail
      all_goals go_ret3
      all_goals exact ⟨kk,r,true,rfl,HF⟩
theorem guard_idle (p:Addr) (w:World) :
 CallsD Tryz.prog 124 #[.pointer (some p)] .returning w fun e u' w'=>e=.returned (.tuple #[])/\u'=.returning/\w'=w:=by
 refine callsD_of_wpS Tryz.func124 rfl fun c₀ cs hu=>?_
 apply wpS_seq
 apply wpS_region
 simp [wpOpsS,go_sem,recoverD,hu,Tryz.ntmps124,Exit.thenS]
 apply wpS_seq
 apply wpS_region
 simp [wpOpsS,go_sem,Exit.thenS]
 refine wpS_cond (t:=false) (by simp [Act.eval,Array.replicate]) ?_
 simp only [Bool.false_eq_true,if_false]
 refine wpS_of_wp (wp_skip ?_)
 cases c₀
 simp_all [bodyPostS,results,Tryz.results124]
theorem put1_idle (p t m:Addr) (u:FrameMode) (w:World) (h:w.cell? p=some (.int .i64 0)) :
 CallsD Tryz.prog 123 #[.pointer (some p),.pointer (some t),.pointer (some m)] u w fun e u' w'=>u'=u/\(e=.returned (.tuple #[])/\w'=w):=by
 go_enter_d Tryz.func123,Tryz.ntmps123
 go_wp2
 go_end0
 exact ⟨rfl,rfl⟩
theorem del1_idle (p a b c:Addr) (u:FrameMode) (w:World) (h:w.cell? p=some (.int .i64 0)) :
 CallsD Tryz.prog 129 #[.pointer (some p),.pointer (some a),.pointer (some b),.pointer (some c)] u w fun e u' w'=>u'=u/\(e=.returned (.tuple #[])/\w'=w):=by
 go_enter_d Tryz.func129,Tryz.ntmps129
 go_wp2
 go_end0
 exact ⟨rfl,rfl⟩
theorem scan1_idle (p a:Addr) (u:FrameMode) (w:World) (h:w.cell? p=some (.int .i64 0)) :
 CallsD Tryz.prog 141 #[.pointer (some p),.pointer (some a)] u w fun e u' w'=>u'=u/\(e=.returned (.tuple #[])/\w'=w):=by
 go_enter_d Tryz.func141,Tryz.ntmps141
 go_wp2
 go_end0
 exact ⟨rfl,rfl⟩
theorem pages1_idle (p a:Addr) (u:FrameMode) (w:World) (h:w.cell? p=some (.int .i64 0)) :
 CallsD Tryz.prog 149 #[.pointer (some p),.pointer (some a)] u w fun e u' w'=>u'=u/\(e=.returned (.tuple #[])/\w'=w):=by
 go_enter_d Tryz.func149,Tryz.ntmps149
 go_wp2
 go_end0
 exact ⟨rfl,rfl⟩
structure TT where
 h:Nat
 p:Nat
 t:PT h
def TreeSt (S:RS) (place:Nat):Option TT->Prop
 | none=>S.root place=0
 | some T=>S.root place=T.p+1/\Tr S T.h T.p T.t
def entsO:Option TT->List (ByteArray × ByteArray)
 | none=>[]
 | some T=>ents T.h T.t
def pgsO:Option TT->List Nat
 | none=>[]
 | some T=>pgs T.h T.p T.t
def singO:Option TT->Nat
 | none=>0
 | some T=>sing T.h T.t
def hgtO:Option TT->Nat
 | none=>0
 | some T=>T.h
def wtO:Option TT->Nat
 | none=>0
 | some T=>wt T.h T.t
def crO:Option TT->Nat
 | none=>6
 | some T=>if T.h=0 then 6 else 4*T.h+min 6 (nd T.h T.t).len
structure FrmT (place:Nat) (P P':List Nat) (S S':RS):Prop where
 keep:∀ q,q ∉ P->S.used q=true->q ∉ P'/\S'.used q=true/\S'.cont q=S.cont q
 back:∀ q,S'.used q=true->q∈P'\/(S.used q=true/\q ∉ P)
 root:∀ k,k≠place->S'.root k=S.root k
theorem Frm.toT {P P':List Nat} {S S':RS} (place v:Nat) (h:Frm P P' S S'):FrmT place P P' S (setRootS S' place v) :=
 ⟨h.keep,h.back,fun k hk=>by show upd S'.root place v k=_;unfold upd;rw [if_neg hk,h.root]⟩
theorem Frm.toT' {P P':List Nat} {S S':RS} (place:Nat) (h:Frm P P' S S'):FrmT place P P' S S':=⟨h.keep,h.back,fun k _=>by rw [h.root]⟩
theorem Tr.root {S:RS} {h p:Nat} {t:PT h} (H:Tr S h p t) (place v:Nat):Tr (setRootS S place v) h p t:=H.frame fun q _=>⟨rfl,rfl⟩
theorem setRoot_at (S:RS) (place v:Nat):(setRootS S place v).root place=v:=by show upd S.root place v place=v;unfold upd;rw [if_pos rfl]
theorem mark_s (G:Nat->Prop) (rb n m:Nat) (S:RS) (w:World) (h:RmS w G rb n m S):Calls Tryz.prog 114 #[.pointer (some ⟨rb,0,none⟩)] w fun e w'=>∃ k:Nat,e=.returned (.int .i64 (k:Int))/\w'=w:=by
 obtain ⟨puts,h1,h2,h3⟩:=h
 refine (RMark_c G rb n puts w h2).mono ?_
 rintro e w' ⟨rfl,rfl⟩
 exact ⟨_,rfl,rfl⟩
theorem heap_alloc_at (w:World) (o:Obj) (k:Nat):(w.alloc o).heap[k]?=if k=w.heap.size then some o else w.heap[k]?:=by
 by_cases h:k=w.heap.size
 ·rw [if_pos h,h];exact heap_alloc_new w o
 ·rw [if_neg h];show (w.heap.push o)[k]?=_;rw [Array.getElem?_push,if_neg h]
theorem heap_drew (w:World) (k:Nat):w.drew.heap[k]?=w.heap[k]?:=rfl
structure PutLoc (W:World) (b tb:Nat):Prop where
 b0:W.heap[b]?=some (.cells #[.pointer (some ⟨tb,0,none⟩)] 103 (0,0))
 b1:W.heap[b+1]?=some (.cells #[.int .i64 0] 34 (0,0))
theorem PutLoc.upd {W W':World} {b tb:Nat} {G:Nat->Prop} (h:PutLoc W b tb) (hu:Upd G W W') (h0:¬G b) (h1:¬G (b+1)):PutLoc W' b tb :=
 ⟨hu.at h.b0 h0,hu.at h.b1 h1⟩
theorem PutLoc.below {W W':World} {b tb:Nat} (h:PutLoc W b tb) (hb:Below W.heap.size W W'):PutLoc W' b tb:=h.upd (hb.upd' (Nat.le_refl _)) (fun e=>e) (fun e=>e)
theorem PutLoc.cells {W:World} {b tb:Nat} (h:PutLoc W b tb):W.cell? ⟨b,0,none⟩=some (.pointer (some ⟨tb,0,none⟩))/\W.cell? ⟨b+1,0,none⟩=some (.int .i64 0)/\W.frozen? ⟨b+1,0,none⟩=false/\b<W.heap.size/\b+1<W.heap.size :=
 ⟨cell_lit h.b0 rfl,cell_lit h.b1 rfl,frozen_lit h.b1 0,lt_of_heap h.b0,lt_of_heap h.b1⟩
def putW (w:World) (tb:Nat) (k:Int):World:=((w.alloc (.cells #[.pointer (some ⟨tb,0,none⟩)] 103)).alloc (.cells #[.int .i64 0] 34)).alloc (.cells #[.int .i64 k] 3)
theorem putW_below (w:World) (tb:Nat) (k:Int):Below w.heap.size w (putW w tb k):=(((Below.refl w.heap.size w).alloc (Nat.le_refl _) _).alloc (by simp) _).alloc (by simp;omega) _
theorem putW_size (w:World) (tb:Nat) (k:Int):(putW w tb k).heap.size=w.heap.size+3:=by unfold putW;simp
theorem putW_loc (w:World) (tb:Nat) (k:Int):PutLoc (putW w tb k) w.heap.size tb:=by
 refine ⟨?_,?_⟩
 ·unfold putW;rw [heap_alloc_at,if_neg (by simp;omega),heap_alloc_at,if_neg (by simp),heap_alloc_new]
 ·unfold putW;rw [heap_alloc_at,if_neg (by simp),heap_alloc_at,if_pos (by simp)]
theorem TBase.fin {w W0 W:World} {G G':Nat->Prop} {tb rb place n m:Nat} {S:RS} (h:TBase W0 W G G' tb rb place n m S) (hb:Below w.heap.size w W0) (hG:∀ k,G k->k<w.heap.size) {x:Nat} (hx:w.heap.size<=x) (hx2:x<W0.heap.size) (i:Nat) (v:Value) :
 StGo w (W.setCell ⟨x,i,none⟩ v) G rb n m S:=by
 have hnx:¬G' x:=fun e=>by
  rcases h.sub x e with e|e
  ·have:=hG x e;omega
  ·omega
 have hu:Upd (fun k=>k=x) W (W.setCell ⟨x,i,none⟩ v):=Upd.setCell (S:=fun k=>k=x) (Upd.refl _ _) (p:=⟨x,i,none⟩) (.inl rfl) v
 refine ⟨G',h.room.frame hu fun k hk e=>hnx (e ▸ hk),?_,fun k hk=>?_⟩
 ·have u1:Upd G w W:=((hb.upd' (Nat.le_refl _)).mono (S':=G) fun _ _ e=>False.elim e).trans h.up
  exact u1.trans' hu fun j hj e=>absurd e (by omega)
 ·rcases h.sub k hk with e|e
  ·exact .inl e
  ·have:=hb.size;exact .inr (by omega)
structure MapGo (place n:Nat) (S S':RS) (o o':Option TT):Prop where
 st:TreeSt S' place o'
 frm:FrmT place (pgsO o) (pgsO o') S S'
def PutGo (place n:Nat) (S S':RS) (o o':Option TT) (key val:ByteArray):Prop :=
 MapGo place n S S' o o'/\Ins key val (entsO o) (entsO o')/\singO o'<=singO o/\hgtO o'<=hgtO o+1/\(∀ c,Spare S n (c+hgtO o+2)->Spare S' n c)/\crO o'<=crO o+1/\(hgtO o'<=hgtO o\/6*hgtO o+3<=(pgsO o').length)/\wtO o'<=wtO o+1
theorem pgs_many:∀ {h p:Nat} {t:PT h} (_:Wf h t),1+(nd h t).len*h<=(pgs h p t).length
 | 0,_,_,_=>by simp [pgs]
 | h+1,p,l,H=>by
   obtain ⟨l',hl⟩:∃ l':List (Kid h),l'=l:=⟨l,rfl⟩
   subst hl
   have hs:∀ (l:List (Kid h)) (_:∀ x∈l,0<(nd h x.2.2).len/\Wf h x.2.2),l.length*(h+1)<=(List.flatMap (fun x:Kid h=>pgs h x.2.1 x.2.2) l).length:=by
    intro l
    induction l with
    | nil=>intro _;simp
    | cons x l ih =>
      intro hx
      have h1:=pgs_many (p:=x.2.1) (hx x (by simp)).2
      have h2:=(hx x (by simp)).1
      have h3:=ih fun y hy=>hx y (by simp [hy])
      have h4:h<=(nd h x.2.2).len*h:=Nat.le_mul_of_pos_left h h2
      rw [List.flatMap_cons,List.length_append,List.length_cons,Nat.add_mul]
      omega
   have:=hs l' fun x hx=>⟨(H.1 x hx).2.2.1,(H.1 x hx).2.2.2.2⟩
   rw [nd_lenS,pgs_low,List.length_cons,Nat.add_comm]
   exact Nat.succ_le_succ this
theorem new_leaf {S:RS} {n place r:Nat} {key val:ByteArray} (hr:S.root place=0) (hks:key.size<=96) (hvs:val.size<=56) (hu:S.used r=false) :
 PutGo place n S (setRootS (wrS (allocS S r) r (.leaf [(key,val)])) place (r+1)) none (some ⟨0,r,[(key,val)]⟩) key val:=by
 have hw:Wf 0 [(key,val)]:=⟨fun e he=>by simp at he;rw [he];exact ⟨hks,hvs⟩,List.pairwise_singleton _ _⟩
 have T:=Tr.fresh (S:=S) (h:=0) (p:=r) (t:=[(key,val)]) hw (by rw [nd_len0];exact Nat.zero_lt_one) (by rw [nd_leaf,size_leaf];simp [esL];omega) trivial (by simp [low]) hu
 have f:=(Frm.alloc [] S r hu).trans (Frm.write [r] _ r (nd 0 [(key,val)]) (by simp))
 refine ⟨⟨⟨setRoot_at _ _ _,T.root place (r+1)⟩,f.toT place (r+1)⟩,⟨[],[],rfl,.inl rfl,by simp,by simp⟩,Nat.le_refl _,by simp [hgtO],fun c hc=>?_,by simp [crO],.inl (by simp [hgtO]),by simp [wtO,wt]⟩
 exact ((hc.less (by omega):Spare S n (c+1)).alloc hu)
theorem new_root {S S1:RS} {n place r h p:Nat} {t:PT h} {key val k:ByteArray} {q:Nat} {t1 t2:PT h} (K:PutTwo S S1 h p t key val k q t1 t2) (hp:p<65536) (hu:S1.used r=false) :
 PutGo place n S (setRootS (wrS (allocS S1 r) r (.inner [(ByteArray.empty,p),(k,q)])) place (r+1)) (some ⟨h,p,t⟩) (some ⟨h+1,r,[(ByteArray.empty,p,t1),(k,q,t2)]⟩) key val:=by
 have hw:Wf (h+1) [(ByteArray.empty,p,t1),(k,q,t2)]:=by
  refine ⟨fun x hx=>?_,?_,?_⟩
  ·simp at hx
   rcases hx with rfl|rfl
   ·exact ⟨(by show ByteArray.empty.size<=96;decide),hp,K.tr1.pos,K.tr1.fit,K.tr1.wf⟩
   ·exact ⟨K.ksz,K.qlt,K.tr2.pos,K.tr2.fit,K.tr2.wf⟩
  ·refine List.pairwise_cons.2 ⟨fun y hy=>?_,List.pairwise_singleton _ _⟩
   simp at hy;subst hy;exact K.lo
  ·intro y hy;simp at hy;subst hy;exact K.hi
 have hk:Kids S1 (h+1) [(ByteArray.empty,p,t1),(k,q,t2)]:=fun x hx=>by
  simp at hx
  rcases hx with rfl|rfl
  ·exact K.tr1.on
  ·exact K.tr2.on
 have hn:(low (h+1) [(ByteArray.empty,p,t1),(k,q,t2)]).Nodup:=by simpa [low] using K.nod
 have e:nd (h+1) [(ByteArray.empty,p,t1),(k,q,t2)]=.inner [(ByteArray.empty,p),(k,q)]:=rfl
 have T:=Tr.fresh (S:=S1) (p:=r) hw (by rw [nd_lenS];exact Nat.zero_lt_succ _) (by rw [e,size_inner];have:=K.ksz;simp [esI];omega) hk hn hu
 rw [e] at T
 have f:=(K.frm.trans (Frm.alloc _ S1 r hu)).trans (Frm.write _ _ r (.inner [(ByteArray.empty,p),(k,q)]) (by simp))
 have hpg:pgs (h+1) r [(ByteArray.empty,p,t1),(k,q,t2)]=r::(pgs h p t1++pgs h q t2):=by simp [pgs]
 refine ⟨⟨⟨setRoot_at _ _ _,T.root place (r+1)⟩,?_⟩,?_,?_,Nat.le_refl _,fun c hc=>?_,?_,.inr ?_,?_⟩
 ·show FrmT place (pgs h p t) (pgs (h+1) r _) S _
  rw [hpg];exact f.toT place (r+1)
 ·show Ins key val (ents h t) (ents (h+1) [(ByteArray.empty,p,t1),(k,q,t2)])
  have:ents (h+1) [(ByteArray.empty,p,t1),(k,q,t2)]=ents h t1++ents h t2:=by simp [ents]
  rw [this];exact K.ins
 ·have:=K.sng
  show sing (h+1) [(ByteArray.empty,p,t1),(k,q,t2)]<=sing h t
  simp [sing];exact this
 ·exact ((K.spr n (c+1) (by have:hgtO (some ⟨h,p,t⟩)=h:=rfl;rw [this] at hc;exact hc.less (by omega))).alloc hu)
 ·have e1:(nd (h+1) [(ByteArray.empty,p,t1),(k,q,t2)]).len=2:=by rw [nd_lenS];rfl
  show (if h+1=0 then 6 else 4*(h+1)+min 6 (nd (h+1) [(ByteArray.empty,p,t1),(k,q,t2)]).len)<=(if h=0 then 6 else 4*h+min 6 (nd h t).len)+1
  rw [e1]
  by_cases h0:h=0
  ·subst h0;simp
  ·have:=K.five (by omega)
   rw [if_neg h0,if_neg (by omega)];omega
 ·have g1:=pgs_many (p:=p) K.tr1.wf
  have g2:=pgs_many (p:=q) K.tr2.wf
  show 6*h+3<=(pgs (h+1) r [(ByteArray.empty,p,t1),(k,q,t2)]).length
  rw [hpg,List.length_cons,List.length_append]
  by_cases h0:h=0
  ·subst h0;omega
  ·have g3:=Nat.mul_le_mul_right h (K.six (by omega))
   rw [Nat.add_mul] at g3
   omega
 ·obtain ⟨u1,u2,u3⟩:=K.wtU
  show wt (h+1) ([(ByteArray.empty,p,t1),(k,q,t2)]:List (Kid h))<=wt h t+1
  rw [wt_cons,wt_cons]
  show max (2 ^ h) (wt h t1)+(max (2 ^ h) (wt h t2)+0)<=_
  rw [Nat.max_eq_right u2,Nat.max_eq_right u3];omega
theorem old_root {S S1:RS} {n place h p:Nat} {t t':PT h} {key val:ByteArray} (K:PutOne S S1 h p t key val t') (hr:S.root place=p+1) :
 PutGo place n S S1 (some ⟨h,p,t⟩) (some ⟨h,p,t'⟩) key val :=
 ⟨⟨⟨by rw [K.frm.root];exact hr,K.tr⟩,K.frm.toT' place⟩,K.ins,K.sng,by simp [hgtO],fun c hc=>K.spr n c (by have:hgtO (some ⟨h,p,t⟩)=h:=rfl;rw [this] at hc;exact hc.less (by omega)),by
  show (if h=0 then 6 else 4*h+min 6 (nd h t').len)<=(if h=0 then 6 else 4*h+min 6 (nd h t).len)+1
  have:=K.lenU
  split <;> omega,.inl (by simp [hgtO]),K.wtU⟩
theorem rd_leaf {w0 W:World} {G:Nat->Prop} {q a b:Nat} {key val:ByteArray} (h:W.heap[q]?=some (.cells #[.bool true,.slice (some ⟨a,0,none⟩) 1 1,.slice (some ⟨b,0,none⟩) 1 1,.slice none 0 0] 222 (0,0))) (ha:W.heap[a]?=some (.cells #[.string key] 9 (0,0))) (hb:W.heap[b]?=some (.cells #[.string val] 9 (0,0)))
 (hn:w0.heap.size<=q/\w0.heap.size<=a/\w0.heap.size<=b) (hG:∀ k,G k->k<w0.heap.size):RdN w0 W G q (.leaf [(key,val)]):=by
 refine ⟨fun k=>w0.heap.size<=k,⟨_,_,_,⟨h,?_,?_,.inl ⟨rfl,rfl⟩⟩,fun k hk=>?_⟩,fun k hk=>⟨hk,fun e=>by have:=hG k e;omega⟩⟩
 ·exact .inr ⟨a,0,1,rfl,by simp [Nd.keys],fun i hi=>by
   have:i=0:=by simpa [Nd.keys] using hi
   subst this;exact cell_lit ha rfl⟩
 ·exact .inr ⟨b,0,1,rfl,by simp [Nd.vals],fun i hi=>by
   have:i=0:=by simpa [Nd.vals] using hi
   subst this;exact cell_lit hb rfl⟩
 ·rcases hk with e|e|e|e
  ·exact ⟨by rw [e];exact lt_of_heap h,by rw [e];exact hn.1⟩
  ·simp [Value.ownBlock] at e;subst e;exact ⟨lt_of_heap ha,hn.2.1⟩
  ·simp [Value.ownBlock] at e;subst e;exact ⟨lt_of_heap hb,hn.2.2⟩
  ·simp [Value.ownBlock] at e
theorem rd_root {w0 W:World} {G:Nat->Prop} {q a b p r:Nat} {k:ByteArray} (h:W.heap[q]?=some (.cells #[.bool false,.slice (some ⟨a,0,none⟩) 2 2,.slice none 0 0,.slice (some ⟨b,0,none⟩) 2 2] 222 (0,0))) (ha:W.heap[a]?=some (.cells #[.string ⟨#[]⟩,.string k] 9 (0,0))) (hb:W.heap[b]?=some (.cells #[.int .i64 (p:Int),.int .i64 (r:Int)] 3 (0,0)))
 (hn:w0.heap.size<=q/\w0.heap.size<=a/\w0.heap.size<=b) (hG:¬G q/\¬G a/\¬G b):RdN w0 W G q (.inner [(ByteArray.empty,p),(k,r)]):=by
 refine ⟨fun j=>j=q\/j=a\/j=b,⟨_,_,_,⟨h,?_,.inl ⟨rfl,rfl⟩,?_⟩,fun k hk=>?_⟩,fun j hj=>?_⟩
 ·exact .inr ⟨a,0,2,rfl,by simp [Nd.keys],fun i hi=>by
   have:i=0\/i=1:=by have:i<2:=by simpa [Nd.keys] using hi
                     omega
   rcases this with rfl|rfl
   ·exact cell_lit ha rfl
   ·exact cell_lit ha rfl⟩
 ·exact .inr ⟨b,0,2,rfl,by simp [Nd.kids],fun i hi=>by
   have:i=0\/i=1:=by have:i<2:=by simpa [Nd.kids] using hi
                     omega
   rcases this with rfl|rfl
   ·exact cell_lit hb rfl
   ·exact cell_lit hb rfl⟩
 ·rcases hk with e|e|e|e
  ·exact ⟨by rw [e];exact lt_of_heap h,.inl e⟩
  ·simp [Value.ownBlock] at e;subst e;exact ⟨lt_of_heap ha,.inr (.inl rfl)⟩
  ·simp [Value.ownBlock] at e
  ·simp [Value.ownBlock] at e;subst e;exact ⟨lt_of_heap hb,.inr (.inr rfl)⟩
 ·rcases hj with rfl|rfl|rfl
  ·exact ⟨hn.1,hG.1⟩
  ·exact ⟨hn.2.1,hG.2.1⟩
  ·exact ⟨hn.2.2,hG.2.2⟩
theorem loc_of {w W0 W:World} {G G':Nat->Prop} {tb rb place n m:Nat} {S:RS} {b:Nat} (hL:PutLoc W0 b tb) (hB:TBase W0 W G G' tb rb place n m S) (h0:¬G b) (h1:¬G (b+1)):PutLoc W b tb:=hL.upd hB.up h0 h1
theorem alloc3 (w:World) (o1 o2 o3:Obj):(((w.alloc o1).alloc o2).alloc o3).drew.heap[w.heap.size]?=some o1/\(((w.alloc o1).alloc o2).alloc o3).drew.heap[w.heap.size+1]?=some o2/\(((w.alloc o1).alloc o2).alloc o3).drew.heap[w.heap.size+1+1]?=some o3/\Below w.heap.size w (((w.alloc o1).alloc o2).alloc o3).drew:=by
 refine ⟨?_,?_,?_,((((Below.refl w.heap.size w).alloc (Nat.le_refl _) _).alloc (by simp) _).alloc (by simp;omega) _).drew⟩
 ·rw [heap_drew,heap_alloc_at,if_neg (by simp;omega),heap_alloc_at,if_neg (by simp),heap_alloc_new]
 ·rw [heap_drew,heap_alloc_at,if_neg (by simp),heap_alloc_at,if_pos (by simp)]
 ·rw [heap_drew,heap_alloc_at,if_pos (by simp)]
theorem setRoot_t {w0 W:World} {G0 G:Nat->Prop} {tb rb place n m:Nat} {S:RS} (hB:TBase w0 W G0 G tb rb place n m S) (hp:place<16) (hm:m<=3999000) (r:Nat) (hr:r<65536) :
 Calls Tryz.prog 126 #[.pointer (some ⟨tb,0,none⟩),.int .i64 (r:Int)] W fun e w'=>e=.returned (.tuple #[])/\Hid (∃ G',TBase w0 w' G0 G' tb rb place n (m+1) (setRootS S place (r+1))/\Turn G G' W w'):=by
 have:=setRoot_c G tb rb place n m S (r+1) W hB.room hB.blk hB.gt hp (by omega) (by omega)
 rw [show (((r+1:Nat):Int)-1)=(r:Int) by omega] at this
 refine this.mono ?_
 rintro e w' ⟨rfl,hg⟩
 exact ⟨rfl,hB.step hg⟩
def PutEnd (w w':World) (G:Nat->Prop) (rb n m place:Nat) (S:RS) (o:Option TT) (key val:ByteArray):Prop:=∃ S' o',StGo w w' G rb n (m+100) S'/\PutGo place n S S' o o' key val
theorem Put_new (G:Nat->Prop) (tb rb place n m:Nat) (S:RS) (key val:ByteArray) (w:World) (h:RmS w G rb n m S) (ht:TB w tb rb place) (hg:¬G tb) (hp:place<16) (hm:m<=3900000) (hks:key.size<=96) (hvs:val.size<=56) (hr:S.root place=0) (hsp:Spare S n 1) :
 Calls Tryz.prog 71 #[.pointer (some ⟨tb,0,none⟩),.string key,.string val] w fun e w'=>e=.returned (.int .i64 0)/\Hid (PutEnd w w' G rb n m place S none key val):=by
 have hmf:∀ (fn:Fn) (first cap:Array Value) (w:World),(Instr.makeFunc fn first cap).run Tryz.prog w=.ok (.func fn first cap) w:=fun _ _ _ _=>rfl
 have htl:=lt_of_heap ht
 obtain ⟨c0,c1⟩:=ht.cells
 have hb3:=fun k=>putW_below w tb k
 have d0:(((w.alloc (.cells #[.pointer (some ⟨tb,0,none⟩)] 103)).alloc (.cells #[.int .i64 0] 34)).alloc (.cells #[.int .i64 0] 3)).cell? ⟨tb,0,none⟩=some (.pointer (some ⟨rb,0,none⟩)):=(World.cell?_of_block ((hb3 0).block tb htl)).trans c0
 have M3:Hid (Calls Tryz.prog 114 #[.pointer (some ⟨rb,0,none⟩)] (((w.alloc (.cells #[.pointer (some ⟨tb,0,none⟩)] 103)).alloc (.cells #[.int .i64 0] 34)).alloc (.cells #[.int .i64 0] 3)) fun e w'=>∃ k:Nat,e=.returned (.int .i64 (k:Int))/\w'=(((w.alloc (.cells #[.pointer (some ⟨tb,0,none⟩)] 103)).alloc (.cells #[.int .i64 0] 34)).alloc (.cells #[.int .i64 0] 3))):=Hd (mark_s G rb n m S _ (h.below (hb3 0)))
 have hk1:¬(96:Int)<(key.size:Int):=by omega
 have hk2:¬(56:Int)<(val.size:Int):=by omega
 have HG:=Hd h.lt
 have HSP:=Hd hsp
 have HKS:=Hd hks
 have HVS:=Hd hvs
 have HR:=Hd hr
 have B0:Hid (∀ k:Int,TBase (putW w tb k) (putW w tb k) G G tb rb place n m S):=Hd fun k=>TBase.start (h.below (hb3 k)) (ht.below (hb3 k)) hg
 have HP:=Hd hp
 have HM:=Hd hm
 clear h ht hg hp hm hks hvs hr hsp hb3 c1
 go_enter_defers Tryz.func71,Tryz.ntmps71
 go_wp2_with fail
 refine M3.out.mono ?_
 rintro e w1 ⟨k,rfl,rfl⟩
 clear M3 d0
 go_wp2_with fail
 have BW:=Hd (B0.out (k:Int))
 have LW:=Hd (putW_loc w tb (k:Int))
 have SW:=Hd (putW_size w tb (k:Int))
 have BB:=Hd (putW_below w tb (k:Int))
 change Calls Tryz.prog 125 #[.pointer (some ⟨tb,0,none⟩)] (putW w tb (k:Int)) _
 generalize putW w tb (k:Int)=W0 at *
 have RT:=root_c G tb rb place n m S W0 BW.out.room BW.out.blk HP.out (by have:=HM.out;omega) (by rw [HR.out];omega)
 rw [HR.out] at RT
 refine RT.mono ?_
 rintro e w2 ⟨rfl,hb⟩
 have B2:=Hd (BW.out.below hb.out)
 have L2:=Hd (LW.out.below hb.out)
 obtain ⟨x0,x1,x2,x3,x4⟩:=L2.out.cells
 have hgB:Hid (¬G w.heap.size/\¬G (w.heap.size+1)):=Hd ⟨fun e=>by have:=HG.out _ e;omega,fun e=>by have:=HG.out _ e;omega⟩
 have HS2:Hid (W0.heap.size<=w2.heap.size/\∀ k,G k->k<W0.heap.size):=Hd ⟨hb.out.size,fun k hk=>by have:=HG.out k hk;have:=SW.out;omega⟩
 have FR:Hid (∀ W q a b,Below w2.heap.size w2 W->W.heap[q]?=some (.cells #[.bool true,.slice (some ⟨a,0,none⟩) 1 1,.slice (some ⟨b,0,none⟩) 1 1,.slice none 0 0] 222 (0,0))->W.heap[a]?=some (.cells #[.string key] 9 (0,0))->W.heap[b]?=some (.cells #[.string val] 9 (0,0))->w2.heap.size<=q/\w2.heap.size<=a/\w2.heap.size<=b ->
  Calls Tryz.prog 127 #[.pointer (some ⟨tb,0,none⟩),.pointer (some ⟨q,0,none⟩)] W fun e w'=>∃ r:Nat,e=.returned (.int .i64 (r:Int))/\w'.cell? ⟨w.heap.size,0,none⟩=some (.pointer (some ⟨tb,0,none⟩))/\Hid (r<65536/\S.used r=false/\∃ G',TBase W0 w' G G' tb rb place n (m+3) (wrS (allocS S r) r (.leaf [(key,val)])))):=Hd fun W q a b hW h1 h2 h3 h4=>by
  have hs:=HS2.out
  have hrd:RdN W0 W G q (.leaf [(key,val)]):=rd_leaf h1 h2 h3 ⟨by omega,by omega,by omega⟩ hs.2
  have hw:Wf 0 [(key,val)]:=⟨fun e he=>by simp at he;rw [he];exact ⟨HKS.out,HVS.out⟩,List.pairwise_singleton _ _⟩
  have hk:=HKS.out
  have hv:=HVS.out
  have hsz:(Nd.leaf [(key,val)]).size<=512:=by rw [size_leaf];simp [esL];omega
  have hok:(Nd.leaf [(key,val)]).Ok:=hw.ok (by rw [nd_len0];exact Nat.zero_lt_one) (Nat.le_trans hsz (by decide))
  refine (tail_fresh (B2.out.below hW) hrd hok hsz (by have:=HM.out;omega) HSP.out.free).mono ?_
  rintro e w' ⟨r,rfl,a1,a2,G',a3,a4⟩
  refine ⟨r,rfl,(L2.out.upd (hW.upd' (Nat.le_refl _)) (fun e=>e) (fun e=>e) |>.upd a4.upd hgB.out.1 hgB.out.2).cells.1,?_,a2,G',a3⟩
  have:=a3.room.bounds;unfold pagesN at a1;omega
 have SR:Hid (∀ r W,Hid (r<65536/\S.used r=false/\∃ G',TBase W0 W G G' tb rb place n (m+3) (wrS (allocS S r) r (.leaf [(key,val)])))->Calls Tryz.prog 126 #[.pointer (some ⟨tb,0,none⟩),.int .i64 (r:Int)] W fun e w'=>e=.returned (.tuple #[])/\(w'.cell? ⟨w.heap.size,0,none⟩=some (.pointer (some ⟨tb,0,none⟩)))/\(w'.cell? ⟨w.heap.size+1,0,none⟩=some (.int .i64 0)/\w'.frozen? ⟨w.heap.size+1,0,none⟩=false)/\Hid (∃ G',TBase W0 w' G G' tb rb place n (m+4) (setRootS (wrS (allocS S r) r (.leaf [(key,val)])) place (r+1)))):=Hd fun r W hW=>by
  obtain ⟨a1,a2,G',a3⟩:=hW.out
  refine (setRoot_t a3 HP.out (by have:=HM.out;omega) r a1).mono ?_
  rintro e w' ⟨rfl,G2,b1,b2⟩
  have:=(loc_of (w:=w) LW.out b1 hgB.out.1 hgB.out.2).cells
  exact ⟨rfl,this.1,⟨this.2.1,this.2.2.1⟩,G2,b1⟩
 clear RT hb
 go_wp2_with fail
 go_region_held3 (fun w'=>w'.cell? ⟨w.heap.size,0,none⟩=some (.pointer (some ⟨tb,0,none⟩))) (first|(go_keep;done)|exact (World.cell?_of_block ((alloc3 w2 _ _ _).2.2.2.block _ x3)).trans x0) ((first
  | (go_at_call 127
     refine Calls.at_args (FR.out _ (w2.heap.size+1+1) w2.heap.size (w2.heap.size+1) (alloc3 _ _ _ _).2.2.2 (alloc3 _ _ _ _).2.2.1 (alloc3 _ _ _ _).1 (alloc3 _ _ _ _).2.1 ⟨by omega,by omega,by omega⟩) (by with_reducible rfl) ?_
     rintro e w3 ⟨r,rfl,hl,HF⟩)
  | (go_at_call 127
     refine Calls.at_args (FR.out _ (w2.heap.size+1+1) (w2.heap.size+1) w2.heap.size (alloc3 _ _ _ _).2.2.2 (alloc3 _ _ _ _).2.2.1 (alloc3 _ _ _ _).2.1 (alloc3 _ _ _ _).1 ⟨by omega,by omega,by omega⟩) (by with_reducible rfl) ?_
     rintro e w3 ⟨r,rfl,hl,HF⟩)
  | (go_at_call 126
     refine Calls.at_args (SR.out r _ HF) (by with_reducible rfl) ?_
     rintro e w4 ⟨rfl,hk4,hl4,HS⟩)))
 all_goals (
  obtain ⟨G4,b4⟩:=HS.out
  have L4:=loc_of (w:=w) LW.out b4 hgB.out.1 hgB.out.2
  have hfin:(w4.setCell ⟨w.heap.size+1,0,none⟩ (.int .i64 0)).cell? ⟨w.heap.size+1,0,none⟩=some (.int .i64 0):=cell_lit (heap_set_lit L4.b1 _) rfl
  have hgo:=Hd (b4.fin BB.out HG.out (x:=w.heap.size+1) (by omega) (by have:=SW.out;omega) 0 (.int .i64 0))
  clear b4 L4 HS FR SR
  go_wp2_with fail
  refine leaves_cons (f:=124) (args:=#[.pointer (some ⟨w.heap.size+1,0,none⟩)]) (by simp) (by simp [go_sem]) ?_
  refine (guard_idle _ _).mono ?_
  rintro e u' w5 ⟨rfl,rfl,rfl⟩
  refine leaves_cons (f:=123) (args:=#[.pointer (some ⟨w.heap.size+1,0,none⟩),.pointer (some ⟨w.heap.size,0,none⟩),.pointer (some ⟨w.heap.size+1+1,0,none⟩)]) (by simp [settle]) (by simp [go_sem]) ?_
  refine (put1_idle _ _ _ _ _ hfin).mono ?_
  rintro e u' w6 ⟨rfl,rfl,rfl⟩
  have HGO:Hid (PutEnd w (w4.setCell ⟨w.heap.size+1,0,none⟩ (.int .i64 0)) G rb n m place S none key val):=Hd (by
   obtain ⟨G5,y1,y2⟩:=hgo.out
   exact ⟨_,_,⟨G5,y1.more (by omega),y2⟩,new_leaf HR.out HKS.out HVS.out HF.out.2.1⟩)
  simp [Leaves,settle,results,Tryz.results71,go_sem,hfin]
  exact HGO)
theorem Put_old (G:Nat->Prop) (tb rb place n m:Nat) (S:RS) (T:TT) (key val:ByteArray) (w:World) (h:RmS w G rb n m S) (ht:TB w tb rb place) (hg:¬G tb) (hp:place<16) (hm:m<=3900000) (hks:key.size<=96) (hvs:val.size<=56) (hS:TreeSt S place (some T)) (hh:T.h<=20) (hsp:Spare S n (T.h+2)) :
 Calls Tryz.prog 71 #[.pointer (some ⟨tb,0,none⟩),.string key,.string val] w fun e w'=>e=.returned (.int .i64 0)/\Hid (PutEnd w w' G rb n m place S (some T) key val):=by
 have hmf:∀ (fn:Fn) (first cap:Array Value) (w:World),(Instr.makeFunc fn first cap).run Tryz.prog w=.ok (.func fn first cap) w:=fun _ _ _ _=>rfl
 obtain ⟨hh0,p,t⟩:=T
 obtain ⟨hr,hT⟩:=hS
 have hp65:p<65536:=by
  have:=h.lim p hT.on.top.1
  have:=h.bounds
  unfold pagesN at *;omega
 have htl:=lt_of_heap ht
 obtain ⟨c0,c1⟩:=ht.cells
 have hb3:=fun k=>putW_below w tb k
 have d0:(((w.alloc (.cells #[.pointer (some ⟨tb,0,none⟩)] 103)).alloc (.cells #[.int .i64 0] 34)).alloc (.cells #[.int .i64 0] 3)).cell? ⟨tb,0,none⟩=some (.pointer (some ⟨rb,0,none⟩)):=(World.cell?_of_block ((hb3 0).block tb htl)).trans c0
 have M3:Hid (Calls Tryz.prog 114 #[.pointer (some ⟨rb,0,none⟩)] (((w.alloc (.cells #[.pointer (some ⟨tb,0,none⟩)] 103)).alloc (.cells #[.int .i64 0] 34)).alloc (.cells #[.int .i64 0] 3)) fun e w'=>∃ k:Nat,e=.returned (.int .i64 (k:Int))/\w'=(((w.alloc (.cells #[.pointer (some ⟨tb,0,none⟩)] 103)).alloc (.cells #[.int .i64 0] 34)).alloc (.cells #[.int .i64 0] 3))):=Hd (mark_s G rb n m S _ (h.below (hb3 0)))
 have hk1:¬(96:Int)<(key.size:Int):=by omega
 have hk2:¬(56:Int)<(val.size:Int):=by omega
 have HG:=Hd h.lt
 have HSP:=Hd hsp
 have HKS:=Hd hks
 have HVS:=Hd hvs
 have HR:=Hd hr
 have HT:=Hd hT
 have HP65:=Hd hp65
 have HH:=Hd hh
 have B0:Hid (∀ k:Int,TBase (putW w tb k) (putW w tb k) G G tb rb place n m S):=Hd fun k=>TBase.start (h.below (hb3 k)) (ht.below (hb3 k)) hg
 have HP:=Hd hp
 have HM:=Hd hm
 clear h ht hg hp hm hks hvs hr hsp hb3 c1 hT hp65 hh
 go_enter_defers Tryz.func71,Tryz.ntmps71
 go_wp2_with fail
 refine M3.out.mono ?_
 rintro e w1 ⟨k,rfl,rfl⟩
 clear M3 d0
 go_wp2_with fail
 have BW:=Hd (B0.out (k:Int))
 have LW:=Hd (putW_loc w tb (k:Int))
 have SW:=Hd (putW_size w tb (k:Int))
 have BB:=Hd (putW_below w tb (k:Int))
 change Calls Tryz.prog 125 #[.pointer (some ⟨tb,0,none⟩)] (putW w tb (k:Int)) _
 generalize putW w tb (k:Int)=W0 at *
 have RT:=root_c G tb rb place n m S W0 BW.out.room BW.out.blk HP.out (by have:=HM.out;omega) (by have:=HP65.out;rw [HR.out];omega)
 rw [HR.out,show (((p+1:Nat):Int)-1)=(p:Int) by omega] at RT
 refine RT.mono ?_
 rintro e w2 ⟨rfl,hb⟩
 have B2:=Hd (BW.out.below hb.out)
 have L2:=Hd (LW.out.below hb.out)
 obtain ⟨x0,x1,x2,x3,x4⟩:=L2.out.cells
 have hgB:Hid (¬G w.heap.size/\¬G (w.heap.size+1)):=Hd ⟨fun e=>by have:=HG.out _ e;omega,fun e=>by have:=HG.out _ e;omega⟩
 have PT0:=Hd (put_c hh0 G tb rb place n m S p t key val 0 w2 B2.out.room B2.out.blk B2.out.gt HT.out HKS.out HVS.out (by have:=HH.out;omega) (HSP.out.less (by show hh0+1<=hh0+2;omega)) (by have:=HM.out;have:hh0<=20:=HH.out;omega))
 rw [show ((0:Nat):Int)=0 from rfl] at PT0
 have hp0:¬(p:Int)<0:=by omega
 clear RT hb
 go_wp2_with fail
 refine PT0.out.mono ?_
 rintro e w3 ⟨kk,q,more,rfl,HPP⟩
 clear PT0 x0 x1 x2 x3 x4
 cases more with
 | false =>
   obtain ⟨S3,hgo3,hif⟩:=HPP.out
   rw [if_neg (by simp)] at hif
   obtain ⟨rfl,rfl,t',K⟩:=hif
   obtain ⟨G3,b3,-⟩:=B2.out.step hgo3
   have L3:=loc_of (w:=w) LW.out b3 hgB.out.1 hgB.out.2
   obtain ⟨x0,x1,x2,x3,x4⟩:=L3.cells
   have hfin:(w3.setCell ⟨w.heap.size+1,0,none⟩ (.int .i64 0)).cell? ⟨w.heap.size+1,0,none⟩=some (.int .i64 0):=cell_lit (heap_set_lit L3.b1 _) rfl
   have hgo:=Hd (b3.fin BB.out HG.out (x:=w.heap.size+1) (by omega) (by have:=SW.out;omega) 0 (.int .i64 0))
   have HK:=Hd K
   clear b3 L3 HPP hgo3 K
   go_wp2_with fail
   refine leaves_cons (f:=124) (args:=#[.pointer (some ⟨w.heap.size+1,0,none⟩)]) (by simp) (by simp [go_sem]) ?_
   refine (guard_idle _ _).mono ?_
   rintro e u' w5 ⟨rfl,rfl,rfl⟩
   refine leaves_cons (f:=123) (args:=#[.pointer (some ⟨w.heap.size+1,0,none⟩),.pointer (some ⟨w.heap.size,0,none⟩),.pointer (some ⟨w.heap.size+1+1,0,none⟩)]) (by simp [settle]) (by simp [go_sem]) ?_
   refine (put1_idle _ _ _ _ _ hfin).mono ?_
   rintro e u' w6 ⟨rfl,rfl,rfl⟩
   have HGO:Hid (PutEnd w (w3.setCell ⟨w.heap.size+1,0,none⟩ (.int .i64 0)) G rb n m place S (some ⟨hh0,p,t⟩) key val):=Hd (by
    obtain ⟨G5,y1,y2⟩:=hgo.out
    exact ⟨_,_,⟨G5,y1.more (by have:hh0<=20:=HH.out;omega),y2⟩,old_root HK.out HR.out⟩)
   simp [Leaves,settle,results,Tryz.results71,go_sem,hfin]
   exact HGO
 | true =>
   obtain ⟨S3,hgo3,hif⟩:=HPP.out
   rw [if_pos rfl] at hif
   obtain ⟨t1,t2,K⟩:=hif
   obtain ⟨G3,b3,-⟩:=B2.out.step hgo3
   have HK:=Hd K
   have B3:=Hd b3
   have L3:=Hd (loc_of (w:=w) LW.out b3 hgB.out.1 hgB.out.2)
   obtain ⟨x0,x1,x2,x3,x4⟩:=L3.out.cells
   have hg3:Hid (¬G3 w.heap.size/\¬G3 (w.heap.size+1)):=Hd ⟨fun e=>by
    rcases b3.sub _ e with e|e
    ·exact hgB.out.1 e
    ·have:=SW.out;omega,fun e=>by
    rcases b3.sub _ e with e|e
    ·exact hgB.out.2 e
    ·have:=SW.out;omega⟩
   have HM3:Hid (m+4*(hh0+1)<=3998000):=Hd (by have:=HM.out;have:hh0<=20:=HH.out;omega)
   have HSP3:Hid (∃ r,r<pagesN n/\S3.used r=false):=Hd (by
    have:=K.spr n 1 (HSP.out.less (by show 1+hh0+1<=hh0+2;omega))
    exact this.free)
   have FR:Hid (∀ W q1 a b,Below w3.heap.size w3 W->W.heap[q1]?=some (.cells #[.bool false,.slice (some ⟨a,0,none⟩) 2 2,.slice none 0 0,.slice (some ⟨b,0,none⟩) 2 2] 222 (0,0))->W.heap[a]?=some (.cells #[.string ⟨#[]⟩,.string kk] 9 (0,0))->W.heap[b]?=some (.cells #[.int .i64 (p:Int),.int .i64 (q:Int)] 3 (0,0))->w3.heap.size<=q1/\w3.heap.size<=a/\w3.heap.size<=b ->
    Calls Tryz.prog 127 #[.pointer (some ⟨tb,0,none⟩),.pointer (some ⟨q1,0,none⟩)] W fun e w'=>∃ r:Nat,e=.returned (.int .i64 (r:Int))/\w'.cell? ⟨w.heap.size,0,none⟩=some (.pointer (some ⟨tb,0,none⟩))/\Hid (r<65536/\S3.used r=false/\∃ G',TBase W0 w' G G' tb rb place n (m+4*(hh0+1)+3) (wrS (allocS S3 r) r (.inner [(ByteArray.empty,p),(kk,q)])))):=Hd fun W q1 a b hW h1 h2 h3 h4=>by
    have hs:=B3.out.up.size
    have hlt:=B3.out.room.lt
    have hrd:RdN W0 W G3 q1 (.inner [(ByteArray.empty,p),(kk,q)]):=rd_root h1 h2 h3 ⟨by omega,by omega,by omega⟩ ⟨fun e=>by have:=hlt _ e;omega,fun e=>by have:=hlt _ e;omega,fun e=>by have:=hlt _ e;omega⟩
    have hk:=HK.out.ksz
    have hq:=HK.out.qlt
    have hp6:=HP65.out
    have hsz:(Nd.inner [(ByteArray.empty,p),(kk,q)]).size<=512:=by rw [size_inner];simp [esI];omega
    have hok:(Nd.inner [(ByteArray.empty,p),(kk,q)]).Ok:=by
     refine ⟨by simp [Nd.len,Nd.keys],by simp [Nd.len,Nd.keys],fun x hx=>?_,fun x hx=>?_,fun x hx=>?_⟩
     ·simp [Nd.keys] at hx
      rcases hx with rfl|rfl
      ·decide
      ·exact hk
     ·simp [Nd.vals] at hx
     ·simp [Nd.kids] at hx
      rcases hx with rfl|rfl <;> omega
    refine (tail_fresh (B3.out.below hW) hrd hok hsz (by have:=HM3.out;omega) HSP3.out).mono ?_
    rintro e w' ⟨r,rfl,a1,a2,G',a3,a4⟩
    refine ⟨r,rfl,(L3.out.upd (hW.upd' (Nat.le_refl _)) (fun e=>e) (fun e=>e) |>.upd a4.upd hg3.out.1 hg3.out.2).cells.1,?_,a2,G',a3⟩
    have:=a3.room.bounds;unfold pagesN at a1;omega
   have SR:Hid (∀ r W,Hid (r<65536/\S3.used r=false/\∃ G',TBase W0 W G G' tb rb place n (m+4*(hh0+1)+3) (wrS (allocS S3 r) r (.inner [(ByteArray.empty,p),(kk,q)])))->Calls Tryz.prog 126 #[.pointer (some ⟨tb,0,none⟩),.int .i64 (r:Int)] W fun e w'=>e=.returned (.tuple #[])/\(w'.cell? ⟨w.heap.size,0,none⟩=some (.pointer (some ⟨tb,0,none⟩)))/\(w'.cell? ⟨w.heap.size+1,0,none⟩=some (.int .i64 0)/\w'.frozen? ⟨w.heap.size+1,0,none⟩=false)/\Hid (∃ G',TBase W0 w' G G' tb rb place n (m+4*(hh0+1)+4) (setRootS (wrS (allocS S3 r) r (.inner [(ByteArray.empty,p),(kk,q)])) place (r+1)))):=Hd fun r W hW=>by
    obtain ⟨a1,a2,G',a3⟩:=hW.out
    refine (setRoot_t a3 HP.out (by have:=HM3.out;omega) r a1).mono ?_
    rintro e w' ⟨rfl,G2,b1,b2⟩
    have:=(loc_of (w:=w) LW.out b1 hgB.out.1 hgB.out.2).cells
    exact ⟨rfl,this.1,⟨this.2.1,this.2.2.1⟩,G2,b1⟩
   clear b3 hgo3 K HPP B0
   go_wp2_with fail
   go_region_held3 (fun w'=>w'.cell? ⟨w.heap.size,0,none⟩=some (.pointer (some ⟨tb,0,none⟩))) (first|(go_keep;done)|exact (World.cell?_of_block ((alloc3 w3 _ _ _).2.2.2.block _ x3)).trans x0) ((first
    | (go_at_call 127
       refine Calls.at_args (FR.out _ (w3.heap.size+1+1) w3.heap.size (w3.heap.size+1) (alloc3 _ _ _ _).2.2.2 (alloc3 _ _ _ _).2.2.1 (alloc3 _ _ _ _).1 (alloc3 _ _ _ _).2.1 ⟨by omega,by omega,by omega⟩) (by with_reducible rfl) ?_
       rintro e w5 ⟨r,rfl,hl,HF⟩)
    | (go_at_call 127
       refine Calls.at_args (FR.out _ (w3.heap.size+1+1) (w3.heap.size+1) w3.heap.size (alloc3 _ _ _ _).2.2.2 (alloc3 _ _ _ _).2.2.1 (alloc3 _ _ _ _).2.1 (alloc3 _ _ _ _).1 ⟨by omega,by omega,by omega⟩) (by with_reducible rfl) ?_
       rintro e w5 ⟨r,rfl,hl,HF⟩)
    | (go_at_call 126
       refine Calls.at_args (SR.out r _ HF) (by with_reducible rfl) ?_
       rintro e w4 ⟨rfl,hk4,hl4,HS⟩)))
   all_goals (
    obtain ⟨G4,b4⟩:=HS.out
    have L4:=loc_of (w:=w) LW.out b4 hgB.out.1 hgB.out.2
    have hfin:(w4.setCell ⟨w.heap.size+1,0,none⟩ (.int .i64 0)).cell? ⟨w.heap.size+1,0,none⟩=some (.int .i64 0):=cell_lit (heap_set_lit L4.b1 _) rfl
    have hgo:=Hd (b4.fin BB.out HG.out (x:=w.heap.size+1) (by omega) (by have:=SW.out;omega) 0 (.int .i64 0))
    clear b4 L4 HS FR SR
    go_wp2_with fail
    refine leaves_cons (f:=124) (args:=#[.pointer (some ⟨w.heap.size+1,0,none⟩)]) (by simp) (by simp [go_sem]) ?_
    refine (guard_idle _ _).mono ?_
    rintro e u' w5 ⟨rfl,rfl,rfl⟩
    refine leaves_cons (f:=123) (args:=#[.pointer (some ⟨w.heap.size+1,0,none⟩),.pointer (some ⟨w.heap.size,0,none⟩),.pointer (some ⟨w.heap.size+1+1,0,none⟩)]) (by simp [settle]) (by simp [go_sem]) ?_
    refine (put1_idle _ _ _ _ _ hfin).mono ?_
    rintro e u' w6 ⟨rfl,rfl,rfl⟩
    have HGO:Hid (PutEnd w (w4.setCell ⟨w.heap.size+1,0,none⟩ (.int .i64 0)) G rb n m place S (some ⟨hh0,p,t⟩) key val):=Hd (by
     obtain ⟨G5,y1,y2⟩:=hgo.out
     exact ⟨_,_,⟨G5,y1.more (by have:hh0<=20:=HH.out;omega),y2⟩,new_root HK.out HP65.out HF.out.2.1⟩)
    simp [Leaves,settle,results,Tryz.results71,go_sem,hfin]
    exact HGO)
def Del (key:ByteArray) (E E':List (ByteArray × ByteArray)):Prop:=∃ A B v,E=A++(key,v)::B/\E'=A++B
theorem Del.lift {key:ByteArray} {E E':List (ByteArray × ByteArray)} (H:Del key E E') (X Y:List (ByteArray × ByteArray)):Del key (X++(E++Y)) (X++(E'++Y)):=by
 obtain ⟨A,B,v,rfl,rfl⟩:=H
 exact ⟨X++A,B++Y,v,by simp,by simp⟩
theorem Del.mem {key:ByteArray} {E E':List (ByteArray × ByteArray)} (H:Del key E E'):∀ e∈E',e∈E:=by
 obtain ⟨A,B,v,rfl,rfl⟩:=H
 intro e he
 rcases List.mem_append.1 he with h|h <;> simp [h]
structure Opn (S S1:RS) (h p:Nat) (t:PT h) (key:ByteArray) (u:PT h):Prop where
 wf:Wf h u
 siz:(nd h u).size<=512
 kid:Kids S1 h u
 nod:(p::low h u).Nodup
 use:S1.used p=true
 del:Del key (ents h t) (ents h u)
 frm:Frm (pgs h p t) (p::low h u) S S1
 spr:∀ n c,Spare S n c->Spare S1 n c
 lenD:(nd h u).len<=(nd h t).len
 wtD:wt h u<=wt h t
structure RemOne (S S':RS) (h p:Nat) (t:PT h) (key:ByteArray) (u:PT h):Prop where
 op:Opn S S' h p t key u
 on:0<(nd h u).len->On S' h p u
theorem Spare.freeS {S:RS} {n c p:Nat} (h:Spare S n c) (hu:S.used p=true):Spare (frS S p) n c:=by
 obtain ⟨U,h1,h2⟩:=h
 refine ⟨U,fun q hq=>?_,h2⟩
 have hq':flip S.used p q=true:=hq
 unfold flip at hq'
 by_cases e:q=p
 ·rw [if_pos e,e,hu] at hq';cases hq'
 ·rw [if_neg e] at hq';exact h1 q hq'
theorem Opn.leaf {S:RS} {p:Nat} {A B:List (ByteArray × ByteArray)} {key v:ByteArray} (H:Tr S 0 p (A++(key,v)::B)):Opn S S 0 p (A++(key,v)::B) key (A++B):=by
 refine ⟨⟨fun e he=>H.wf.1 e (by rcases List.mem_append.1 he with h|h <;> simp [h]),(srt_of H.wf.2).1⟩,?_,trivial,by simp [low],H.on.1,⟨A,B,v,rfl,rfl⟩,Frm.refl _ _,fun n c hc=>hc,by rw [nd_len0,nd_len0];simp,by rw [wt_zero,wt_zero];simp⟩
 have:=H.fit
 rw [nd_leaf,size_leaf] at this ⊢
 simp at this ⊢;omega
section
variable {S S':RS} {h p:Nat} {A B:List (Kid h)} {x:Kid h} {key:ByteArray}
theorem Opn.kidOne {t':PT h} (H:Tr S (h+1) p (A++x::B:List (Kid h))) (K:RemOne S S' h x.2.1 x.2.2 key t') (hp:0<(nd h t').len) :
 Opn S S' (h+1) p (A++x::B:List (Kid h)) key (A++(x.1,x.2.1,t')::B:List (Kid h)):=by
 have hfr:=K.op.frm
 rw [<-pgs_low h x.2.1 t'] at hfr
 have hnd:=K.op.nod
 rw [<-pgs_low h x.2.1 t'] at hnd
 obtain ⟨k1,k3,kp,hn,hf⟩:=hfr.others H hnd
 have e:nd (h+1) (A++(x.1,x.2.1,t')::B:List (Kid h))=nd (h+1) (A++x::B:List (Kid h)):=by simp [nd]
 have hx:=H.wf.1 x (by simp)
 refine ⟨⟨fun y hy=>?_,?_⟩,by rw [e];exact H.fit,Kids.mk k1 (K.on hp) k3,by rw [low_mid];exact hn,kp.1,?_,by rw [low_mid];exact hf,K.op.spr,by rw [e];exact Nat.le_refl _,wt_same K.op.wtD⟩
 ·rcases List.mem_append.1 hy with hy|hy
  ·exact H.wf.1 y (by simp [hy])
  ·rcases List.mem_cons.1 hy with rfl|hy
   ·exact ⟨hx.1,hx.2.1,hp,K.op.siz,K.op.wf⟩
   ·exact H.wf.1 y (by simp [hy])
 ·obtain ⟨h1,h2,h3,h4,h5⟩:=seps_pair.1 H.wf.2.1
  obtain ⟨h6,h7,h8⟩:=seps_tail.1 H.wf.2.2
  exact ⟨seps_pair.2 ⟨h1,h2,h3,fun b hb e he=>h4 b hb e (K.op.del.mem e he),h5⟩,seps_tail.2 ⟨h6,fun hA e he=>h7 hA e (K.op.del.mem e he),h8⟩⟩
 ·rw [ents_mid,ents_mid]
  exact K.op.del.lift _ _
theorem nd_away:nd (h+1) (A++B:List (Kid h))=.inner (A.map (fun x:Kid h=>(x.1,x.2.1))++B.map (fun x:Kid h=>(x.1,x.2.1))):=by simp [nd]
theorem size_away:(nd (h+1) (A++B:List (Kid h))).size<=(nd (h+1) (A++x::B:List (Kid h))).size:=by
 simp only [nd,size_inner]
 simp
theorem low_app (A B:List (Kid h)):low (h+1) (A++B:List (Kid h))=low (h+1) A++low (h+1) B:=by simp [low]
theorem ents_nil:∀ {h:Nat} {t:PT h},(nd h t).len=0->ents h t=[]
 | 0,t,e=>by rw [nd_len0] at e;exact List.eq_nil_of_length_eq_zero e
 | h+1,t,e=>by rw [nd_lenS] at e;rw [List.eq_nil_of_length_eq_zero e];rfl
theorem low_nil:∀ {h:Nat} {t:PT h},(nd h t).len=0->low h t=[]
 | 0,t,e=>rfl
 | h+1,t,e=>by rw [nd_lenS] at e;rw [List.eq_nil_of_length_eq_zero e];rfl
theorem Opn.kidNone {t':PT h} (H:Tr S (h+1) p (A++x::B:List (Kid h))) (K:RemOne S S' h x.2.1 x.2.2 key t') (hz:(nd h t').len=0) :
 S'.used x.2.1=true/\Opn S (frS S' x.2.1) (h+1) p (A++x::B:List (Kid h)) key (A++B:List (Kid h)):=by
 have hfr:=K.op.frm
 rw [low_nil hz] at hfr
 have hnd:=K.op.nod
 rw [low_nil hz] at hnd
 obtain ⟨k1,k3,kp,hn,hf⟩:=hfr.others H hnd
 have hux:=K.op.use
 obtain ⟨np,hn2⟩:=List.nodup_cons.1 hn
 obtain ⟨n1,n2,n3⟩:=List.nodup_append.1 hn2
 obtain ⟨n4,n5⟩:=List.nodup_cons.1 n2
 have hpx:p≠x.2.1:=fun e=>np (by simp [e])
 have hne:∀ q,q∈low (h+1) A\/q∈low (h+1) B->q≠x.2.1:=fun q hq e=>by
  subst e
  rcases hq with hq|hq
  ·exact n3 _ hq _ (by simp) rfl
  ·exact n4 hq
 have fl:∀ q,q≠x.2.1->(frS S' x.2.1).used q=S'.used q:=fun q hq=>by show flip _ _ _=_;unfold flip;rw [if_neg hq]
 refine ⟨hux,⟨⟨fun y hy=>H.wf.1 y (by rcases List.mem_append.1 hy with h|h <;> simp [h]),H.wf.2.away⟩,Nat.le_trans (size_away (x:=x)) H.fit,fun y hy=>?_,?_,by rw [fl p hpx];exact kp.1,?_,?_,fun n c hc=>(K.op.spr n c hc).freeS hux,by rw [nd_lenS,nd_lenS];simp,by rw [wt_mid,wt_app];omega⟩⟩
 ·rcases List.mem_append.1 hy with hy|hy
  ·exact (k1 y hy).frame fun q hq=>⟨fl q (hne q (.inl (List.mem_flatMap.2 ⟨y,hy,hq⟩))),rfl⟩
  ·exact (k3 y hy).frame fun q hq=>⟨fl q (hne q (.inr (List.mem_flatMap.2 ⟨y,hy,hq⟩))),rfl⟩
 ·rw [low_app]
  refine List.nodup_cons.2 ⟨fun e=>np ?_,List.nodup_append.2 ⟨n1,n5,fun a ha b hb=>n3 a ha b (by simp [hb])⟩⟩
  rcases List.mem_append.1 e with e|e <;> simp [e]
 ·rw [ents_mid,ents_app]
  have:=K.op.del.lift (ents (h+1) A) (ents (h+1) B)
  rw [ents_nil hz,List.nil_append] at this
  exact this
 ·rw [low_app]
  refine hf.trans (Frm.free _ _ S' x.2.1 hux (fun q=>?_) (fun e=>?_))
  ·simp only [List.mem_cons,List.mem_append,List.not_mem_nil,or_false]
   constructor
   ·rintro (a|a|a|a) <;> simp [a]
   ·rintro (a|a|a|a) <;> simp [a]
  ·rcases List.mem_cons.1 e with e|e
   ·exact hpx e.symm
   ·rcases List.mem_append.1 e with e|e
    ·exact hne _ (.inl e) rfl
    ·exact hne _ (.inr e) rfl
end
def joinT:(h:Nat)->PT h->ByteArray->PT h->PT h
 | 0,a,_,b=>a++b
 | h+1,a,f,b=>(a:List (Kid h))++(match (b:List (Kid h)) with|[]=>[]|z::r=>(f,z.2)::r)
def Nd.join (a:Nd) (f:ByteArray) (b:Nd):Nd :=
 match a,b with
 | .leaf l,.leaf r=>.leaf (l++r)
 | .inner l,.inner r=>.inner (l++(match r with|[]=>[]|z::r=>(f,z.2)::r))
 | a,_=>a
theorem nd_join (h:Nat) (a:PT h) (f:ByteArray) (b:PT h):nd h (joinT h a f b)=(nd h a).join f (nd h b):=by
 cases h with
 | zero=>rfl
 | succ h=>cases b <;> simp [nd,joinT,Nd.join]
theorem ents_join (h:Nat) (a:PT h) (f:ByteArray) (b:PT h):ents h (joinT h a f b)=ents h a++ents h b:=by
 cases h with
 | zero=>rfl
 | succ h=>cases b <;> simp [ents,joinT]
theorem low_join (h:Nat) (a:PT h) (f:ByteArray) (b:PT h):low h (joinT h a f b)=low h a++low h b:=by
 cases h with
 | zero=>rfl
 | succ h=>cases b <;> simp [low,joinT]
theorem wt_join (h:Nat) (a:PT h) (f:ByteArray) (b:PT h):wt h (joinT h a f b)=wt h a+wt h b:=by
 cases h with
 | zero=>exact List.length_append
 | succ h =>
   cases b with
   | nil=>simp [wt,joinT]
   | cons z r=>simp [wt,joinT]
theorem kids_join {S:RS} {h:Nat} {a:PT h} {f:ByteArray} {b:PT h} (h1:Kids S h a) (h2:Kids S h b):Kids S h (joinT h a f b):=by
 cases h with
 | zero=>trivial
 | succ h =>
   intro y hy
   rcases List.mem_append.1 hy with hy|hy
   ·exact h1 y hy
   ·cases b with
    | nil=>simp at hy
    | cons z r =>
      rcases List.mem_cons.1 hy with rfl|hy
      ·exact h2 z (by simp)
      ·exact h2 y (by simp [hy])
theorem len_join (h:Nat) (a:PT h) (f:ByteArray) (b:PT h):(nd h a).len<=(nd h (joinT h a f b)).len:=by
 cases h with
 | zero=>rw [nd_len0,nd_len0];simp [joinT]
 | succ h=>rw [nd_lenS,nd_lenS];simp [joinT]
theorem wf_join {h:Nat} {a:PT h} {f:ByteArray} {b:PT h} (ha:Wf h a) (hb:Wf h b) (hf:f.size<=96) (h1:∀ e∈ents h a,kless e.1 f=true) (h2:∀ e∈ents h b,kless e.1 f=false) (hpa:0<(nd h a).len):Wf h (joinT h a f b):=by
 cases h with
 | zero =>
   refine ⟨fun e he=>?_,List.pairwise_append.2 ⟨ha.2,hb.2,fun x hx y hy=>kless_of_lt_le (h1 x hx) (h2 y hy)⟩⟩
   rcases List.mem_append.1 he with he|he
   ·exact ha.1 e he
   ·exact hb.1 e he
 | succ h =>
   cases b with
   | nil =>
     have:joinT (h+1) a f []=a:=by simp [joinT]
     rw [this];exact ha
   | cons z r =>
     have h2z:∀ y∈z::r,∀ e∈ents h y.2.2,kless e.1 f=false:=fun y hy e he=>h2 e ((ents_mem h (z::r) e).2 ⟨y,hy,he⟩)
     have h1z:∀ y∈(a:List (Kid h)),∀ e∈ents h y.2.2,kless e.1 f=true:=fun y hy e he=>h1 e ((ents_mem h a e).2 ⟨y,hy,he⟩)
     obtain ⟨p1,p2⟩:=List.pairwise_cons.1 hb.2.1
     have hzz:=hb.1 z (by simp)
     obtain ⟨e0,he0⟩:∃ e0,e0∈ents h z.2.2:=⟨_,List.getElem_mem (ents_pos hzz.2.2.2.2 hzz.2.2.1)⟩
     refine ⟨fun y hy=>?_,List.pairwise_append.2 ⟨ha.2.1,List.pairwise_cons.2 ⟨p1,p2⟩,fun x hx y hy e he=>?_⟩,fun y hy=>?_⟩
     ·rcases List.mem_append.1 hy with hy|hy
      ·exact ha.1 y hy
      ·rcases List.mem_cons.1 hy with rfl|hy
       ·exact ⟨hf,hzz.2⟩
       ·exact hb.1 y (by simp [hy])
     ·rcases List.mem_cons.1 hy with rfl|hy
      ·exact h1z x hx e he
      ·exact kless_trans (kless_of_lt_le (h1z x hx e he) (h2z z (by simp) e0 he0)) (p1 y hy e0 he0)
     ·cases a with
      | nil=>rw [nd_lenS] at hpa;simp at hpa
      | cons a0 a =>
        have hy':y∈a++(f,z.2)::r:=hy
        rcases List.mem_append.1 hy' with hy|hy
        ·exact ha.2.2 y hy
        ·rcases List.mem_cons.1 hy with rfl|hy
         ·exact h2z z (by simp)
         ·exact hb.2.2 y hy
section
variable {S S1:RS} {h p:Nat} {A B:List (Kid h)} {x y:Kid h} {key:ByteArray} {t:PT (h+1)}
theorem Opn.join (H:Opn S S1 (h+1) p t key (A++x::y::B:List (Kid h))) (hs:(nd h (joinT h x.2.2 y.1 y.2.2)).size<=512) :
 S1.used x.2.1=true/\S1.used y.2.1=true/\x.2.1≠y.2.1/\Opn S (frS (wrS S1 x.2.1 (nd h (joinT h x.2.2 y.1 y.2.2))) y.2.1) (h+1) p t key (A++(x.1,x.2.1,joinT h x.2.2 y.1 y.2.2)::B:List (Kid h)):=by
 have hx:=H.wf.1 x (by simp)
 have hy:=H.wf.1 y (by simp)
 obtain ⟨s1,s2,s3,s4,s5⟩:=seps_pair.1 H.wf.2.1
 obtain ⟨s6,s7,s8⟩:=seps_tail.1 H.wf.2.2
 have hxp:=ents_pos hx.2.2.2.2 hx.2.2.1
 have hwj:Wf h (joinT h x.2.2 y.1 y.2.2):=wf_join hx.2.2.2.2 hy.2.2.2.2 hy.1 (s4 y (by simp)) (s8 y (by simp)) hx.2.2.1
 have hlj:0<(nd h (joinT h x.2.2 y.1 y.2.2)).len:=Nat.lt_of_lt_of_le hx.2.2.1 (len_join h _ _ _)
 obtain ⟨k1,kx,k2⟩:=H.kid.mid
 have ky:On S1 h y.2.1 y.2.2:=k2 y (by simp)
 have k3:Kids S1 (h+1) B:=fun z hz=>k2 z (by simp [hz])
 have hN:=H.nod
 have el:low (h+1) (A++x::y::B:List (Kid h))=low (h+1) A++((x.2.1::low h x.2.2)++((y.2.1::low h y.2.2)++low (h+1) B)):=by
  rw [low_mid,<-pgs_low,<-pgs_low];simp [low]
 rw [el] at hN
 have ej:low (h+1) (A++(x.1,x.2.1,joinT h x.2.2 y.1 y.2.2)::B:List (Kid h))=low (h+1) A++((x.2.1::(low h x.2.2++low h y.2.2))++low (h+1) B):=by
  rw [low_mid,pgs_low];show _++((x.2.1::low h (joinT h x.2.2 y.1 y.2.2))++_)=_;rw [low_join]
 obtain ⟨np,hN2⟩:=List.nodup_cons.1 hN
 obtain ⟨n1,n2,n3⟩:=List.nodup_append.1 hN2
 obtain ⟨n4,n5,n6⟩:=List.nodup_append.1 n2
 obtain ⟨n7,n8⟩:=List.nodup_cons.1 n4
 obtain ⟨n9,n10,n11⟩:=List.nodup_append.1 n5
 obtain ⟨n12,n13⟩:=List.nodup_cons.1 n9
 have hxy:x.2.1≠y.2.1:=n6 _ (by simp) _ (by simp)
 have hux:=kx.top.1
 have huy:=ky.top.1
 have hpx:p≠x.2.1:=fun e=>np (by simp [e])
 have hpy:p≠y.2.1:=fun e=>np (by simp [e])
 have keep:∀ q,q≠x.2.1->q≠y.2.1->(frS (wrS S1 x.2.1 (nd h (joinT h x.2.2 y.1 y.2.2))) y.2.1).used q=S1.used q/\(frS (wrS S1 x.2.1 (nd h (joinT h x.2.2 y.1 y.2.2))) y.2.1).cont q=S1.cont q:=fun q a b=>by
  refine ⟨?_,?_⟩
  ·show flip S1.used y.2.1 q=_;unfold flip;rw [if_neg b]
  ·show (if q=x.2.1 then _ else _)=_;rw [if_neg a]
 have neA:∀ q∈low (h+1) A,q≠x.2.1/\q≠y.2.1:=fun q hq=>⟨n3 q hq _ (by simp),n3 q hq _ (by simp)⟩
 have neB:∀ q∈low (h+1) B,q≠x.2.1/\q≠y.2.1:=fun q hq=>⟨fun e=>n6 x.2.1 (by simp) q (by simp [hq]) e.symm,fun e=>n11 y.2.1 (by simp) q hq e.symm⟩
 have nex:∀ q∈low h x.2.2,q≠x.2.1/\q≠y.2.1:=fun q hq=>⟨fun e=>n7 (e ▸ hq),n6 q (by simp [hq]) _ (by simp)⟩
 have ney:∀ q∈low h y.2.2,q≠x.2.1/\q≠y.2.1:=fun q hq=>⟨fun e=>n6 x.2.1 (by simp) q (by simp [hq]) e.symm,fun e=>n12 (e ▸ hq)⟩
 have onx:On (frS (wrS S1 x.2.1 (nd h (joinT h x.2.2 y.1 y.2.2))) y.2.1) h x.2.1 (joinT h x.2.2 y.1 y.2.2):=by
  refine on_iff.2 ⟨⟨?_,?_⟩,kids_join ((on_iff.1 kx).2.frame fun q hq=>keep q (nex q hq).1 (nex q hq).2) ((on_iff.1 ky).2.frame fun q hq=>keep q (ney q hq).1 (ney q hq).2)⟩
  ·show flip S1.used y.2.1 x.2.1=true;unfold flip;rw [if_neg hxy];exact hux
  ·show (if x.2.1=x.2.1 then _ else _)=_;rw [if_pos rfl]
 refine ⟨hux,huy,hxy,⟨⟨fun z hz=>?_,H.wf.2.join x.2.1 _ (ents_join h _ _ _) hxp⟩,?_,Kids.mk (k1.frame fun q hq=>keep q (neA q hq).1 (neA q hq).2) onx (k3.frame fun q hq=>keep q (neB q hq).1 (neB q hq).2),?_,by rw [(keep p hpx hpy).1];exact H.use,?_,?_,fun n c hc=>((H.spr n c hc).write.freeS huy),by have:=H.lenD;rw [nd_lenS,nd_lenS] at this ⊢;simp at this ⊢;omega,by have:=H.wtD;rw [wt_mid,wt_cons] at this;rw [wt_mid];show wt (h+1) A+(max (2 ^ h) (wt h (joinT h x.2.2 y.1 y.2.2))+wt (h+1) B)<=_;rw [wt_join];generalize 2 ^ h=P at *;omega⟩⟩
 ·rcases List.mem_append.1 hz with hz|hz
  ·exact H.wf.1 z (by simp [hz])
  ·rcases List.mem_cons.1 hz with rfl|hz
   ·exact ⟨hx.1,hx.2.1,hlj,hs,hwj⟩
   ·exact H.wf.1 z (by simp [hz])
 ·refine Nat.le_trans ?_ H.siz
  have e1:nd (h+1) (A++(x.1,x.2.1,joinT h x.2.2 y.1 y.2.2)::B:List (Kid h))=nd (h+1) ((A++[x])++B:List (Kid h)):=by simp [nd]
  have e2:nd (h+1) (A++x::y::B:List (Kid h))=nd (h+1) ((A++[x])++y::B:List (Kid h)):=by simp [nd]
  rw [e1,e2];exact size_away
 ·rw [ej]
  refine List.nodup_cons.2 ⟨fun e=>np ?_,List.nodup_append.2 ⟨n1,List.nodup_append.2 ⟨List.nodup_cons.2 ⟨fun e=>?_,List.nodup_append.2 ⟨n8,n13,fun a ha b hb=>n6 a (by simp [ha]) b (by simp [hb])⟩⟩,n10,fun a ha b hb=>?_⟩,fun a ha b hb=>?_⟩⟩
  ·simp only [List.mem_append,List.mem_cons] at e ⊢
   rcases e with e|(e|e|e)|e <;> simp [e]
  ·rcases List.mem_append.1 e with e|e
   ·exact n7 e
   ·exact (ney _ e).1 rfl
  ·simp only [List.mem_cons,List.mem_append] at ha
   rcases ha with rfl|ha|ha
   ·exact n6 x.2.1 (by simp) b (by simp [hb])
   ·exact n6 a (by simp [ha]) b (by simp [hb])
   ·exact n11 a (by simp [ha]) b hb
  ·refine n3 a ha b ?_
   simp only [List.mem_cons,List.mem_append] at hb ⊢
   rcases hb with (hb|hb|hb)|hb <;> simp [hb]
 ·have hd:=H.del
  have e1:ents (h+1) (A++(x.1,x.2.1,joinT h x.2.2 y.1 y.2.2)::B:List (Kid h))=ents (h+1) (A++x::y::B:List (Kid h)):=by
   rw [ents_mid];show _++(ents h (joinT h x.2.2 y.1 y.2.2)++_)=_;rw [ents_join];simp [ents]
  rw [e1];exact hd
 ·have f1:=H.frm
  rw [el] at f1
  have f2:=f1.trans (Frm.write _ S1 x.2.1 (nd h (joinT h x.2.2 y.1 y.2.2)) (by simp))
  rw [ej]
  refine f2.trans (Frm.free _ _ _ y.2.1 huy (fun q=>?_) (fun e=>?_))
  ·simp only [List.mem_cons,List.mem_append]
   constructor
   ·rintro (a|a|(a|a)|(a|a)|a) <;> simp [a]
   ·rintro (a|a|a|(a|a|a)|a) <;> simp [a]
  ·simp only [List.mem_cons,List.mem_append] at e
   rcases e with e|e|(e|e|e)|e
   ·exact hpy e.symm
   ·exact (neA _ e).2 rfl
   ·exact hxy e.symm
   ·exact (nex _ e).2 rfl
   ·exact n12 e
   ·exact (neB _ e).2 rfl
end
theorem join_leafs {d1 d2:Nd} (f:ByteArray) (hk:d1.isLeaf=d2.isLeaf) (hp:0<d2.len):(d1.join f d2).isLeaf=d1.isLeaf/\(d1.join f d2).keys=d1.keys++(if d1.isLeaf then d2.keys else f::d2.keys.tail)/\(d1.join f d2).vals=d1.vals++d2.vals/\(d1.join f d2).kids=d1.kids++d2.kids:=by
 cases d1 with
 | leaf l =>
   cases d2 with
   | leaf r=>simp [Nd.join,Nd.isLeaf,Nd.keys,Nd.vals,Nd.kids]
   | inner r=>cases hk
 | inner l =>
   cases d2 with
   | leaf r=>cases hk
   | inner r =>
     cases r with
     | nil=>simp [Nd.len,Nd.keys] at hp
     | cons z r=>simp [Nd.join,Nd.isLeaf,Nd.keys,Nd.vals,Nd.kids]
theorem Nd.Ok.lens {d:Nd} (h:d.Ok):d.keys.length<=90000/\d.vals.length<=90000/\d.kids.length<=90000:=by
 have:=h.few
 cases d with
 | leaf l=>simp [Nd.len,Nd.keys,Nd.vals,Nd.kids] at *;omega
 | inner l=>simp [Nd.len,Nd.keys,Nd.vals,Nd.kids] at *;omega
theorem join_nd (F1 F2:Nat->Prop) (p q:Nat) (d1 d2:Nd) (f:ByteArray) (w:World) (h1:IsNd w F1 p d1) (h2:IsNd w F2 q d2) (hd:∀ k,F2 k->¬F1 k) (hk:d1.isLeaf=d2.isLeaf) (o1:d1.Ok) (o2:d2.Ok) :
 Calls Tryz.prog 259 #[.pointer (some ⟨p,0,none⟩),.pointer (some ⟨q,0,none⟩),.string f] w fun e w'=>e=.returned (.tuple #[])/\Hid (NdGo w w' F1 p (d1.join f d2)):=by
 obtain ⟨vk,vv,vi,a⟩:=h1
 obtain ⟨vk2,vv2,vi2,b⟩:=h2
 have hb:=b.read.oth
 rw [<-hk] at hb
 refine (join_c p q d1.isLeaf d1.keys d1.vals d1.kids vk vv vi d2.keys d2.vals d2.kids vk2 vv2 vi2 f w a.parts hb (fun k hk=>⟨b.lt k ((b.own k).2 hk),fun e=>hd k ((b.own k).2 hk) ((a.own k).2 e)⟩) o2.pos o1.lens o2.lens).mono ?_
 rintro e w' ⟨rfl,vk',vv',vi',hs⟩
 obtain ⟨e1,e2,e3,e4⟩:=join_leafs f hk o2.pos
 refine ⟨rfl,?_⟩
 have hs2:NdS w w' F1 p (d1.join f d2).isLeaf (d1.join f d2).keys (d1.join f d2).vals (d1.join f d2).kids vk' vv' vi':=by
  rw [e1,e2,e3,e4]
  exact ⟨hs.nd,fun k hk=>(hs.sub k hk).imp (fun e=>(a.own k).2 e) id,hs.upd.mono fun k _ e=>(a.own k).2 e⟩
 exact hs2.go
def TwoNd (base:Nat) (W:World) (p:Nat) (d1:Nd) (q:Nat) (d2:Nd):Prop:=∃ F1 F2,IsNd W F1 p d1/\IsNd W F2 q d2/\(∀ k,F1 k->base<=k)/\(∀ k,F2 k->base<=k)/\∀ k,F2 k->¬F1 k
def OneNd (W W':World) (p:Nat) (d:Nd):Prop:=∃ F,IsNd W' F p d/\(∀ k,F k->W.heap.size<=k)/\Below W.heap.size W W'
theorem two_of {W0 W W' W'':World} {p:Nat} {d1:Nd} {q:Nat} {d2:Nd} (hb:Below W0.heap.size W0 W) (h1:OneNd W W' p d1) (h2:OneNd W' W'' q d2):TwoNd W0.heap.size W'' p d1 q d2/\TwoNd W0.heap.size W'' q d2 p d1/\Below W0.heap.size W0 W'':=by
 obtain ⟨F1,a1,b1,c1⟩:=h1
 obtain ⟨F2,a2,b2,c2⟩:=h2
 have a1':=a1.below c2 (Nat.le_refl _)
 have s1:=hb.size
 have s2:=c1.size
 have hd:∀ k,F2 k->¬F1 k:=fun k e e'=>by have:=a1.lt k e';have:=b2 k e;omega
 have hB:Below W0.heap.size W0 W'':=(hb.trans (c1.mono s1)).trans (c2.mono (Nat.le_trans s1 s2))
 exact ⟨⟨F1,F2,a1',a2,fun k e=>Nat.le_trans s1 (b1 k e),fun k e=>Nat.le_trans (Nat.le_trans s1 s2) (b2 k e),hd⟩,⟨F2,F1,a2,a1',fun k e=>Nat.le_trans (Nat.le_trans s1 s2) (b2 k e),fun k e=>Nat.le_trans s1 (b1 k e),fun k e e'=>hd k e' e⟩,hB⟩
section
variable {w0 W:World} {G0 G:Nat->Prop} {tb rb place n m:Nat} {S:RS}
theorem tail_read {h p:Nat} {t:PT h} (hB:TBase w0 W G0 G tb rb place n m S) (hm:m<=3999000) (hT:On S h p t) (hf:(nd h t).size<=512) (ho:(nd h t).Ok) :
 Calls Tryz.prog 133 #[.pointer (some ⟨tb,0,none⟩),.int .i64 (p:Int)] W fun e w'=>∃ q,e=.returned (.pointer (some ⟨q,0,none⟩))/\Hid (OneNd W w' q (nd h t)):=by
 refine (read_c G tb rb place n m S p (nd h t) W hB.room hB.blk (by omega) ho hf hT.top.1 hT.top.2).mono ?_
 rintro e w' ⟨q,rfl,F,a,b,c⟩
 exact ⟨q,rfl,F,a,b,c⟩
theorem tail_free (hB:TBase w0 W G0 G tb rb place n m S) (hm:m<=3999000) {p:Nat} (hu:S.used p=true) :
 Calls Tryz.prog 132 #[.pointer (some ⟨rb,0,none⟩),.int .i64 (p:Int)] W fun e w'=>e=.returned (.int .i64 0)/\Hid (∃ G',TBase w0 w' G0 G' tb rb place n (m+1) (frS S p)/\Turn G G' W w'):=by
 obtain ⟨puts,h1,h2,h3⟩:=hB.room
 refine (Free_c G rb n puts S p W h2 h3 (by omega) hu).mono ?_
 rintro e w' ⟨rfl,hg⟩
 exact ⟨rfl,hB.step (StGo.of_room hg h1)⟩
end
theorem RdN.at {w0 W:World} {G:Nat->Prop} {q:Nat} {l:List (ByteArray × Nat)} (h:RdN w0 W G q (.inner l)) (hp:0<l.length) :
 ∃ g1 o1 c1 g2 o2 c2,W.cell? ⟨q,1,none⟩=some (.slice (some ⟨g1,o1,none⟩) l.length c1)/\W.cell? ⟨q,3,none⟩=some (.slice (some ⟨g2,o2,none⟩) l.length c2)/\∀ i (hi:i<l.length),W.cell? ⟨g1,o1+i,none⟩=some (.string l[i].1)/\W.cell? ⟨g2,o2+i,none⟩=some (.int .i64 (l[i].2:Int)):=by
 obtain ⟨vk,vv,vi,a⟩:=h.view
 obtain ⟨g1,o1,c1,e1,h1,k1⟩:=a.ks.lit (by simpa [Nd.keys] using hp)
 obtain ⟨g2,o2,c2,e2,h2,k2⟩:=a.is.lit (by simpa [Nd.kids] using hp)
 subst e1 e2
 refine ⟨g1,o1,c1,g2,o2,c2,?_,?_,fun i hi=>⟨?_,?_⟩⟩
 ·have:=cell_lit (i:=1) a.blk rfl
  simpa [Nd.keys] using this
 ·have:=cell_lit (i:=3) a.blk rfl
  simpa [Nd.kids] using this
 ·have:=k1 i (by simpa [Nd.keys] using hi)
  rw [this];simp [Nd.keys]
 ·have:=k2 i (by simpa [Nd.kids] using hi)
  rw [this];simp [Nd.kids]
def JoinEnd (w0 w':World) (G0 G:Nat->Prop) (tb rb place n m:Nat) (S1:RS) (q:Nat) {h:Nat} (A B:List (Kid h)) (x y:Kid h) (b:Bool):Prop :=
 if b then (nd h (joinT h x.2.2 y.1 y.2.2)).size<=512/\∃ G',TBase w0 w' G0 G' tb rb place n (m+2) (frS (wrS S1 x.2.1 (nd h (joinT h x.2.2 y.1 y.2.2))) y.2.1)/\Nod w0 w' G' q (nd (h+1) (A++(x.1,x.2.1,joinT h x.2.2 y.1 y.2.2)::B:List (Kid h)))
 else TBase w0 w' G0 G tb rb place n m S1/\Nod w0 w' G q (nd (h+1) (A++x::y::B:List (Kid h)))
theorem size_join (h:Nat) (a:PT h) (f:ByteArray) (b:PT h):(nd h (joinT h a f b)).size<=(nd h a).size+(nd h b).size+f.size:=by
 cases h with
 | zero =>
   show (Nd.leaf (a++b)).size<=(Nd.leaf a).size+(Nd.leaf b).size+_
   rw [size_leaf,size_leaf,size_leaf];simp;omega
 | succ h =>
   cases b with
   | nil=>simp [nd,joinT];omega
   | cons z r =>
     simp only [nd,joinT,size_inner,List.map_append,List.map_cons,List.sum_append,List.sum_cons,esI]
     omega
theorem Nod.other {w0 W W':World} {G F1:Nat->Prop} {q base:Nat} {d:Nd} (h:Nod w0 W G q d) (hb:Below W.heap.size W W') (hbase:W.heap.size<=base) {W'':World} (hu:Upd F1 W' W'') (hF:∀ k,F1 k->base<=k):Nod w0 W'' G q d:=by
 obtain ⟨F,a,b⟩:=h
 have a':=a.below hb (Nat.le_refl _)
 exact ⟨F,a'.upd hu fun k hk e=>by have:=a.lt k hk;have:=hF k e;omega,b⟩
theorem nd_xy {h:Nat} (A B:List (Kid h)) (x y:Kid h):nd (h+1) (A++x::y::B:List (Kid h))=.inner (A.map (fun x:Kid h=>(x.1,x.2.1))++(x.1,x.2.1)::(y.1,y.2.1)::B.map (fun x:Kid h=>(x.1,x.2.1))):=by simp [nd]
theorem joined_c (w0 W:World) (G0 G:Nat->Prop) (tb rb place n m:Nat) (S S1:RS) (q:Nat) {h p:Nat} {t:PT (h+1)} {key:ByteArray} (A B:List (Kid h)) (x y:Kid h) (hB:TBase w0 W G0 G tb rb place n m S1) (hN:Nod w0 W G q (nd (h+1) (A++x::y::B:List (Kid h)))) (hO:Opn S S1 (h+1) p t key (A++x::y::B:List (Kid h))) (hm:m<=3998000) :
 Calls Tryz.prog 219 #[.pointer (some ⟨tb,0,none⟩),.pointer (some ⟨q,0,none⟩),.int .i64 (A.length:Nat)] W fun e w'=>∃ b:Bool,e=.returned (.bool b)/\Hid (JoinEnd w0 w' G0 G tb rb place n m S1 q A B x y b):=by
 have hx:=hO.wf.1 x (by simp)
 have hy:=hO.wf.1 y (by simp)
 have okx:(nd h x.2.2).Ok:=hx.2.2.2.2.ok hx.2.2.1 (Nat.le_trans hx.2.2.2.1 (by decide))
 have oky:(nd h y.2.2).Ok:=hy.2.2.2.2.ok hy.2.2.1 (Nat.le_trans hy.2.2.2.1 (by decide))
 have onx:On S1 h x.2.1 x.2.2:=hO.kid x (by simp)
 have ony:On S1 h y.2.1 y.2.2:=hO.kid y (by simp)
 obtain ⟨s1,s2,s3,s4,s5⟩:=seps_pair.1 hO.wf.2.1
 obtain ⟨s6,s7,s8⟩:=seps_tail.1 hO.wf.2.2
 have HWJ:Hid (Wf h (joinT h x.2.2 y.1 y.2.2)):=Hd (wf_join hx.2.2.2.2 hy.2.2.2.2 hy.1 (s4 y (by simp)) (s8 y (by simp)) hx.2.2.1)
 have HLJ:Hid (0<(nd h (joinT h x.2.2 y.1 y.2.2)).len):=Hd (Nat.lt_of_lt_of_le hx.2.2.1 (len_join h _ _ _))
 have hNr:=hN.rd
 rw [nd_xy] at hNr
 obtain ⟨g1,o1,c1,g2,o2,c2,k1,k3,kc⟩:=hNr.at (by simp;omega)
 have hlen:(A.map (fun x:Kid h=>(x.1,x.2.1))++(x.1,x.2.1)::(y.1,y.2.1)::B.map (fun x:Kid h=>(x.1,x.2.1))).length=A.length+2+B.length:=by simp;omega
 have kx:=(kc A.length (by rw [hlen];omega)).2
 have ky:=(kc (A.length+1) (by rw [hlen];omega)).2
 have kk:=(kc (A.length+1) (by rw [hlen];omega)).1
 rw [List.getElem_append_right (by simp)] at kx ky kk
 simp only [List.length_map,Nat.sub_self,List.getElem_cons_zero,Nat.add_sub_cancel_left,List.getElem_cons_succ] at kx ky kk
 rw [hlen] at k1 k3
 have hAl:A.length<=65536:=by
  have h1:=hO.siz
  have h2:=size_len (nd (h+1) (A++x::y::B:List (Kid h)))
  rw [nd_lenS,List.length_append] at h2;omega
 have RX:Hid (∀ W',Hid (Below W.heap.size W W')->Calls Tryz.prog 133 #[.pointer (some ⟨tb,0,none⟩),.int .i64 (x.2.1:Int)] W' fun e w'=>∃ q1,e=.returned (.pointer (some ⟨q1,0,none⟩))/\(w'.cell? ⟨q,3,none⟩=some (.slice (some ⟨g2,o2,none⟩) (A.length+2+B.length) c2)/\w'.cell? ⟨g2,o2+A.length,none⟩=some (.int .i64 (x.2.1:Int))/\w'.cell? ⟨g2,o2+(A.length+1),none⟩=some (.int .i64 (y.2.1:Int)))/\Hid (Below W.heap.size W w')/\Hid (OneNd W' w' q1 (nd h x.2.2))):=Hd fun W' hW=>by
  refine (tail_read (hB.below hW.out) (by omega) onx hx.2.2.2.1 okx).mono ?_
  rintro e w' ⟨q1,rfl,ho⟩
  have hb':Below W.heap.size W w':=by obtain ⟨F,a,b,c⟩:=ho.out;exact hW.out.trans (c.mono hW.out.size)
  exact ⟨q1,rfl,⟨(World.cell?_of_block (hb'.block _ (World.block_lt_of_cell? W _ k3))).trans k3,(World.cell?_of_block (hb'.block _ (World.block_lt_of_cell? W _ kx))).trans kx,(World.cell?_of_block (hb'.block _ (World.block_lt_of_cell? W _ ky))).trans ky⟩,hb',ho⟩
 have RY:Hid (∀ W',Hid (Below W.heap.size W W')->Calls Tryz.prog 133 #[.pointer (some ⟨tb,0,none⟩),.int .i64 (y.2.1:Int)] W' fun e w'=>∃ q1,e=.returned (.pointer (some ⟨q1,0,none⟩))/\(w'.cell? ⟨q,3,none⟩=some (.slice (some ⟨g2,o2,none⟩) (A.length+2+B.length) c2)/\w'.cell? ⟨g2,o2+A.length,none⟩=some (.int .i64 (x.2.1:Int))/\w'.cell? ⟨g2,o2+(A.length+1),none⟩=some (.int .i64 (y.2.1:Int)))/\Hid (Below W.heap.size W w')/\Hid (OneNd W' w' q1 (nd h y.2.2))):=Hd fun W' hW=>by
  refine (tail_read (hB.below hW.out) (by omega) ony hy.2.2.2.1 oky).mono ?_
  rintro e w' ⟨q1,rfl,ho⟩
  have hb':Below W.heap.size W w':=by obtain ⟨F,a,b,c⟩:=ho.out;exact hW.out.trans (c.mono hW.out.size)
  exact ⟨q1,rfl,⟨(World.cell?_of_block (hb'.block _ (World.block_lt_of_cell? W _ k3))).trans k3,(World.cell?_of_block (hb'.block _ (World.block_lt_of_cell? W _ kx))).trans kx,(World.cell?_of_block (hb'.block _ (World.block_lt_of_cell? W _ ky))).trans ky⟩,hb',ho⟩
 have KC:Hid (∀ W',Below W.heap.size W W'->W'.cell? ⟨q,1,none⟩=some (.slice (some ⟨g1,o1,none⟩) (A.length+2+B.length) c1)/\W'.cell? ⟨g1,o1+(A.length+1),none⟩=some (.string y.1)):=Hd fun W' hb'=>⟨(World.cell?_of_block (hb'.block _ (World.block_lt_of_cell? W _ k1))).trans k1,(World.cell?_of_block (hb'.block _ (World.block_lt_of_cell? W _ kk))).trans kk⟩
 have w1:IntKind.i64.wrap ((A.length:Int)+1)=(A.length:Int)+1:=wrap_small (by omega) (by omega)
 have w2:((A.length:Int)+1).toNat=A.length+1:=by omega
 have w3':(A.length:Int)+1<((A.length+2+B.length:Nat):Int):=by omega
 have w4:(A.length:Int)<((A.length+2+B.length:Nat):Int):=by omega
 have w5:(0:Int)<=(A.length:Int)+1:=by omega
 generalize A.length+2+B.length=N at *
 have HB0:=Hd (Below.refl W.heap.size W).drew
 have HB:=Hd hB
 have HN:=Hd hN
 have HO:=Hd hO
 have HOX:=Hd okx
 have HOY:=Hd oky
 have HM:=Hd hm
 clear hB hN hO okx oky onx ony s1 s2 s3 s4 s5 s6 s7 s8 hNr kc hlen hx hy hm
 go_enter Tryz.func219,Tryz.ntmps219
 go_wp2_with fail
 go_region_held3 (fun w'=>w'.cell? ⟨q,3,none⟩=some (.slice (some ⟨g2,o2,none⟩) N c2)/\w'.cell? ⟨g2,o2+A.length,none⟩=some (.int .i64 (x.2.1:Int))/\w'.cell? ⟨g2,o2+(A.length+1),none⟩=some (.int .i64 (y.2.1:Int))) (go_keep) ((first
  | (go_at_call 133
     refine Calls.at_args (RX.out _ (by first|exact HBB|exact HB0)) (by with_reducible rfl) ?_
     rintro e w3 ⟨qx,rfl,hkk,HBB,HX⟩)
  | (go_at_call 133
     refine Calls.at_args (RY.out _ (by first|exact HBB|exact HB0)) (by with_reducible rfl) ?_
     rintro e w3 ⟨qy,rfl,hkk,HBB,HY⟩)))
 all_goals (
  have TW:TwoNd W.heap.size w3 qx (nd h x.2.2) qy (nd h y.2.2):=by first|exact (two_of HB0.out HX.out HY.out).1|exact (two_of HB0.out HY.out HX.out).2.1
  obtain ⟨F1,F2,i1,i2,f1,f2,fd⟩:=TW
  have hF1:∀ k,F1 k->w0.heap.size<=k/\¬G k:=fun k hk=>⟨Nat.le_trans HB.out.up.size (f1 k hk),fun e=>by have:=HB.out.room.lt k e;have:=f1 k hk;omega⟩
  have hjn:=join_nd F1 F2 qx qy _ _ y.1 w3 i1 i2 fd (by cases h <;> rfl) HOX.out HOY.out
  rw [<-nd_join] at hjn
  have JN:=Hd hjn
  have HF1:=Hd hF1
  have HFB:=Hd f1
  obtain ⟨kq1,kq2⟩:=KC.out w3 HBB.out
  clear i1 i2 f1 f2 fd hF1 hjn HX HY RX RY hkk kx ky kk k1 k3
  go_wp2_with fail
  refine JN.out.mono ?_
  rintro e w5 ⟨rfl,HG⟩
  have hu5:Upd F1 w3 w5:=by obtain ⟨F',a,b,c⟩:=HG.out;exact c
  have B5:=Hd ((HB.out.below HBB.out).node hu5 HF1.out)
  have N5:=Hd (HN.out.other HBB.out (Nat.le_refl _) hu5 HFB.out)
  have NX:=Hd (Nod.go (w0:=w0) (G:=G) HF1.out HG.out (HB.out.below HBB.out).room.lt (HB.out.below HBB.out).up.size)
  have hsj:=size_join h x.2.2 y.1 y.2.2
  have okJ:(nd h (joinT h x.2.2 y.1 y.2.2)).Ok:=HWJ.out.ok HLJ.out (by
   have hx:=HO.out.wf.1 x (by simp)
   have hy:=HO.out.wf.1 y (by simp)
   have:=hx.2.2.2.1;have:=hy.2.2.2.1;have:=hy.1;omega)
  have TS:=Hd (tail_size NX.out okJ)
  have OKJ:=Hd okJ
  clear okJ hsj hu5 HG JN HF1 HFB kq1 kq2 KC HBB HWJ HLJ
  go_wp2_with fail
  refine TS.out.mono ?_
  rintro e w6 ⟨rfl,rfl⟩
  clear TS
  have hN5:=N5.out.rd
  rw [nd_xy] at hN5
  obtain ⟨g1,o1,c1,g2,o2,c2,k1,k3,kc⟩:=hN5.at (by simp;omega)
  have hlen:(A.map (fun x:Kid h=>(x.1,x.2.1))++(x.1,x.2.1)::(y.1,y.2.1)::B.map (fun x:Kid h=>(x.1,x.2.1))).length=A.length+2+B.length:=by simp;omega
  have kx:=(kc A.length (by rw [hlen];omega)).2
  rw [List.getElem_append_right (by simp)] at kx
  simp only [List.length_map,Nat.sub_self,List.getElem_cons_zero] at kx
  rw [hlen] at k3
  have v4:(A.length:Int)<((A.length+2+B.length:Nat):Int):=by omega
  clear kc hlen k1 hN5
  by_cases hs:(nd h (joinT h x.2.2 y.1 y.2.2)).size<=512
  ·obtain ⟨hux,huy,hxy,hop⟩:=HO.out.join hs
   have hI:¬(((nd h (joinT h x.2.2 y.1 y.2.2)).size:Nat):Int) > 512:=by omega
   have hI2:¬(512:Int)<(((nd h (joinT h x.2.2 y.1 y.2.2)).size:Nat):Int):=by omega
   have TWr:=Hd (tail_write B5.out x.2.1 NX.out.rd OKJ.out hs hux (by have:=HM.out;omega))
   have HUY:=Hd huy
   have HS:=Hd hs
   generalize A.length+2+B.length=N5' at *
   clear hux huy hxy hop hs NX OKJ
   go_wp2_with fail
   refine TWr.out.mono ?_
   rintro e w7 ⟨rfl,HW⟩
   obtain ⟨G7,b7,tn7⟩:=HW.out
   have B7:=Hd b7
   have N7:=Hd (N5.out.turn tn7)
   clear hI hI2 TWr HW b7 tn7 N5 B5 k3 kx v4
   obtain ⟨t0,t1⟩:=B7.out.blk.cells
   have hN7:=N7.out.rd
   rw [nd_xy] at hN7
   obtain ⟨g1,o1,c1,g2,o2,c2,k1,k3,kc⟩:=hN7.at (by simp;omega)
   have hlen:(A.map (fun x:Kid h=>(x.1,x.2.1))++(x.1,x.2.1)::(y.1,y.2.1)::B.map (fun x:Kid h=>(x.1,x.2.1))).length=A.length+2+B.length:=by simp;omega
   have ky:=(kc (A.length+1) (by rw [hlen];omega)).2
   rw [List.getElem_append_right (by simp)] at ky
   simp only [List.length_map,Nat.add_sub_cancel_left,List.getElem_cons_succ,List.getElem_cons_zero] at ky
   rw [hlen] at k3
   have v3:(A.length:Int)+1<((A.length+2+B.length:Nat):Int):=by omega
   have FREE:Hid (Calls Tryz.prog 132 #[.pointer (some ⟨rb,0,none⟩),.int .i64 (y.2.1:Int)] w7.drew fun e w'=>e=.returned (.int .i64 0)/\(w'.cell? ⟨tb,0,none⟩=some (.pointer (some ⟨rb,0,none⟩))/\w'.cell? ⟨q,3,none⟩=some (.slice (some ⟨g2,o2,none⟩) (A.length+2+B.length) c2)/\w'.cell? ⟨g2,o2+(A.length+1),none⟩=some (.int .i64 (y.2.1:Int)))/\Hid (∃ G',TBase w0 w' G0 G' tb rb place n (m+2) (frS (wrS S1 x.2.1 (nd h (joinT h x.2.2 y.1 y.2.2))) y.2.1)/\Turn G7 G' w7 w')):=Hd (by
    have hd:=(Below.refl w7.heap.size w7).drew
    refine (tail_free (B7.out.below hd) (by have:=HM.out;omega) HUY.out).mono ?_
    rintro e w' ⟨rfl,G8,b8,tn8⟩
    have tn:Turn G7 G8 w7 w':=tn8.below_left hd
    refine ⟨rfl,⟨b8.blk.cells.1,?_,?_⟩,G8,b8,tn⟩
    ·obtain ⟨F,⟨vk,vv,vi,a⟩,b⟩:=N7.out
     exact (World.cell?_of_block (tn.upd.block q (lt_of_heap a.blk) (b q ((a.own q).2 (.inl rfl))).2)).trans k3
    ·obtain ⟨F,⟨vk,vv,vi,a⟩,b⟩:=N7.out
     have e3:=cell_lit (i:=3) a.blk rfl
     rw [k3] at e3
     have e4:vi.ownBlock=some g2:=by cases e3;rfl
     exact (World.cell?_of_block (tn.upd.block g2 (World.block_lt_of_cell? _ _ ky) (b g2 ((a.own g2).2 (.inr (.inr (.inr e4))))).2)).trans ky)
   generalize A.length+2+B.length=N7' at *
   have MU:=must_c
   clear kc hlen k1 hN7
   go_wp2_with fail
   go_region_held3 (fun w'=>w'.cell? ⟨tb,0,none⟩=some (.pointer (some ⟨rb,0,none⟩))/\w'.cell? ⟨q,3,none⟩=some (.slice (some ⟨g2,o2,none⟩) N7' c2)/\w'.cell? ⟨g2,o2+(A.length+1),none⟩=some (.int .i64 (y.2.1:Int))) (go_keep) ((first
    | (go_at_call 132
       refine Calls.at_args FREE.out (by with_reducible rfl) ?_
       rintro e w8 ⟨rfl,hkf,HFR⟩)
    | (go_at_call 131;refine (MU _).mono ?_;rintro e w9 ⟨rfl,rfl⟩)))
   all_goals (
    obtain ⟨G8,b8,tn8⟩:=HFR.out
    have B8:=Hd b8
    have hn8:=N7.out.turn tn8
    rw [show nd (h+1) (A++x::y::B:List (Kid h))=.inner ((A++[x]).map (fun x:Kid h=>(x.1,x.2.1))++(y.1,y.2.1)::B.map (fun x:Kid h=>(x.1,x.2.1))) by simp [nd]] at hn8
    obtain ⟨F8,y1,y2⟩:=hn8
    have RM:=remove_inner F8 q ((A++[x]).map (fun x:Kid h=>(x.1,x.2.1))) (B.map (fun x:Kid h=>(x.1,x.2.1))) (y.1,y.2.1) _ y1 (by simp;omega)
    rw [show ((((A++[x]).map (fun x:Kid h=>(x.1,x.2.1))).length:Nat):Int)=(A.length:Int)+1 by simp] at RM
    have RM2:=Hd RM
    have Y2:=Hd y2
    clear y1 y2 b8 tn8 RM HFR FREE N7 B7 hkf t0 t1 k3 ky v3
    go_wp2_with fail
    refine RM2.out.mono ?_
    rintro e w10 ⟨rfl,HG10⟩
    obtain ⟨F10,z1,z2,hu10⟩:=HG10.out
    have B10:=Hd (B8.out.node hu10 Y2.out)
    have N10:=Hd (Nod.go (w0:=w0) (G:=G8) Y2.out HG10.out B8.out.room.lt B8.out.up.size)
    clear RM2 HG10 hu10 z1 z2 Y2 B8
    go_wp2_with fail
    go_ret
    refine ⟨true,rfl,?_⟩
    show Hid (if true=true then _ else _)
    rw [if_pos rfl]
    refine Hd ⟨HS.out,G8,B10.out,?_⟩
    have e10:nd (h+1) (A++(x.1,x.2.1,joinT h x.2.2 y.1 y.2.2)::B:List (Kid h))=.inner ((A++[x]).map (fun x:Kid h=>(x.1,x.2.1))++B.map (fun x:Kid h=>(x.1,x.2.1))):=by simp [nd]
    rw [e10];exact N10.out)
  ·have hI:(((nd h (joinT h x.2.2 y.1 y.2.2)).size:Nat):Int) > 512:=by omega
   have hI2:(512:Int)<(((nd h (joinT h x.2.2 y.1 y.2.2)).size:Nat):Int):=by omega
   clear hs k3 kx v4
   go_wp2_with fail
   go_ret
   refine ⟨false,rfl,?_⟩
   show Hid (if false=true then _ else _)
   rw [if_neg (by simp)]
   exact Hd ⟨B5.out,N5.out⟩)
def TidyEnd (w0 w':World) (G0:Nat->Prop) (tb rb place n m:Nat) (S:RS) (q:Nat) (h p:Nat) (t:PT (h+1)) (key:ByteArray):Prop :=
 ∃ S2 G' u,TBase w0 w' G0 G' tb rb place n (m+4) S2/\Nod w0 w' G' q (nd (h+1) u)/\Opn S S2 (h+1) p t key u
theorem RdN.keys {w0 W:World} {G:Nat->Prop} {q:Nat} {d:Nd} (h:RdN w0 W G q d):∃ a c,W.cell? ⟨q,1,none⟩=some (.slice a d.len c):=by
 obtain ⟨vk,vv,vi,a⟩:=h.view
 obtain ⟨x,c,rfl⟩:=a.ks.form
 have:=cell_lit (i:=1) a.blk rfl
 rw [List.length_map] at this
 exact ⟨x,c,this⟩
theorem joined_i (w0 W:World) (G0 G:Nat->Prop) (tb rb place n m:Nat) (S S1:RS) (q:Nat) {h p:Nat} {t:PT (h+1)} {key:ByteArray} (A B:List (Kid h)) (x y:Kid h) (hB:TBase w0 W G0 G tb rb place n m S1) (hN:Nod w0 W G q (nd (h+1) (A++x::y::B:List (Kid h)))) (hO:Opn S S1 (h+1) p t key (A++x::y::B:List (Kid h))) (hm:m<=3998000) (i:Int) (hi:(A.length:Int)=i) :
 Calls Tryz.prog 219 #[.pointer (some ⟨tb,0,none⟩),.pointer (some ⟨q,0,none⟩),.int .i64 i] W fun e w'=>∃ b:Bool,e=.returned (.bool b)/\Hid (if b then TidyEnd w0 w' G0 tb rb place n m S q h p t key else TBase w0 w' G0 G tb rb place n m S1/\Nod w0 w' G q (nd (h+1) (A++x::y::B:List (Kid h)))):=by
 subst hi
 refine (joined_c w0 W G0 G tb rb place n m S S1 q A B x y hB hN hO hm).mono ?_
 rintro e w' ⟨b,rfl,hj⟩
 refine ⟨b,rfl,?_⟩
 have hj2:=hj.out
 unfold JoinEnd at hj2
 cases b with
 | false=>rw [if_neg (by simp)] at hj2 ⊢;exact hj2
 | true =>
   rw [if_pos rfl] at hj2 ⊢
   obtain ⟨hs,G',b',n'⟩:=hj2
   exact ⟨_,G',_,b'.more (by omega),n',(hO.join hs).2.2.2⟩
theorem nil_or_snoc {α:Type} (A:List α):A=[]\/∃ A' z,A=A'++[z]:=by
 rcases List.eq_nil_or_concat A with h|⟨B,z,h⟩
 ·exact .inl h
 ·exact .inr ⟨B,z,by rw [h,List.concat_eq_append]⟩
theorem snoc_fix {α:Type} (A:List α) (z x:α) (B:List α):(A++[z])++x::B=A++z::x::B:=by simp
theorem TidyEnd.of {w0 w':World} {G0 G':Nat->Prop} {tb rb place n m:Nat} {S S2:RS} {q h p:Nat} {t u:PT (h+1)} {key:ByteArray} (hB:TBase w0 w' G0 G' tb rb place n m S2) (hN:Nod w0 w' G' q (nd (h+1) u)) (hO:Opn S S2 (h+1) p t key u):TidyEnd w0 w' G0 tb rb place n m S q h p t key:=⟨S2,G',u,hB.more (by omega),hN,hO⟩
theorem tidy_some (w0 W:World) (G0 G:Nat->Prop) (tb rb place n m:Nat) (S S1:RS) (q qk:Nat) {h p:Nat} {key:ByteArray} (A B:List (Kid h)) (x:Kid h) (t':PT h) (i:Nat) (hi:A.length=i) (hB:TBase w0 W G0 G tb rb place n m S1) (hN:Nod w0 W G q (nd (h+1) (A++x::B:List (Kid h)))) (hK:Nod w0 W G qk (nd h t')) (t:PT (h+1)) (htt:t=(A++x::B:List (Kid h))) (hT:Tr S (h+1) p t) (hR:RemOne S S1 h x.2.1 x.2.2 key t') (hpos:0<(nd h t').len) (hm:m<=3998000) :
 Calls Tryz.prog 181 #[.pointer (some ⟨tb,0,none⟩),.pointer (some ⟨q,0,none⟩),.int .i64 (i:Int),.pointer (some ⟨qk,0,none⟩)] W fun e w'=>e=.returned (.tuple #[])/\Hid (TidyEnd w0 w' G0 tb rb place n m S q h p t key):=by
 have hO:Opn S S1 (h+1) p t key (A++(x.1,x.2.1,t')::B:List (Kid h)):=by subst htt;exact Opn.kidOne hT hR hpos
 have okk:(nd h t').Ok:=hR.op.wf.ok hpos (Nat.le_trans hR.op.siz (by decide))
 have TS:=Hd (tail_size hK okk)
 obtain ⟨ka,kc,k1⟩:=hK.rd.keys
 have hNx:=hN
 rw [show nd (h+1) (A++x::B:List (Kid h))=nd (h+1) (A++(x.1,x.2.1,t')::B:List (Kid h)) by simp [nd]] at hNx
 have hsz:=hR.op.siz
 have hAl:i<=65536:=by
  have h1:=hT.fit
  rw [htt] at h1
  have h2:=size_len (nd (h+1) (A++x::B:List (Kid h)))
  rw [nd_lenS,List.length_append] at h2;omega
 have k3:∃ a c,W.cell? ⟨q,3,none⟩=some (.slice a (A.length+1+B.length) c):=by
  have:=hN.rd
  rw [nd_of_mid] at this
  obtain ⟨g1,o1,c1,g2,o2,c2,e1,e3,-⟩:=this.at (by simp;omega)
  refine ⟨some ⟨g2,o2,none⟩,c2,?_⟩
  rw [e3];simp;omega
 obtain ⟨a3,c3,k3⟩:=k3
 have HO:=Hd hO
 have HNX:=Hd hNx
 have HB:=Hd hB
 have HM:=Hd hm
 have HI:=Hd hi
 have hln:¬(((nd h t').len:Nat):Int)=0:=by omega
 have hln2:((((nd h t').len:Nat):Int) == 0)=false:=by simpa using hln
 have hln3:¬(nd h t').len=0:=by omega
 clear hO okk hN hK hT hR hNx hB hm hi hpos htt
 generalize (nd h t').len=kl at *
 go_enter Tryz.func181,Tryz.ntmps181
 go_wp2_with fail
 refine TS.out.mono ?_
 rintro e w1 ⟨rfl,rfl⟩
 clear TS hln hln2 hln3 k1
 by_cases h128:128<=(nd h t').size
 ·have hS1:(128:Int)<=(((nd h t').size:Nat):Int):=by omega
  clear k3
  go_wp2_with fail
  first|go_end0|refine bodyPost_ret (results_none rfl _ _ _) rfl ?_
  exact ⟨rfl,TidyEnd.of HB.out HNX.out HO.out⟩
 ·have hS1:¬(128:Int)<=(((nd h t').size:Nat):Int):=by omega
  have w1x:IntKind.i64.wrap ((i:Int)+1)=(i:Int)+1:=wrap_small (by omega) (by omega)
  cases B with
  | nil =>
    have hc1:¬((i:Int)+1<((A.length+1+([]:List (Kid h)).length:Nat):Int)):=by have:=HI.out;simp;omega
    generalize A.length+1+([]:List (Kid h)).length=NN at *
    clear h128 hsz
    by_cases hi0:0<i
    ·rcases nil_or_snoc A with hA0|⟨A',z,hA0⟩
     ·subst hA0;have:=HI.out;simp at this;omega
     ·subst hA0
      have hI1:(0:Int)<(i:Int):=by omega
      have hI2:IntKind.i64.wrap ((i:Int)-1)=(i:Int)-1:=wrap_small (by omega) (by omega)
      have J2:Hid (Calls Tryz.prog 219 #[.pointer (some ⟨tb,0,none⟩),.pointer (some ⟨q,0,none⟩),.int .i64 ((i:Int)-1)] _ _):=Hd (joined_i w0 _ G0 G tb rb place n m S S1 q A' [] z (x.1,x.2.1,t') (HB.out) (by have:=HNX.out;rw [snoc_fix] at this;exact this) (by have:=HO.out;rw [snoc_fix] at this;exact this) HM.out ((i:Int)-1) (by have:=HI.out;simp at this;omega))
      go_wp2_with fail
      refine J2.out.mono ?_
      rintro e w9 ⟨b2,rfl,HJ2⟩
      clear J2 hI1 hI2
      go_wp2_with fail
      first|go_end0|refine bodyPost_ret (results_none rfl _ _ _) rfl ?_
      refine ⟨rfl,?_⟩
      have hj:=HJ2.out
      cases b2 with
      | true =>
        first|rw [if_pos rfl] at hj|rw [if_pos trivial] at hj
        exact hj
      | false =>
        rw [if_neg (by simp)] at hj
        exact TidyEnd.of hj.1 hj.2 (by have:=HO.out;rw [snoc_fix] at this;exact this)
    ·have hI1:¬(0:Int)<(i:Int):=by omega
     go_wp2_with fail
     first|go_end0|refine bodyPost_ret (results_none rfl _ _ _) rfl ?_
     exact ⟨rfl,TidyEnd.of (HB.out) (HNX.out) HO.out⟩
  | cons y B' =>
    have hc1:((i:Int)+1<((A.length+1+(y::B').length:Nat):Int)):=by have:=HI.out;simp;omega
    generalize A.length+1+(y::B').length=NN at *
    have J1:=Hd (joined_i w0 w1 G0 G tb rb place n m S S1 q A B' (x.1,x.2.1,t') y HB.out HNX.out HO.out HM.out (i:Int) (by rw [HI.out]))
    clear h128 hsz
    go_wp2_with fail
    refine J1.out.mono ?_
    rintro e w7 ⟨b1,rfl,HJ1⟩
    clear J1
    cases b1 with
    | true =>
      clear k3
      go_wp2_with fail
      first|go_end0|refine bodyPost_ret (results_none rfl _ _ _) rfl ?_
      refine ⟨rfl,?_⟩
      have hj:=HJ1.out
      first|rw [if_pos rfl] at hj|rw [if_pos trivial] at hj
      exact hj
    | false =>
      have hj:=HJ1.out
      rw [if_neg (by simp)] at hj
      have HBJ:=Hd hj.1
      have HNJ:=Hd hj.2
      clear hj HJ1 k3 hc1 HB HNX
      by_cases hi0:0<i
      ·rcases nil_or_snoc A with hA0|⟨A',z,hA0⟩
       ·subst hA0;have:=HI.out;simp at this;omega
       ·subst hA0
        have hI1:(0:Int)<(i:Int):=by omega
        have hI2:IntKind.i64.wrap ((i:Int)-1)=(i:Int)-1:=wrap_small (by omega) (by omega)
        have J2:Hid (Calls Tryz.prog 219 #[.pointer (some ⟨tb,0,none⟩),.pointer (some ⟨q,0,none⟩),.int .i64 ((i:Int)-1)] _ _):=Hd (joined_i w0 _ G0 G tb rb place n m S S1 q A' (y::B') z (x.1,x.2.1,t') (HBJ.out) (by have:=HNJ.out;rw [snoc_fix] at this;exact this) (by have:=HO.out;rw [snoc_fix] at this;exact this) HM.out ((i:Int)-1) (by have:=HI.out;simp at this;omega))
        go_wp2_with fail
        refine J2.out.mono ?_
        rintro e w9 ⟨b2,rfl,HJ2⟩
        clear J2 hI1 hI2
        go_wp2_with fail
        first|go_end0|refine bodyPost_ret (results_none rfl _ _ _) rfl ?_
        refine ⟨rfl,?_⟩
        have hj:=HJ2.out
        cases b2 with
        | true =>
          first|rw [if_pos rfl] at hj|rw [if_pos trivial] at hj
          exact hj
        | false =>
          rw [if_neg (by simp)] at hj
          exact TidyEnd.of hj.1 hj.2 (by have:=HO.out;rw [snoc_fix] at this;exact this)
      ·have hI1:¬(0:Int)<(i:Int):=by omega
       go_wp2_with fail
       first|go_end0|refine bodyPost_ret (results_none rfl _ _ _) rfl ?_
       exact ⟨rfl,TidyEnd.of (HBJ.out) (HNJ.out) HO.out⟩
theorem TBase.trans {w0 W W':World} {G0 G G':Nat->Prop} {tb rb place n m m':Nat} {S S':RS} (a:TBase w0 W G0 G tb rb place n m S) (b:TBase W W' G G' tb rb place n m' S'):TBase w0 W' G0 G' tb rb place n m' S':=by
 have hs:=a.up.size
 refine ⟨b.room,a.up.trans' b.up fun j hj e=>(a.sub j e).resolve_right (by omega),fun k hk=>?_,b.blk,b.gt,a.tl⟩
 rcases b.sub k hk with e|e
 ·exact a.sub k e
 ·exact .inr (by omega)
theorem TBase.turn {w0 W:World} {G0 G:Nat->Prop} {tb rb place n m:Nat} {S:RS} (a:TBase w0 W G0 G tb rb place n m S):Turn G0 G w0 W:=⟨a.up,a.sub⟩
theorem Nod.base {w0 W W':World} {G:Nat->Prop} {q:Nat} {d:Nd} (h:Nod W W' G q d) (hs:w0.heap.size<=W.heap.size):Nod w0 W' G q d:=by
 obtain ⟨F,a,b⟩:=h;exact ⟨F,a,fun k hk=>⟨Nat.le_trans hs (b k hk).1,(b k hk).2⟩⟩
theorem Opn.written {S S1:RS} {h p:Nat} {t u:PT h} {key:ByteArray} (H:Opn S S1 h p t key u) (hz:0<(nd h u).len):RemOne S (wrS S1 p (nd h u)) h p t key u:=by
 have T:=Tr.write H.wf hz H.siz H.kid (by rw [pgs_low];exact H.nod) H.use
 exact ⟨⟨H.wf,H.siz,T.kids,H.nod,H.use,H.del,H.frm.trans (Frm.write _ _ _ _ (by simp)),fun n c hc=>(H.spr n c hc).write,H.lenD,H.wtD⟩,fun _=>T.on⟩
theorem tidy_none (w0 W:World) (G0 G:Nat->Prop) (tb rb place n m:Nat) (S S1:RS) (q qk:Nat) {h p:Nat} {key:ByteArray} (A B:List (Kid h)) (x:Kid h) (t':PT h) (i:Nat) (hi:A.length=i) (hB:TBase w0 W G0 G tb rb place n m S1) (hN:Nod w0 W G q (nd (h+1) (A++x::B:List (Kid h)))) (hK:Nod w0 W G qk (nd h t')) (t:PT (h+1)) (htt:t=(A++x::B:List (Kid h))) (hT:Tr S (h+1) p t) (hR:RemOne S S1 h x.2.1 x.2.2 key t') (hz:(nd h t').len=0) (hm:m<=3998000) :
 Calls Tryz.prog 181 #[.pointer (some ⟨tb,0,none⟩),.pointer (some ⟨q,0,none⟩),.int .i64 (i:Int),.pointer (some ⟨qk,0,none⟩)] W fun e w'=>e=.returned (.tuple #[])/\Hid (TidyEnd w0 w' G0 tb rb place n m S q h p t key):=by
 have hO:S1.used x.2.1=true/\Opn S (frS S1 x.2.1) (h+1) p t key (A++B:List (Kid h)):=by subst htt;exact Opn.kidNone hT hR hz
 obtain ⟨ka,kc,k1⟩:=hK.rd.keys
 rw [hz] at k1
 obtain ⟨t0,t1⟩:=hB.blk.cells
 have hAl:i<=65536:=by
  have h1:=hT.fit
  rw [htt] at h1
  have h2:=size_len (nd (h+1) (A++x::B:List (Kid h)))
  rw [nd_lenS,List.length_append] at h2;omega
 have hNx:=hN
 rw [show nd (h+1) (A++x::B:List (Kid h))=.inner (A.map (fun x:Kid h=>(x.1,x.2.1))++(x.1,x.2.1)::B.map (fun x:Kid h=>(x.1,x.2.1))) by simp [nd]] at hNx
 obtain ⟨g3,off,cap3,k3,k2⟩:=kids_at hNx.rd
 rw [List.length_map,List.length_map] at k3
 rw [List.length_map] at k2
 have hlt:(i:Int)<((A.length+1+B.length:Nat):Int):=by omega
 rw [hi] at k2
 have FREE:Hid (Calls Tryz.prog 132 #[.pointer (some ⟨rb,0,none⟩),.int .i64 (x.2.1:Int)] W.drew fun e w'=>e=.returned (.int .i64 0)/\(w'.cell? ⟨tb,0,none⟩=some (.pointer (some ⟨rb,0,none⟩))/\w'.cell? ⟨q,3,none⟩=some (.slice (some ⟨g3,off,none⟩) (A.length+1+B.length) cap3)/\w'.cell? ⟨g3,off+i,none⟩=some (.int .i64 (x.2.1:Int)))/\Hid (∃ G',TBase w0 w' G0 G' tb rb place n (m+1) (frS S1 x.2.1)/\Turn G G' W w')):=Hd (by
  have hd:=(Below.refl W.heap.size W).drew
  refine (tail_free (hB.below hd) (by omega) hO.1).mono ?_
  rintro e w' ⟨rfl,G8,b8,tn8⟩
  have tn:Turn G G8 W w':=tn8.below_left hd
  refine ⟨rfl,⟨b8.blk.cells.1,?_,?_⟩,G8,b8,tn⟩
  ·obtain ⟨F,⟨vk,vv,vi,a⟩,b⟩:=hN
   exact (World.cell?_of_block (tn.upd.block q (lt_of_heap a.blk) (b q ((a.own q).2 (.inl rfl))).2)).trans k3
  ·obtain ⟨F,⟨vk,vv,vi,a⟩,b⟩:=hN
   have e3:=cell_lit (i:=3) a.blk rfl
   rw [k3] at e3
   have e4:vi.ownBlock=some g3:=by cases e3;rfl
   exact (World.cell?_of_block (tn.upd.block g3 (World.block_lt_of_cell? _ _ k2) (b g3 ((a.own g3).2 (.inr (.inr (.inr e4))))).2)).trans k2)
 have HO:=Hd hO.2
 have HNX:=Hd hNx
 have HB:=Hd hB
 have HI:=Hd hi
 have MU:=must_c
 generalize A.length+1+B.length=NN at *
 clear hO hN hNx hB hi hT hR hz hK htt hm
 go_enter Tryz.func181,Tryz.ntmps181
 go_wp2_with fail
 go_region_held3 (fun w'=>w'.cell? ⟨tb,0,none⟩=some (.pointer (some ⟨rb,0,none⟩))/\w'.cell? ⟨q,3,none⟩=some (.slice (some ⟨g3,off,none⟩) NN cap3)/\w'.cell? ⟨g3,off+i,none⟩=some (.int .i64 (x.2.1:Int))) (go_keep) ((first
  | (go_at_call 132
     refine Calls.at_args FREE.out (by with_reducible rfl) ?_
     rintro e w8 ⟨rfl,hkf,HFR⟩)
  | (go_at_call 131;refine (MU _).mono ?_;rintro e w9 ⟨rfl,rfl⟩)))
 all_goals (
  obtain ⟨G8,b8,tn8⟩:=HFR.out
  have B8:=Hd b8
  have hn8:=HNX.out.turn tn8
  obtain ⟨F8,y1,y2⟩:=hn8
  have RM:=remove_inner F8 q (A.map (fun x:Kid h=>(x.1,x.2.1))) (B.map (fun x:Kid h=>(x.1,x.2.1))) (x.1,x.2.1) _ y1 (by have:=HI.out;simp;omega)
  rw [List.length_map,HI.out] at RM
  have RM2:=Hd RM
  have Y2:=Hd y2
  clear y1 y2 b8 tn8 RM HFR FREE hkf t0 t1 k3 k2 hlt k1
  go_wp2_with fail
  refine RM2.out.mono ?_
  rintro e w10 ⟨rfl,HG10⟩
  obtain ⟨F10,z1,z2,hu10⟩:=HG10.out
  have B10:=Hd (B8.out.node hu10 Y2.out)
  have N10:=Hd (Nod.go (w0:=w0) (G:=G8) Y2.out HG10.out B8.out.room.lt B8.out.up.size)
  clear RM2 HG10 hu10 z1 z2 Y2 B8
  go_wp2_with fail
  first|go_end0|refine bodyPost_ret (results_none rfl _ _ _) rfl ?_
  exact ⟨rfl,_,_,(A++B:List (Kid h)),B10.out.more (by omega),(by rw [nd_away];exact N10.out),HO.out⟩)
theorem tidy_c (w0 W:World) (G0 G:Nat->Prop) (tb rb place n m:Nat) (S S1:RS) (q qk:Nat) {h p:Nat} {key:ByteArray} (A B:List (Kid h)) (x:Kid h) (t':PT h) (hB:TBase w0 W G0 G tb rb place n m S1) (hN:Nod w0 W G q (nd (h+1) (A++x::B:List (Kid h)))) (hK:Nod w0 W G qk (nd h t')) (hT:Tr S (h+1) p (A++x::B:List (Kid h))) (hR:RemOne S S1 h x.2.1 x.2.2 key t') (hm:m<=3998000) :
 Calls Tryz.prog 181 #[.pointer (some ⟨tb,0,none⟩),.pointer (some ⟨q,0,none⟩),.int .i64 (A.length:Nat),.pointer (some ⟨qk,0,none⟩)] W fun e w'=>e=.returned (.tuple #[])/\Hid (TidyEnd w0 w' G0 tb rb place n m S q h p (A++x::B:List (Kid h)) key):=by
 by_cases hz:0<(nd h t').len
 ·exact tidy_some w0 W G0 G tb rb place n m S S1 q qk A B x t' A.length rfl hB hN hK _ rfl hT hR hz hm
 ·exact tidy_none w0 W G0 G tb rb place n m S S1 q qk A B x t' A.length rfl hB hN hK _ rfl hT hR (by omega) hm
def RemEnd (w w':World) (G:Nat->Prop) (tb rb place n m m':Nat) (S:RS) (h p:Nat) (t:PT h) (key:ByteArray) (q:Nat) (was:Bool):Prop :=
 if was then ∃ S' G' u,TBase w w' G G' tb rb place n m' S'/\Nod w w' G' q (nd h u)/\RemOne S S' h p t key u
 else TBase w w' G G tb rb place n m S/\∀ e∈ents h t,e.1≠key
theorem remove_c:∀ (h:Nat) (G:Nat->Prop) (tb rb place n m:Nat) (S:RS) (p:Nat) (t:PT h) (key:ByteArray) (deep:Nat) (w:World) (_:RmS w G rb n m S) (_:TB w tb rb place) (_:¬G tb) (_:Tr S h p t) (_:deep+h<=20) (_:m+8*(h+1)<=3998000),
 Calls Tryz.prog 130 #[.pointer (some ⟨tb,0,none⟩),.int .i64 (p:Int),.string key,.int .i64 (deep:Int)] w fun e w'=>∃ (was:Bool) (q:Nat),e=.returned (.tuple #[.bool was,.pointer (some ⟨q,0,none⟩)])/\Hid (RemEnd w w' G tb rb place n m (m+8*(h+1)) S h p t key q was)
 | 0,G,tb,rb,place,n,m,S,p,t,key,deep,w,h,ht,hg,hT,hdp,hm=>by
   have hnot:∀ (x:Bool) (w:World),(Op.unary .not (.bool x)).run Tryz.prog w=.ok (.bool (!x)) w:=fun _ _=>rfl
   have RD:=Hd (read_c G tb rb place n m S p (nd 0 t) w h ht (by omega) hT.ok hT.fit hT.on.top.1 hT.on.top.2)
   have B0:=Hd (TBase.start h ht hg)
   have HM1:Hid (m<=3999000):=Hd (by omega)
   have HM2:Hid (m+1<=m+8*(0+1)):=Hd (by omega)
   have HM3:Hid (m<=m+8*(0+1)):=Hd (by omega)
   have HG:=Hd h.lt
   have hd1:¬(20:Int)<(deep:Int):=by omega
   obtain ⟨A,B,rfl,hA,hB,hor⟩:=lb_split t key hT.wf.srt
   have HT:=Hd hT
   have HL:Hid ((Nd.leaf (A++B)).len<=1000000):=Hd (Nat.le_of_lt (Nat.lt_trans hT.ok.few (by decide)))
   have HPOS:Hid (0<(Nd.leaf (A++B)).len):=Hd hT.pos
   have HA:=Hd hA
   have HB:=Hd hB
   have hAl:A.length<=65536:=by have:=hT.ok.few;rw [nd_len0,List.length_append] at this;omega
   clear h ht hg hT hm hA hB hdp
   rcases hor with ⟨v,B',rfl,hB'⟩|hB'
   ·have OP:=Hd (Opn.leaf HT.out)
    clear hB'
    go_enter Tryz.func130,Tryz.ntmps130
    go_wp2_with fail
    refine RD.out.mono ?_
    rintro e w1 ⟨q,rfl,HQ⟩
    obtain ⟨F,x1,x2,x3⟩:=HQ.out
    have N1:=Hd (Nod.start (w0:=w) (G:=G) x1 x2 HG.out)
    have B1:=Hd (B0.out.below x3)
    obtain ⟨vk,vv,vi,hv1⟩:=N1.out.rd.view
    have c0:w1.cell? ⟨q,0,none⟩=some (.bool true):=cell_lit hv1.blk rfl
    have FD:=Hd (find_c true q (.leaf (A++(key,v)::B')) vk vv vi (A.map Prod.fst) (key::B'.map Prod.fst) key w1 hv1 (by simp [Nd.keys]) HPOS.out HL.out (fun a ha=>by obtain ⟨e,he,rfl⟩:=List.mem_map.1 ha;exact HA.out e he) (fun b hb=>by
     rcases List.mem_cons.1 hb with rfl|hb
     ·exact kless_irrefl _
     ·obtain ⟨e,he,rfl⟩:=List.mem_map.1 hb;exact HB.out e (by simp [he])) ⟨fun _=>⟨_,rfl⟩,fun _=>rfl⟩)
    rw [List.length_map] at FD
    clear x1 x2 x3 HQ hv1 RD B0
    go_wp2_with fail
    refine FD.out.mono ?_
    rintro e w2 ⟨rfl,qn,rfl⟩
    have N2:=N1.out.below (drewN_below w1 qn)
    have B2:=B1.out.below (drewN_below w1 qn)
    generalize w1.drewN qn=w2 at *
    obtain ⟨F2,y1,y2⟩:=N2
    have RM:=Hd (remove_leaf F2 q A B' (key,v) w2 y1 (by omega))
    have Y2:=Hd y2
    have B2':=Hd B2
    clear y1 y2 B2 N1 B1 FD c0
    go_wp2_with fail
    refine RM.out.mono ?_
    rintro e w3 ⟨rfl,HI⟩
    have NT:Hid (Nod w w3 G q (nd 0 (A++B'))):=Hd (Nod.go Y2.out HI.out B2'.out.room.lt B2'.out.up.size)
    have BT:=Hd (B2'.out.node (by obtain ⟨F',a,b,c⟩:=HI.out;exact c) Y2.out)
    clear RM Y2 B2' HI
    obtain ⟨ka,kc,k1⟩:=NT.out.rd.keys
    by_cases hz:0<(nd 0 (A++B')).len
    ·have hI:(0:Int)<(((nd 0 (A++B')).len:Nat):Int):=by omega
     have okU:(nd 0 (A++B')).Ok:=OP.out.wf.ok hz (Nat.le_trans OP.out.siz (by decide))
     have TW:=Hd (tail_write BT.out p NT.out.rd okU OP.out.siz OP.out.use HM1.out)
     have HZ:=Hd hz
     clear hz okU
     go_wp2_with fail
     refine TW.out.mono ?_
     rintro e w8 ⟨rfl,HW⟩
     obtain ⟨G8,b8,tn8⟩:=HW.out
     have HB8:=Hd (b8.more HM2.out)
     have HN8:=Hd (NT.out.turn tn8)
     clear TW HW b8 tn8 k1 hI
     go_wp2_with fail
     go_ret2
     refine ⟨true,q,rfl,?_⟩
     show Hid (if true=true then _ else _)
     rw [if_pos rfl]
     exact Hd ⟨_,G8,_,HB8.out,HN8.out,OP.out.written HZ.out⟩
    ·have hI:¬(0:Int)<(((nd 0 (A++B')).len:Nat):Int):=by omega
     have HZ:=Hd hz
     clear hz
     go_wp2_with fail
     go_ret2
     refine ⟨true,q,rfl,?_⟩
     show Hid (if true=true then _ else _)
     rw [if_pos rfl]
     exact Hd ⟨_,_,_,BT.out.more HM3.out,NT.out,OP.out,fun h=>absurd h HZ.out⟩
   ·have HB2:=Hd hB'
    clear hB'
    go_enter Tryz.func130,Tryz.ntmps130
    go_wp2_with fail
    refine RD.out.mono ?_
    rintro e w1 ⟨q,rfl,HQ⟩
    obtain ⟨F,x1,x2,x3⟩:=HQ.out
    have N1:=Hd (Nod.start (w0:=w) (G:=G) x1 x2 HG.out)
    have B1:=Hd (B0.out.below x3)
    obtain ⟨vk,vv,vi,hv1⟩:=N1.out.rd.view
    have c0:w1.cell? ⟨q,0,none⟩=some (.bool true):=cell_lit hv1.blk rfl
    have FD:=Hd (find_c false q (.leaf (A++B)) vk vv vi (A.map Prod.fst) (B.map Prod.fst) key w1 hv1 (by simp [Nd.keys]) HPOS.out HL.out (fun a ha=>by obtain ⟨e,he,rfl⟩:=List.mem_map.1 ha;exact HA.out e he) (fun b hb=>by obtain ⟨e,he,rfl⟩:=List.mem_map.1 hb;exact HB.out e he) ⟨(fun e=>by cases e),(fun ⟨B',e⟩=>by
     have hm:key∈B.map Prod.fst:=by rw [e];simp
     obtain ⟨e',he,he2⟩:=List.mem_map.1 hm
     have:=HB2.out e' he
     rw [he2,kless_irrefl] at this;cases this)⟩)
    rw [List.length_map] at FD
    clear x1 x2 x3 HQ hv1 RD B0
    go_wp2_with fail
    refine FD.out.mono ?_
    rintro e w2 ⟨rfl,qn,rfl⟩
    have B2:=Hd (B1.out.below (drewN_below w1 qn))
    generalize w1.drewN qn=w2 at *
    clear N1 B1 FD c0
    go_wp2_with fail
    go_ret2
    refine ⟨false,q,rfl,?_⟩
    show Hid (if false=true then _ else _)
    rw [if_neg (by simp)]
    refine Hd ⟨B2.out,fun e he=>?_⟩
    rcases List.mem_append.1 (show e∈A++B from he) with he|he
    ·exact kless_ne (HA.out e he)
    ·exact fun e'=>kless_ne (HB2.out e he) e'.symm
 | hh+1,G,tb,rb,place,n,m,S,p,t,key,deep,w,h,ht,hg,hT,hdp,hm=>by
   have hnot:∀ (x:Bool) (w:World),(Op.unary .not (.bool x)).run Tryz.prog w=.ok (.bool (!x)) w:=fun _ _=>rfl
   have RD:=Hd (read_c G tb rb place n m S p (nd (hh+1) t) w h ht (by omega) hT.ok hT.fit hT.on.top.1 hT.on.top.2)
   have B0:=Hd (TBase.start h ht hg)
   have HM1:Hid (m+8*(hh+1)+4<=3999000):=Hd (by omega)
   have HM2:Hid (m+8*(hh+1)+4+1<=m+8*(hh+1+1)):=Hd (by omega)
   have HM3:Hid (m+8*(hh+1)+4<=m+8*(hh+1+1)):=Hd (by omega)
   have HM4:Hid (m+8*(hh+1)<=3998000):=Hd (by omega)
   have HG:=Hd h.lt
   have hd1:¬(20:Int)<(deep:Int):=by omega
   have hd2:deep<=20:=by omega
   have hlenO:=hT.ok.few
   have hpos:=hT.pos
   rw [nd_lenS] at hpos
   obtain ⟨A,x,B,rfl,hW,hA⟩:=way_split t key (hT.wf.2.keys fun x hx=>ents_pos (hT.wf.1 x hx).2.2.2.2 (hT.wf.1 x hx).2.2.1) hpos
   have hk:=hT.kid (x:=x) (by simp)
   have IH:Hid (∀ W G2,TBase w W G G2 tb rb place n m S->Calls Tryz.prog 130 #[.pointer (some ⟨tb,0,none⟩),.int .i64 (x.2.1:Int),.string key,.int .i64 ((deep:Int)+1)] W fun e w'=>∃ (was:Bool) (q:Nat),e=.returned (.tuple #[.bool was,.pointer (some ⟨q,0,none⟩)])/\Hid (RemEnd W w' G2 tb rb place n m (m+8*(hh+1)) S hh x.2.1 x.2.2 key q was)):=Hd fun W G2 hB=>by
    have:=remove_c hh G2 tb rb place n m S x.2.1 x.2.2 key (deep+1) W hB.room hB.blk hB.gt hk (by omega) (by omega)
    rw [show ((deep+1:Nat):Int)=(deep:Int)+1 by omega] at this
    exact this
   have HT:=Hd hT
   have HW:=Hd hW
   have HA:=Hd hA
   have HLEN:=Hd hlenO
   clear h ht hg hT hm hW hA hdp hk hpos hlenO
   go_enter Tryz.func130,Tryz.ntmps130
   go_wp2_with fail
   refine RD.out.mono ?_
   rintro e w1 ⟨q,rfl,HQ⟩
   obtain ⟨F,x1,x2,x3⟩:=HQ.out
   have N1:=Hd (Nod.start (w0:=w) (G:=G) x1 x2 HG.out)
   have B1:=Hd (B0.out.below x3)
   obtain ⟨vk,vv,vi,hv1⟩:=N1.out.rd.view
   have c0:w1.cell? ⟨q,0,none⟩=some (.bool false):=cell_lit hv1.blk rfl
   have WN:=Hd (way_nd N1.out.rd (Nat.le_of_lt (Nat.lt_trans HLEN.out (by decide))) HW.out HA.out)
   clear x1 x2 x3 HQ hv1 RD B0
   go_wp2_with fail
   refine WN.out.mono ?_
   rintro e w2 ⟨rfl,hb⟩
   have N2:=Hd (N1.out.below hb.out)
   have B2:=Hd (B1.out.below hb.out)
   have hN2:=N2.out.rd
   rw [show nd (hh+1) (A++x::B:List (Kid hh))=.inner (A.map (fun x:Kid hh=>(x.1,x.2.1))++(x.1,x.2.1)::B.map (fun x:Kid hh=>(x.1,x.2.1))) by simp [nd]] at hN2
   obtain ⟨g3,off,cap3,k1,k2⟩:=kids_at hN2
   rw [List.length_map,List.length_map] at k1
   rw [List.length_map] at k2
   have hlt:(A.length:Int)<((A.length+1+B.length:Nat):Int):=by omega
   have hlA:A.length<=65536:=by have:=HLEN.out;rw [nd_lenS,List.length_append,List.length_cons] at this;omega
   have IH2:=Hd (IH.out w2 G B2.out)
   clear hN2 IH N1 B1 WN c0 hb
   go_wp2_with fail
   refine IH2.out.mono ?_
   rintro e w3 ⟨was,qk,rfl,HP⟩
   clear IH2 k1 k2
   cases was with
   | false =>
     have hif:=HP.out
     unfold RemEnd at hif
     rw [if_neg (by simp)] at hif
     have HB3:=Hd (B2.out.trans hif.1)
     have HNO:=Hd hif.2
     clear hif HP
     go_wp2_with fail
     go_ret2
     refine ⟨false,q,rfl,?_⟩
     show Hid (if false=true then _ else _)
     rw [if_neg (by simp)]
     refine Hd ⟨HB3.out,fun e he=>?_⟩
     obtain ⟨w1,w2⟩:=HT.out.wf.2.way HW.out
     rw [ents_mid] at he
     rcases List.mem_append.1 he with he|he
     ·obtain ⟨y,hy,he⟩:=(ents_mem hh A e).1 he
      exact kless_ne (w1 y hy e he)
     ·rcases List.mem_append.1 he with he|he
      ·exact HNO.out e he
      ·obtain ⟨y,hy,he⟩:=(ents_mem hh B e).1 he
       exact fun e'=>kless_ne (w2 y hy e he) e'.symm
   | true =>
     have hif:=HP.out
     unfold RemEnd at hif
     rw [if_pos rfl] at hif
     obtain ⟨S3,G3,u3,b3,n3,r3⟩:=hif
     have TD:=Hd (tidy_c w w3 G G3 tb rb place n (m+8*(hh+1)) S S3 q qk A B x u3 (B2.out.trans b3) (N2.out.turn b3.turn) (n3.base B2.out.up.size) HT.out r3 HM4.out)
     clear b3 n3 r3 HP N2 B2
     go_wp2_with fail
     refine TD.out.mono ?_
     rintro e w4 ⟨rfl,HTD⟩
     obtain ⟨S4,G4,u4,b4,n4,o4⟩:=HTD.out
     have BT:=Hd b4
     have NT:=Hd n4
     have OP:=Hd o4
     clear TD HTD b4 n4 o4
     obtain ⟨ka,kc,k1⟩:=NT.out.rd.keys
     by_cases hz:0<(nd (hh+1) u4).len
     ·have hI:(0:Int)<(((nd (hh+1) u4).len:Nat):Int):=by omega
      have okU:(nd (hh+1) u4).Ok:=OP.out.wf.ok hz (Nat.le_trans OP.out.siz (by decide))
      have TW:=Hd (tail_write BT.out p NT.out.rd okU OP.out.siz OP.out.use HM1.out)
      have HZ:=Hd hz
      clear hz okU
      go_wp2_with fail
      refine TW.out.mono ?_
      rintro e w8 ⟨rfl,HW⟩
      obtain ⟨G8,b8,tn8⟩:=HW.out
      have HB8:=Hd (b8.more HM2.out)
      have HN8:=Hd (NT.out.turn tn8)
      clear TW HW b8 tn8 k1 hI
      go_wp2_with fail
      go_ret2
      refine ⟨true,q,rfl,?_⟩
      show Hid (if true=true then _ else _)
      rw [if_pos rfl]
      exact Hd ⟨_,G8,_,HB8.out,HN8.out,OP.out.written HZ.out⟩
     ·have hI:¬(0:Int)<(((nd (hh+1) u4).len:Nat):Int):=by omega
      have HZ:=Hd hz
      clear hz
      go_wp2_with fail
      go_ret2
      refine ⟨true,q,rfl,?_⟩
      show Hid (if true=true then _ else _)
      rw [if_pos rfl]
      exact Hd ⟨_,_,_,BT.out.more HM3.out,NT.out,OP.out,fun h=>absurd h HZ.out⟩
theorem FrmT.then {place:Nat} {P P1 P2:List Nat} {S S1 S2:RS} (a:FrmT place P P1 S S1) (b:Frm P1 P2 S1 S2):FrmT place P P2 S S2:=by
 refine ⟨fun q h u=>?_,fun q u=>?_,fun k hk=>(congrFun b.root k).trans (a.root k hk)⟩
 ·obtain ⟨h1,u1,c1⟩:=a.keep q h u
  obtain ⟨h2,u2,c2⟩:=b.keep q h1 u1
  exact ⟨h2,u2,c2.trans c1⟩
 ·rcases b.back q u with h|⟨u1,h1⟩
  ·exact .inl h
  ·rcases a.back q u1 with h|h
   ·exact absurd h h1
   ·exact .inr h
theorem FrmT.root' {place:Nat} {P P1:List Nat} {S S1:RS} (a:FrmT place P P1 S S1) (v:Nat):FrmT place P P1 S (setRootS S1 place v) :=
 ⟨a.keep,a.back,fun k hk=>by show upd S1.root place v k=_;unfold upd;rw [if_neg hk];exact a.root k hk⟩
structure RootSt (place n cr wr:Nat) (S S':RS) (P:List Nat) (E:List (ByteArray × ByteArray)) (h p:Nat) (u:PT h):Prop where
 wf:Wf h u
 siz:(nd h u).size<=512
 kid:Kids S' h u
 nod:(p::low h u).Nodup
 use:S'.used p=true
 cont:0<(nd h u).len->S'.cont p=pad (ofL (nd h u).bytes)
 root:S'.root place=p+1
 frm:FrmT place P (p::low h u) S S'
 ents:ents h u=E
 spr:∀ c,Spare S n c->Spare S' n c
 crd:4*h+6<=cr+1\/(1<=h/\4*h+min 6 (nd h u).len<=cr)
 crp:5<=cr
 wtl:wt h u<=wr
theorem RootSt.start {place n:Nat} {S S':RS} {h p:Nat} {t u:PT h} {key:ByteArray} (H:RemOne S S' h p t key u) (hr:S.root place=p+1) (hp:0<(nd h t).len):RootSt place n (crO (some ⟨h,p,t⟩)) (wtO (some ⟨h,p,t⟩)) S S' (pgs h p t) (Go.Proofs.YtdcjhpafipbpkaaGreatDoor.ents h u) h p u :=
 ⟨H.op.wf,H.op.siz,H.op.kid,H.op.nod,H.op.use,fun hz=>(H.on hz).top.2,by rw [H.op.frm.root];exact hr,H.op.frm.toT' place,rfl,H.op.spr n,by
  have:=H.op.lenD
  show 4*h+6<=(if h=0 then 6 else 4*h+min 6 (nd h t).len)+1\/(1<=h/\4*h+min 6 (nd h u).len<=(if h=0 then 6 else 4*h+min 6 (nd h t).len))
  by_cases h0:h=0
  ·left;rw [if_pos h0];omega
  ·right;rw [if_neg h0];omega,by
  show 5<=(if h=0 then 6 else 4*h+min 6 (nd h t).len)
  split <;> omega,H.op.wtD⟩
theorem RootSt.none {place n:Nat} {S S':RS} {o:Option TT} {E:List (ByteArray × ByteArray)} {h p:Nat} {u:PT h} {cr wr:Nat} (H:RootSt place n cr wr S S' (pgsO o) E h p u) (hz:(nd h u).len=0):MapGo place n S (setRootS (frS S' p) place 0) o Option.none/\E=[]:=by
 refine ⟨⟨setRoot_at _ _ _,?_⟩,by rw [<-H.ents];exact ents_nil hz⟩
 have hl:=low_nil hz
 have f:=H.frm
 rw [hl] at f
 exact (f.then (Frm.free [p] [] S' p H.use (fun q=>by simp) (by simp))).root' 0
theorem RootSt.done {place n:Nat} {S S':RS} {o:Option TT} {E:List (ByteArray × ByteArray)} {h p:Nat} {u:PT h} {cr wr:Nat} (H:RootSt place n cr wr S S' (pgsO o) E h p u) (hz:0<(nd h u).len):MapGo place n S S' o (some ⟨h,p,u⟩)/\crO (some ⟨h,p,u⟩)<=cr+1:=by
 refine ⟨⟨⟨H.root,H.wf,hz,H.siz,on_iff.2 ⟨⟨H.use,H.cont hz⟩,H.kid⟩,by rw [pgs_low];exact H.nod⟩,?_⟩,?_⟩
 ·show FrmT place (pgsO o) (pgs h p u) S S'
  rw [pgs_low];exact H.frm
 ·show (if h=0 then 6 else 4*h+min 6 (nd h u).len)<=cr+1
  rcases H.crd with e|e <;> split <;> omega
theorem RootSt.down {place n:Nat} {S S':RS} {P:List Nat} {E:List (ByteArray × ByteArray)} {h p:Nat} {x:Kid h} {cr wr:Nat} (H:RootSt place n cr wr S S' P E (h+1) p ([x]:List (Kid h))):S'.used x.2.1=true/\x.2.1<65536/\RootSt place n cr wr S (setRootS (frS S' p) place (x.2.1+1)) P E h x.2.1 x.2.2:=by
 have hx:=H.wf.1 x (by simp)
 have ox:On S' h x.2.1 x.2.2:=H.kid x (by simp)
 have hl:low (h+1) ([x]:List (Kid h))=x.2.1::low h x.2.2:=by
  rw [<-pgs_low];simp [low]
 have hn:=H.nod
 rw [hl] at hn
 obtain ⟨n1,n2⟩:=List.nodup_cons.1 hn
 have keep:∀ q∈x.2.1::low h x.2.2,(setRootS (frS S' p) place (x.2.1+1)).used q=S'.used q/\(setRootS (frS S' p) place (x.2.1+1)).cont q=S'.cont q:=fun q hq=>by
  refine ⟨?_,rfl⟩
  show flip S'.used p q=_
  unfold flip;rw [if_neg (fun e:q=p=>n1 (by rw [<-e];exact hq))]
 have ox':On (setRootS (frS S' p) place (x.2.1+1)) h x.2.1 x.2.2:=ox.frame fun q hq=>keep q (by rw [<-pgs_low];exact hq)
 refine ⟨ox.top.1,hx.2.1,hx.2.2.2.2,hx.2.2.2.1,(on_iff.1 ox').2,n2,ox'.top.1,fun _=>ox'.top.2,setRoot_at _ _ _,?_,by rw [<-H.ents];simp [Go.Proofs.YtdcjhpafipbpkaaGreatDoor.ents],fun c hc=>(H.spr c hc).freeS H.use,by
  have e1:(nd (h+1) ([x]:List (Kid h))).len=1:=by rw [nd_lenS];rfl
  have:=H.crd
  rw [e1] at this
  left;omega,H.crp,by
  have:=H.wtl
  rw [wt_cons] at this
  have h2:=Nat.le_max_right (2 ^ h) (wt h x.2.2)
  omega⟩
 have f:=H.frm
 rw [hl] at f
 exact (f.then (Frm.free _ (x.2.1::low h x.2.2) S' p H.use (fun q=>by simp) n1)).root' _
def DelGo (place n:Nat) (S S':RS) (o o':Option TT) (key:ByteArray):Prop :=
 MapGo place n S S' o o'/\Del key (entsO o) (entsO o')/\hgtO o'<=hgtO o/\(∀ c,Spare S n c->Spare S' n c)/\crO o'<=crO o+1/\wtO o'<=wtO o
def DelEnd (w w':World) (G:Nat->Prop) (rb n m place:Nat) (S:RS) (o:Option TT) (key:ByteArray) (was:Bool):Prop :=
 if was then ∃ S' o',StGo w w' G rb n (m+300) S'/\DelGo place n S S' o o' key else StGo w w' G rb n (m+300) S/\∀ e∈entsO o,e.1≠key
structure DelLoc (W:World) (b tb:Nat) (x:Bool):Prop where
 b0:W.heap[b]?=some (.cells #[.pointer (some ⟨tb,0,none⟩)] 103 (0,0))
 b1:W.heap[b+1]?=some (.cells #[.bool x] 4 (0,0))
 b2:W.heap[b+1+1]?=some (.cells #[.int .i64 0] 34 (0,0))
theorem DelLoc.upd {W W':World} {b tb:Nat} {x:Bool} {G:Nat->Prop} (h:DelLoc W b tb x) (hu:Upd G W W') (hn:∀ k,b<=k->k<b+4->¬G k):DelLoc W' b tb x :=
 ⟨hu.at h.b0 (hn _ (by omega) (by omega)),hu.at h.b1 (hn _ (by omega) (by omega)),hu.at h.b2 (hn _ (by omega) (by omega))⟩
theorem DelLoc.below {W W':World} {b tb:Nat} {x:Bool} (h:DelLoc W b tb x) (hb:Below W.heap.size W W'):DelLoc W' b tb x:=h.upd (hb.upd' (Nat.le_refl _)) (fun _ _ _ e=>e)
theorem DelLoc.cells {W:World} {b tb:Nat} {x:Bool} (h:DelLoc W b tb x):W.cell? ⟨b,0,none⟩=some (.pointer (some ⟨tb,0,none⟩))/\W.cell? ⟨b+1,0,none⟩=some (.bool x)/\W.cell? ⟨b+1+1,0,none⟩=some (.int .i64 0)/\W.frozen? ⟨b+1,0,none⟩=false/\W.frozen? ⟨b+1+1,0,none⟩=false/\b<W.heap.size :=
 ⟨cell_lit h.b0 rfl,cell_lit h.b1 rfl,cell_lit h.b2 rfl,frozen_lit h.b1 0,frozen_lit h.b2 0,lt_of_heap h.b0⟩
theorem DelLoc.setW {W:World} {b tb:Nat} {x:Bool} (h:DelLoc W b tb x) (y:Bool):DelLoc (W.setCell ⟨b+1,0,none⟩ (.bool y)) b tb y :=
 ⟨(heap_set_ne _ (by omega)).trans h.b0,heap_set_lit h.b1 _,(heap_set_ne _ (by omega)).trans h.b2⟩
theorem DelLoc.setE {W:World} {b tb:Nat} {x:Bool} (h:DelLoc W b tb x):DelLoc (W.setCell ⟨b+1+1,0,none⟩ (.int .i64 0)) b tb x :=
 ⟨(heap_set_ne _ (by omega)).trans h.b0,(heap_set_ne _ (by omega)).trans h.b1,heap_set_lit h.b2 _⟩
def delW (w:World) (tb:Nat) (k:Int):World:=(((w.alloc (.cells #[.pointer (some ⟨tb,0,none⟩)] 103)).alloc (.cells #[.bool false] 4)).alloc (.cells #[.int .i64 0] 34)).alloc (.cells #[.int .i64 k] 3)
theorem delW_below (w:World) (tb:Nat) (k:Int):Below w.heap.size w (delW w tb k):=((((Below.refl w.heap.size w).alloc (Nat.le_refl _) _).alloc (by simp) _).alloc (by simp;omega) _).alloc (by simp;omega) _
theorem delW_size (w:World) (tb:Nat) (k:Int):(delW w tb k).heap.size=w.heap.size+4:=by unfold delW;simp
theorem delW_loc (w:World) (tb:Nat) (k:Int):DelLoc (delW w tb k) w.heap.size tb false:=by
 refine ⟨?_,?_,?_⟩
 ·unfold delW;rw [heap_alloc_at,if_neg (by simp;omega),heap_alloc_at,if_neg (by simp;omega),heap_alloc_at,if_neg (by simp),heap_alloc_new]
 ·unfold delW;rw [heap_alloc_at,if_neg (by first|(simp;done)|(simp;omega)),heap_alloc_at,if_neg (by first|(simp;done)|(simp;omega)),heap_alloc_at,if_pos (by simp)]
 ·unfold delW;rw [heap_alloc_at,if_neg (by simp),heap_alloc_at,if_pos (by simp)]
structure StG (w W:World) (G G':Nat->Prop) (rb n m:Nat) (S:RS):Prop where
 room:RmS W G' rb n m S
 up:Upd G w W
 sub:∀ k,G' k->G k\/w.heap.size<=k
theorem StG.go {w W:World} {G G':Nat->Prop} {rb n m:Nat} {S:RS} (h:StG w W G G' rb n m S):StGo w W G rb n m S:=⟨G',h.room,h.up,h.sub⟩
theorem StG.of {w W0 W:World} {G G':Nat->Prop} {tb rb place n m:Nat} {S:RS} (h:TBase W0 W G G' tb rb place n m S) (hb:Below w.heap.size w W0):StG w W G G' rb n m S:=by
 refine ⟨h.room,((hb.upd' (Nat.le_refl _)).mono (S':=G) fun _ _ e=>False.elim e).trans h.up,fun k hk=>?_⟩
 rcases h.sub k hk with e|e
 ·exact .inl e
 ·have:=hb.size;exact .inr (by omega)
theorem StG.loc {w W:World} {G G':Nat->Prop} {rb n m:Nat} {S:RS} (h:StG w W G G' rb n m S) {x:Nat} (hx:w.heap.size<=x) (hn:¬G' x) (i:Nat) (v:Value):StG w (W.setCell ⟨x,i,none⟩ v) G G' rb n m S:=by
 have hu:Upd (fun k=>k=x) W (W.setCell ⟨x,i,none⟩ v):=Upd.setCell (S:=fun k=>k=x) (Upd.refl _ _) (p:=⟨x,i,none⟩) (.inl rfl) v
 exact ⟨h.room.frame hu fun k hk e=>hn (e ▸ hk),h.up.trans' hu fun j hj e=>absurd e (by omega),h.sub⟩
theorem StG.then {w W W':World} {G G' G'':Nat->Prop} {tb rb place n m m':Nat} {S S':RS} (h:StG w W G G' rb n m S) (b:TBase W W' G' G'' tb rb place n m' S'):StG w W' G G'' rb n m' S':=by
 have hs:=h.up.size
 refine ⟨b.room,h.up.trans' b.up fun j hj e=>(h.sub j e).resolve_right (by omega),fun k hk=>?_⟩
 rcases b.sub k hk with e|e
 ·exact h.sub k e
 ·exact .inr (by omega)
theorem StG.more {w W:World} {G G':Nat->Prop} {rb n m m':Nat} {S:RS} (h:StG w W G G' rb n m S) (hm:m<=m'):StG w W G G' rb n m' S:=⟨h.room.more hm,h.up,h.sub⟩
theorem RdN.loc {w0 W:World} {G:Nat->Prop} {q:Nat} {d:Nd} (h:RdN w0 W G q d) {x:Nat} (hx:x<w0.heap.size) (i:Nat) (v:Value):RdN w0 (W.setCell ⟨x,i,none⟩ v) G q d:=by
 obtain ⟨F,a,b⟩:=h
 exact ⟨F,a.upd (S:=fun k=>k=x) (Upd.setCell (S:=fun k=>k=x) (Upd.refl _ _) (p:=⟨x,i,none⟩) (.inl rfl) v) fun k hk _ e=>by have:=(b k hk).1;omega,b⟩
end Go.Proofs.YtdcjhpafipbpkaaGreatDoor
