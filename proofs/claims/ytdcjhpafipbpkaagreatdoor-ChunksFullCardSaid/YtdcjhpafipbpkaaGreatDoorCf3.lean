/- Parts of the proof of ChunksFull,joined: TreeR,TreeO,TreeS,TreeT,TreeU,TreeV,TreeW,TreeX,TreeY,TreeZ,MapA,MapB,DelA,DelB,DelC,DelD,DelE,DelF. No condition. -/
import Derived.Test.YtdcjhpafipbpkaaGreatDoorCf2
import Derived.Defers
import Derived.Recover
set_option maxRecDepth 100000
set_option maxHeartbeats 1000000
set_option linter.unusedSimpArgs false
set_option linter.unusedVariables false
set_option linter.unusedSectionVars false
namespace Go.Proofs.YtdcjhpafipbpkaaGreatDoor
open Go.RowKit
structure Frm (P P':List Nat) (S S':RS):Prop where
 keep:∀ q,q ∉ P->S.used q=true->q ∉ P'/\S'.used q=true/\S'.cont q=S.cont q
 back:∀ q,S'.used q=true->q∈P'\/(S.used q=true/\q ∉ P)
 root:S'.root=S.root
 base:S'.base=S.base
theorem Frm.refl (P:List Nat) (S:RS):Frm P P S S:=⟨λ q h u=>⟨h,u,rfl⟩,λ q u=>(Classical.em (q∈P)).imp id λ h=>⟨u,h⟩,rfl,rfl⟩
theorem Frm.trans {P P1 P2:List Nat} {S S1 S2:RS} (a:Frm P P1 S S1) (b:Frm P1 P2 S1 S2):Frm P P2 S S2:=by
 refine ⟨λ q h u=>?_,λ q u=>?_,b.root.trans a.root,b.base.trans a.base⟩
 ·obtain ⟨h1,u1,c1⟩:=a.keep q h u
  obtain ⟨h2,u2,c2⟩:=b.keep q h1 u1
  exact ⟨h2,u2,c2.trans c1⟩
 ·rcases b.back q u with h|⟨u1,h1⟩
  ·exact .inl h
  ·rcases a.back q u1 with h|h
   ·exact absurd h h1
   ·exact .inr h
theorem Frm.ctx {P P':List Nat} {S S':RS} (a:Frm P P' S S') (Q Q':List Nat) (X:List Nat) (hQ:∀ q,q∈Q ↔ q∈P\/q∈X) (hQ':∀ q,q∈Q' ↔ q∈P'\/q∈X):Frm Q Q' S S':=by
 refine ⟨λ q h u=>?_,λ q u=>?_,a.root,a.base⟩
 ·have h1:q ∉ P:=λ e=>h ((hQ q).2 (.inl e))
  have h2:q ∉ X:=λ e=>h ((hQ q).2 (.inr e))
  obtain ⟨h3,u1,c1⟩:=a.keep q h1 u
  exact ⟨λ e=>((hQ' q).1 e).elim h3 h2,u1,c1⟩
 ·rcases a.back q u with h|⟨u1,h1⟩
  ·exact .inl ((hQ' q).2 (.inl h))
  ·by_cases hx:q∈X
   ·exact .inl ((hQ' q).2 (.inr hx))
   ·exact .inr ⟨u1,λ e=>((hQ q).1 e).elim h1 hx⟩
def wrS (S:RS) (p:Nat) (d:Nd):RS:=⟨S.root,S.used,λ q=>if q=p then pad (ofL d.bytes) else S.cont q,S.base⟩
def frS (S:RS) (p:Nat):RS:=⟨S.root,zbn S.used p,S.cont,S.base⟩
theorem Frm.write (P:List Nat) (S:RS) (p:Nat) (d:Nd) (hp:p∈P):Frm P P S (wrS S p d):=by
 refine ⟨λ q h u=>⟨h,u,?_⟩,λ q u=>(Classical.em (q∈P)).imp id λ h=>⟨u,h⟩,rfl,rfl⟩
 show (if q=p then _ else _)=_
 rw [if_neg (λ e=>h (by rw [e];exact hp))]
theorem Frm.alloc (P:List Nat) (S:RS) (p:Nat) (hp:S.used p=false):Frm P (p::P) S (zaT S p):=by
 refine ⟨λ q h u=>?_,λ q u=>?_,rfl,rfl⟩
 ·have hne:q≠p:=λ e=>by rw [e,hp] at u;cases u
  refine ⟨by simp [hne,h],?_,?_⟩
  ·show zbn S.used p q=true
   unfold zbn;rw [if_neg hne];exact u
  ·show (if q=p then _ else _)=_
   rw [if_neg hne]
 ·by_cases hne:q=p
  ·exact .inl (by simp [hne])
  ·have:zbn S.used p q=true:=u
   unfold zbn at this;rw [if_neg hne] at this
   exact (Classical.em (q∈P)).imp (λ h=>by simp [h]) λ h=>⟨this,h⟩
theorem Frm.free (P P':List Nat) (S:RS) (p:Nat) (hu:S.used p=true) (hP:∀ q,q∈P ↔ q=p\/q∈P') (hn:p ∉ P'):Frm P P' S (frS S p):=by
 refine ⟨λ q h u=>?_,λ q u=>?_,rfl,rfl⟩
 ·have hne:q≠p:=λ e=>h ((hP q).2 (.inl e))
  refine ⟨λ e=>h ((hP q).2 (.inr e)),?_,rfl⟩
  show zbn S.used p q=true
  unfold zbn;rw [if_neg hne];exact u
 ·have u':zbn S.used p q=true:=u
  unfold zbn at u'
  by_cases hne:q=p
  ·rw [if_pos hne,hne,hu] at u';cases u'
  ·rw [if_neg hne] at u'
   exact (Classical.em (q∈P')).imp id λ h=>⟨u',λ e=>((hP q).1 e).elim hne h⟩
def low:(h:Nat)->PT h->List Nat
 | 0,_=>[]
 | h+1,l=>List.flatMap (λ x=>pgs h x.2.1 x.2.2) l
def zdc (S:RS):(h:Nat)->PT h->Prop
 | 0,_=>True
 | h+1,l=>∀ x∈(l:List (Kid h)),On S h x.2.1 x.2.2
theorem zaF (h p:Nat) (t:PT h):pgs h p t=p::low h t:=by cases h <;> rfl
theorem ze9 {S:RS} {h p:Nat} {t:PT h}:On S h p t ↔ (S.used p=true/\S.cont p=pad (ofL (nd h t).bytes))/\zdc S h t:=by
 cases h with
 | zero=>exact ⟨λ h=>⟨h,trivial⟩,λ h=>h.1⟩
 | succ h=>exact Iff.rfl
theorem zdc.frame {S S':RS} {h:Nat} {t:PT h} (H:zdc S h t) (hq:∀ q∈low h t,S'.used q=S.used q/\S'.cont q=S.cont q):zdc S' h t:=by
 cases h with
 | zero=>trivial
 | succ h=>exact λ x hx=>(H x hx).frame λ q h'=>hq q (List.mem_flatMap.2 ⟨x,hx,h'⟩)
theorem zdc.used {S:RS} {h:Nat} {t:PT h} (H:zdc S h t):∀ q∈low h t,S.used q=true:=by
 cases h with
 | zero=>intro q hq;simp [low] at hq
 | succ h =>
   intro q hq
   obtain ⟨x,hx,h'⟩:=List.mem_flatMap.1 hq
   exact (H x hx).used q h'
theorem Tr.write {S:RS} {h p:Nat} {t:PT h} (hw:Wf h t) (hp:0<(nd h t).len) (hs:(nd h t).size<=512) (hk:zdc S h t) (hn:(pgs h p t).Nodup) (hu:S.used p=true):Tr (wrS S p (nd h t)) h p t:=by
 refine ⟨hw,hp,hs,ze9.2 ⟨⟨hu,?_⟩,hk.frame λ q hq=>⟨rfl,?_⟩⟩,hn⟩
 ·show (if p=p then _ else _)=_
  rw [if_pos rfl]
 ·have hne:q≠p:=λ e=>by rw [zaF] at hn;exact (List.nodup_cons.1 hn).1 (e ▸ hq)
  show (if q=p then _ else _)=_
  rw [if_neg hne]
theorem Tr.fresh {S:RS} {h p:Nat} {t:PT h} (hw:Wf h t) (hp:0<(nd h t).len) (hs:(nd h t).size<=512) (hk:zdc S h t) (hn:(low h t).Nodup) (hu:S.used p=false):Tr (wrS (zaT S p) p (nd h t)) h p t:=by
 have hne:∀ q∈low h t,q≠p:=λ q hq e=>by have:=hk.used q hq;rw [e,hu] at this;cases this
 refine Tr.write hw hp hs (hk.frame λ q hq=>⟨?_,?_⟩) ?_ ?_
 ·show zbn S.used p q=_
  unfold zbn;rw [if_neg (hne q hq)]
 ·show (if q=p then _ else _)=_
  rw [if_neg (hne q hq)]
 ·rw [zaF];exact List.nodup_cons.2 ⟨λ hq=>hne p hq rfl,hn⟩
 ·show zbn S.used p p=true
  unfold zbn;rw [if_pos rfl,hu];rfl
theorem Tr.kids {S:RS} {h p:Nat} {t:PT h} (H:Tr S h p t):zdc S h t:=(ze9.1 H.on).2
def tk:(h:Nat)->Nat->PT h->PT h
 | 0,n,l=>List.take n l
 | h+1,n,l=>List.take n l
def dr:(h:Nat)->Nat->PT h->PT h
 | 0,n,l=>List.drop n l
 | h+1,n,l=>List.drop n l
def Nd.take (n:Nat):Nd->Nd
 | .leaf l=>.leaf (l.take n)
 | .inner l=>.inner (l.take n)
def Nd.drop (n:Nat):Nd->Nd
 | .leaf l=>.leaf (l.drop n)
 | .inner l=>.inner (l.drop n)
theorem zbE (h n:Nat) (t:PT h):nd h (tk h n t)=(nd h t).take n:=by
 cases h with
 | zero=>rfl
 | succ h=>simp [nd,tk,Nd.take,List.map_take]
theorem zby (h n:Nat) (t:PT h):nd h (dr h n t)=(nd h t).drop n:=by
 cases h with
 | zero=>rfl
 | succ h=>simp [nd,dr,Nd.drop,List.map_drop]
theorem znQ (h n:Nat) (t:PT h):ents h (tk h n t)++ents h (dr h n t)=ents h t:=by
 cases h with
 | zero=>exact List.take_append_drop n t
 | succ h=>exact (zcQ h _ _).symm.trans (by simp [tk,dr])
theorem zpO (h n:Nat) (t:PT h):low h (tk h n t)++low h (dr h n t)=low h t:=by
 cases h with
 | zero=>rfl
 | succ h =>
   show List.flatMap _ (List.take n t)++List.flatMap _ (List.drop n t)=List.flatMap _ t
   rw [<-List.flatMap_append,List.take_append_drop]
theorem zdc.cut {S:RS} {h:Nat} {t:PT h} (n:Nat) (H:zdc S h t):zdc S h (tk h n t)/\zdc S h (dr h n t):=by
 cases h with
 | zero=>exact ⟨trivial,trivial⟩
 | succ h=>exact ⟨λ x hx=>H x (List.mem_of_mem_take hx),λ x hx=>H x (List.mem_of_mem_drop hx)⟩
theorem znR (h n:Nat) (t:PT h) (h1:2<=(nd h (tk h n t)).len) (h2:2<=(nd h (dr h n t)).len):zdO h (tk h n t)+zdO h (dr h n t)<=zdO h t:=by
 cases h with
 | zero=>simp [zdO]
 | succ h =>
   rw [zaq] at h1 h2
   have e:(List.map (λ x:Kid h=>zdO h x.2.2) (List.take n t)).sum+(List.map (λ x:Kid h=>zdO h x.2.2) (List.drop n t)).sum=(List.map (λ x:Kid h=>zdO h x.2.2) t).sum:=by
    rw [<-List.sum_append,<-List.map_append,List.take_append_drop]
   change 2<=(List.take n t).length at h1
   change 2<=(List.drop n t).length at h2
   show ((if (List.take n t).length=1 then 1 else 0)+(List.map (λ x:Kid h=>zdO h x.2.2) (List.take n t)).sum)+((if (List.drop n t).length=1 then 1 else 0)+(List.map (λ x:Kid h=>zdO h x.2.2) (List.drop n t)).sum)<=(if List.length t=1 then 1 else 0)+(List.map (λ x:Kid h=>zdO h x.2.2) t).sum
   rw [if_neg (by omega),if_neg (by omega)]
   omega
theorem Wf.cut {h:Nat} {t:PT h} (H:Wf h t) (n:Nat):Wf h (tk h n t)/\Wf h (dr h n t):=by
 cases h with
 | zero=>exact ⟨⟨λ e he=>H.1 e (List.mem_of_mem_take he),H.2.sublist (List.take_sublist _ _)⟩,⟨λ e he=>H.1 e (List.mem_of_mem_drop he),H.2.sublist (List.drop_sublist _ _)⟩⟩
 | succ h =>
   refine ⟨⟨λ e he=>H.1 e (List.mem_of_mem_take he),H.2.1.sublist (List.take_sublist _ _),λ y hy=>H.2.2 y ?_⟩,⟨λ e he=>H.1 e (List.mem_of_mem_drop he),H.2.1.sublist (List.drop_sublist _ _),λ y hy=>H.2.2 y ?_⟩⟩
   ·have:(tk (h+1) n t).tail=List.take (n-1) (List.tail t):=by
     show (List.take n t).tail=_
     cases n <;> cases t <;> simp
    rw [this] at hy;exact List.mem_of_mem_take hy
   ·have:(dr (h+1) n t).tail=List.drop n (List.tail t):=by
     show (List.drop n t).tail=_
     rw [List.tail_drop,<-List.drop_one,List.drop_drop];congr 1;omega
    rw [this] at hy;exact List.mem_of_mem_drop hy
theorem Wf.first {h:Nat} {t:PT h} (H:Wf h t) (n:Nat) (h0:0<n) (h1:0<(nd h (dr h n t)).len) :
 (∀ e∈ents h (tk h n t),zah e.1 ((nd h (dr h n t)).keys.getD 0 ByteArray.empty)=true)/\(∀ e∈ents h (dr h n t),zah e.1 ((nd h (dr h n t)).keys.getD 0 ByteArray.empty)=false)/\((nd h (dr h n t)).keys.getD 0 ByteArray.empty).size<=96:=by
 cases h with
 | zero =>
   rw [zaP] at h1
   have hs:Srt (List.take n t++List.drop n t):=by rw [List.take_append_drop];exact H.2
   have e:(nd 0 (dr 0 n t)).keys=(List.drop n t).map Prod.fst:=rfl
   have hm:∀ x∈List.drop n t,x.1.size<=96:=λ x hx=>(H.1 x (List.mem_of_mem_drop hx)).1
   rw [e]
   show (∀ e∈List.take n t,_)/\(∀ e∈List.drop n t,_)/\_
   change 0<(List.drop n t).length at h1
   generalize List.take n t=A at *
   generalize List.drop n t=B at *
   cases B with
   | nil=>simp at h1
   | cons x B =>
     obtain ⟨-,g1,g2⟩:=zhz hs
     refine ⟨g1,λ e he=>?_,hm x (by simp)⟩
     rcases List.mem_cons.1 he with rfl|he
     ·exact zal _
     ·exact zbx (g2 e he)
 | succ h =>
   rw [zaq] at h1
   have hs:zf8 h (List.take n t++List.drop n t):=by rw [List.take_append_drop];exact H.2
   have e:(nd (h+1) (dr (h+1) n t)).keys=(List.drop n t).map Prod.fst:=by simp [nd,dr,Nd.keys,Function.comp_def]
   have hm:∀ x∈List.drop n t,x.1.size<=96/\0<(ents h x.2.2).length:=λ x hx=>by
    obtain ⟨a,b,c,d,f⟩:=H.1 x (List.mem_of_mem_drop hx)
    exact ⟨a,zbG f c⟩
   have hA:List.take n t≠[]:=λ e=>by
    have:=congrArg List.length e
    rw [List.length_take,List.length_nil] at this
    change 0<(List.drop n t).length at h1
    rw [List.length_drop] at h1
    omega
   rw [e]
   show (∀ e∈ents (h+1) (List.take n t),_)/\(∀ e∈ents (h+1) (List.drop n t),_)/\_
   change 0<(List.drop n t).length at h1
   generalize List.take n t=A at *
   generalize List.drop n t=B at *
   cases B with
   | nil=>simp at h1
   | cons x B =>
     obtain ⟨g1,g2,g3,g4,g5⟩:=za4.1 hs.1
     obtain ⟨g6,g7,g8⟩:=zaX.1 hs.2
     obtain ⟨hx1,hx2⟩:=hm x (by simp)
     obtain ⟨e0,he0⟩:∃ e0,e0∈ents h x.2.2:=⟨_,List.getElem_mem hx2⟩
     refine ⟨λ e he=>?_,λ e he=>?_,hx1⟩
     ·obtain ⟨a,ha,he⟩:=(zbq h A e).1 he
      exact g3 a ha e he
     ·obtain ⟨a,ha,he'⟩:=(zbq h _ e).1 he
      rcases List.mem_cons.1 ha with rfl|ha
      ·exact g7 hA _ he'
      ·exact zhx (g7 hA e0 he0) (zbx (zaK (g4 a ha e0 he0) (g8 a ha _ he')))
structure zhA (d:Nd) (n:Nat):Prop where
 le:n<=d.len
 big:d.size / 2<=zbK d.isLeaf d.keys d.vals n
 fst:0<n->zbK d.isLeaf d.keys d.vals (n-1)<d.size / 2
theorem zlR {α:Type} (f:α->Nat) (l:List α) (c n:Nat) (hc:∀ x∈l,f x<=c) (hc2:c<=154) (h1:512<3+(l.map f).sum) (h2:3+(l.map f).sum<=666) (hn:n<=l.length)
 (hb:(3+(l.map f).sum) / 2<=3+((l.take n).map f).sum) (hf:0<n->3+((l.take (n-1)).map f).sum<(3+(l.map f).sum) / 2) :
 0<n/\n<l.length/\3+((l.take n).map f).sum<=512/\3+((l.drop n).map f).sum<=512/\253<=((l.take n).map f).sum/\256-c<((l.drop n).map f).sum:=by
 have h0:0<n:=by
  cases n with
  | zero=>simp at hb;omega
  | succ n=>omega
 have hf':=hf h0
 have e:((l.take n).map f).sum+((l.drop n).map f).sum=(l.map f).sum:=by rw [<-List.sum_append,<-List.map_append,List.take_append_drop]
 obtain ⟨m,rfl⟩:∃ m,n=m+1:=⟨n-1,by omega⟩
 have hlt:m<l.length:=hn
 have e2:((l.take (m+1)).map f).sum=((l.take m).map f).sum+f l[m]:=by
  rw [zTs hlt,List.map_append,List.sum_append];simp
 have hm:=hc _ (List.getElem_mem hlt)
 simp only [Nat.add_sub_cancel] at hf'
 refine ⟨h0,?_,by omega,by omega,by omega,by omega⟩
 by_cases hx:m+1<l.length
 ·exact hx
 ·rw [List.drop_eq_nil_of_le (by omega:l.length<=m+1)] at e
  simp only [List.map_nil,List.sum_nil,Nat.add_zero] at e;omega
theorem zhA.fit {d:Nd} {n:Nat} (H:zhA d n) (hk:∀ k∈d.keys,k.size<=96) (hv:∀ v∈d.vals,v.size<=56) (h1:512<d.size) (h2:d.size<=666) :
 0<n/\n<d.len/\(d.take n).size<=512/\(d.drop n).size<=512/\(d.isLeaf=false->2<=(d.take n).len/\2<=(d.drop n).len):=by
 cases d with
 | leaf l =>
   have hl:(Nd.leaf l).len=l.length:=by simp [Nd.len,Nd.keys]
   have a:=H.le
   have b:=H.big
   have c:=H.fst
   rw [hl] at a
   simp only [Nd.isLeaf,Nd.keys,Nd.vals] at b c
   rw [zfD l _ a] at b
   rw [zfD l _ (by omega)] at c
   rw [zaE] at b c h1 h2
   have hc:∀ x∈l,esL x<=154:=λ x hx=>by
    have q1:=hk x.1 (by simp [Nd.keys];exact ⟨_,hx⟩)
    have q2:=hv x.2 (by simp [Nd.vals];exact ⟨_,hx⟩)
    unfold esL;omega
   obtain ⟨g1,g2,g3,g4,g5,g6⟩:=zlR esL l 154 n hc (by omega) h1 h2 a b c
   refine ⟨g1,by rw [hl];exact g2,by rw [Nd.take,zaE];exact g3,by rw [Nd.drop,zaE];exact g4,by simp [Nd.isLeaf]⟩
 | inner l =>
   have hl:(Nd.inner l).len=l.length:=by simp [Nd.len,Nd.keys]
   have a:=H.le
   have b:=H.big
   have c:=H.fst
   rw [hl] at a
   simp only [Nd.isLeaf,Nd.keys,Nd.vals] at b c
   rw [zeK l _ _ a] at b
   rw [zeK l _ _ (by omega)] at c
   rw [zaM] at b c h1 h2
   have hc:∀ x∈l,esI x<=101:=λ x hx=>by
    have q1:=hk x.1 (by simp [Nd.keys];exact ⟨_,hx⟩)
    unfold esI;omega
   obtain ⟨g1,g2,g3,g4,g5,g6⟩:=zlR esI l 101 n hc (by omega) h1 h2 a b c
   refine ⟨g1,by rw [hl];exact g2,by rw [Nd.take,zaM];exact g3,by rw [Nd.drop,zaM];exact g4,λ _=>?_⟩
   have k1:=zlO esI 101 (l.take n) λ x hx=>hc x (List.mem_of_mem_take hx)
   have k2:=zlO esI 101 (l.drop n) λ x hx=>hc x (List.mem_of_mem_drop hx)
   simp only [Nd.take,Nd.drop,Nd.len,Nd.keys,zLm]
   omega
def ziD (w:World) (p:Nat) (d:Nd) (F:Nat->Prop):Prop:=∃ vk vv vi,NdV w p d vk vv vi/\∀ k,NdF p vk vv vi k->k<w.heap.size/\F k
theorem ziD.upd {w W:World} {p:Nat} {d:Nd} {F S:Nat->Prop} (h:ziD w p d F) (hu:Upd S w W) (hn:∀ k,F k->k<w.heap.size->¬S k):ziD W p d F:=by
 obtain ⟨vk,vv,vi,a,b⟩:=h
 have c:=a.oth.upd hu λ k hk=>⟨(b k hk).1,hn k (b k hk).2 (b k hk).1⟩
 exact ⟨vk,vv,vi,⟨c.blk,c.ks,c.vs,c.is⟩,λ k hk=>⟨Nat.lt_of_lt_of_le (b k hk).1 hu.size,(b k hk).2⟩⟩
theorem zaz {x:Int} (h0:0<=x) (h1:x<9223372036854775808):IntKind.i64.wrap x=x:=by
 simp only [IntKind.wrap,IntKind.bits,IntKind.signed];simp;omega
theorem zhB {a b i n:Nat} (h1:b<=154) (h2:a<=3+154*i) (h3:i<n) (h4:n<=65536):wrap64 ((a:Int)+(3+(b:Int)-3))=((a+b:Nat):Int):=by
 rw [show ((a:Int)+(3+(b:Int)-3))=((a+b:Nat):Int) by omega]
 unfold wrap64;omega
theorem zjy (leaf:Bool) (K V:List ByteArray) (i:Nat):zbK leaf [K.getD i ByteArray.empty] [V.getD i ByteArray.empty] 1=3+esz leaf K V i:=by
 cases leaf <;> simp [zbK,esz]
theorem zbu.drop {w:World} {g off n cap i:Nat} {xs:List Value} (h:zbu w (.slice (some ⟨g,off,none⟩) n cap) xs) (hl:xs.length=n) (hi:i<n):zbu w (.slice (some ⟨g,off+i,none⟩) (n-i) (cap-i)) (xs.drop i):=by
 obtain ⟨g',off',cap',e,hc,hx⟩:=h.lit (by omega)
 simp only [Value.slice.injEq,Option.some.injEq,Addr.mk.injEq,and_true] at e
 obtain ⟨⟨rfl,rfl⟩,-,rfl⟩:=e
 refine .inr ⟨g,off+i,cap-i,by rw [List.length_drop,hl],by rw [List.length_drop];omega,λ j hj=>?_⟩
 rw [List.length_drop] at hj
 have:=hx (i+j) (by omega)
 rw [List.getElem_drop,Nat.add_assoc];exact this
theorem zbu.one {w:World} {g off n cap i:Nat} {xs:List Value} (h:zbu w (.slice (some ⟨g,off,none⟩) n cap) xs) (hl:xs.length=n) (hi:i<n):zbu w (.slice (some ⟨g,off+i,none⟩) 1 (cap-i)) [xs[i]'(by omega)]:=by
 obtain ⟨g',off',cap',e,hc,hx⟩:=h.lit (by omega)
 simp only [Value.slice.injEq,Option.some.injEq,Addr.mk.injEq,and_true] at e
 obtain ⟨⟨rfl,rfl⟩,-,rfl⟩:=e
 refine .inr ⟨g,off+i,cap-i,rfl,by simp;omega,λ j hj=>?_⟩
 have:j=0:=by simpa using hj
 subst this
 exact hx i (by omega)
theorem zbu.take {w:World} {g off n cap i:Nat} {xs:List Value} (h:zbu w (.slice (some ⟨g,off,none⟩) n cap) xs) (hl:xs.length=n) (hi:i<n):zbu w (.slice (some ⟨g,off,none⟩) i i) (xs.take i):=by
 obtain ⟨g',off',cap',e,hc,hx⟩:=h.lit (by omega)
 simp only [Value.slice.injEq,Option.some.injEq,Addr.mk.injEq,and_true] at e
 obtain ⟨⟨rfl,rfl⟩,-,rfl⟩:=e
 have e:(xs.take i).length=i:=by rw [List.length_take];omega
 refine .inr ⟨g,off,i,by rw [e],by rw [e];exact zNr _,λ j hj=>?_⟩
 rw [e] at hj
 rw [List.getElem_take];exact hx j (by omega)
structure Spl (w W:World) (p q:Nat) (leaf:Bool) (a1 a2 a3:Value) (K V:List ByteArray) (C:List Nat) (b1 b2 b3:Value):Prop where
 up:Upd (λ k=>k=p) w W
 pl:p<w.heap.size
 bp:W.heap[p]?=some (.cells #[.bool leaf,a1,a2,a3] 222 (0,0))
 rq:NdP W q leaf K V C b1 b2 b3
 nw:∀ k,NdF q b1 b2 b3 k->w.heap.size<=k
section
variable {w W W':World} {p q:Nat} {leaf:Bool} {a1 a2 a3:Value} {K V:List ByteArray} {C:List Nat} {b1 b2 b3:Value}
theorem NdP.upd (h:NdP W q leaf K V C b1 b2 b3) {S:Nat->Prop} (hu:Upd S W W') (hn:∀ k,NdF q b1 b2 b3 k->¬S k):NdP W' q leaf K V C b1 b2 b3:=by
 have hk:∀ k,NdF q b1 b2 b3 k->W'.heap[k]?=W.heap[k]?:=λ k e=>hu.block k (h.lt k e) (hn k e)
 exact ⟨(hk q (.inl rfl)).trans h.blk,zap h.ks λ k e=>hk k (.inr (.inl e)),zap h.vs λ k e=>hk k (.inr (.inr (.inl e))),zap h.is λ k e=>hk k (.inr (.inr (.inr e))),h.pk,h.pv,h.pi,h.kv,h.ki,h.vi'⟩
theorem Spl.setP (h:Spl w W p q leaf a1 a2 a3 K V C b1 b2 b3) (i:Nat) (x:Value) (y1 y2 y3:Value) (hy:(#[Value.bool leaf,a1,a2,a3]:Array Value).setIfInBounds i x=#[Value.bool leaf,y1,y2,y3]):Spl w (W.setCell ⟨p,i,none⟩ x) p q leaf y1 y2 y3 K V C b1 b2 b3:=by
 refine ⟨h.up.setCell (p:=⟨p,i,none⟩) (.inl rfl) x,h.pl,by rw [zac h.bp x,hy],h.rq.upd (S:=λ k=>k=p) (Upd.setCell (S:=λ k=>k=p) (Upd.refl _ _) (p:=⟨p,i,none⟩) (.inl rfl) x) λ k hk e=>?_,h.nw⟩
 have:=h.nw k hk;have:=h.pl;omega
theorem Spl.below (h:Spl w W p q leaf a1 a2 a3 K V C b1 b2 b3) (hb:Below W.heap.size W W'):Spl w W' p q leaf a1 a2 a3 K V C b1 b2 b3 :=
 ⟨h.up.trans' (hb.upd' (zNr _)) (λ _ _ e=>False.elim e),h.pl,(hb.block p (zab h.bp)).trans h.bp,h.rq.below hb,h.nw⟩
theorem Spl.setV (h:Spl w W p q leaf a1 a2 a3 K [] C b1 (.slice none 0 0) b3) {v':Value} {V':List ByteArray} (hb:Below W.heap.size W W') (ho:W'.ownsRow W.heap.size 9 1 v' V'.length (V'.map Value.string)):Spl w (W'.setCell ⟨q,2,none⟩ v') p q leaf a1 a2 a3 K V' C b1 v' b3:=by
 obtain ⟨x,y,z⟩:=h.rq.setV (hb.upd' (zNr _) |>.mono λ _ _ e=>False.elim e) (za8 ho (zNz _)) (λ k hk=>.inr (ho.lt k hk).1)
 refine ⟨h.up.trans' y λ j hj e=>?_,h.pl,?_,x,λ k hk=>?_⟩
 ·have:=h.nw j e;omega
 ·have hne:p≠q:=λ e=>by have:=h.nw q (.inl rfl);have:=h.pl;omega
  rw [zae v' hne]
  exact (hb.block p (zab h.bp)).trans h.bp
 ·rcases z k hk with e|e
  ·exact h.nw k e
  ·have:=h.up.size;omega
theorem Spl.setI (h:Spl w W p q leaf a1 a2 a3 K V [] b1 b2 (.slice none 0 0)) {v':Value} {C':List Nat} (hb:Below W.heap.size W W') (ho:W'.ownsRow W.heap.size 3 1 v' C'.length (C'.map zge)):Spl w (W'.setCell ⟨q,3,none⟩ v') p q leaf a1 a2 a3 K V C' b1 b2 v':=by
 obtain ⟨x,y,z⟩:=h.rq.setI (hb.upd' (zNr _) |>.mono λ _ _ e=>False.elim e) (za8 ho (zNz _)) (λ k hk=>.inr (ho.lt k hk).1)
 refine ⟨h.up.trans' y λ j hj e=>?_,h.pl,?_,x,λ k hk=>?_⟩
 ·have:=h.nw j e;omega
 ·have hne:p≠q:=λ e=>by have:=h.nw q (.inl rfl);have:=h.pl;omega
  rw [zae v' hne]
  exact (hb.block p (zab h.bp)).trans h.bp
 ·rcases z k hk with e|e
  ·exact h.nw k e
  ·have:=h.up.size;omega
theorem Spl.start (hb:Below w.heap.size w W) (hp:w.heap[p]?=some (.cells #[.bool leaf,a1,a2,a3] 222 (0,0))) (ho:W.ownsRow w.heap.size 9 1 b1 K.length (K.map Value.string)):Spl w (W.alloc (.cells #[.bool leaf,b1,.slice none 0 0,.slice none 0 0] 222)) p W.heap.size leaf a1 a2 a3 K [] [] b1 (.slice none 0 0) (.slice none 0 0):=by
 have hb':=hb.alloc hb.size (.cells #[.bool leaf,b1,.slice none 0 0,.slice none 0 0] 222)
 refine ⟨(hb'.upd' (zNr _)).mono λ _ _ e=>False.elim e,zab hp,(hb'.block p (zab hp)).trans hp,⟨heap_alloc_new _ _,(za8 ho (zNz _)).alloc _,World.ownsRow_nil _ _ _ _,World.ownsRow_nil _ _ _ _,λ e=>by have:=(ho.lt _ e).2;omega,by simp [Value.ownBlock],by simp [Value.ownBlock],by simp [Value.ownBlock],by simp [Value.ownBlock],by simp [Value.ownBlock]⟩,λ k hk=>?_⟩
 rcases hk with e|e|e|e
 ·rw [e];exact hb.size
 ·exact (ho.lt k e).1
 ·simp [Value.ownBlock] at e
 ·simp [Value.ownBlock] at e
theorem Spl.cells (h:Spl w W p q leaf a1 a2 a3 K V C b1 b2 b3):W.cell? ⟨p,0,none⟩=some (.bool leaf)/\W.cell? ⟨p,1,none⟩=some a1/\W.cell? ⟨p,2,none⟩=some a2/\W.cell? ⟨p,3,none⟩=some a3/\(∀ i,W.frozen? ⟨p,i,none⟩=false)/\p<W.heap.size/\W.cell? ⟨q,2,none⟩=some b2/\W.cell? ⟨q,3,none⟩=some b3/\(∀ i,W.frozen? ⟨q,i,none⟩=false)/\q<W.heap.size/\¬p=q/\¬q=p :=
 ⟨zaa h.bp rfl,zaa h.bp rfl,zaa h.bp rfl,zaa h.bp rfl,λ i=>zad h.bp i,zab h.bp,zaa h.rq.blk rfl,zaa h.rq.blk rfl,λ i=>zad h.rq.blk i,zab h.rq.blk,λ e=>by have:=h.nw q (.inl rfl);have:=h.pl;omega,λ e=>by have:=h.nw q (.inl rfl);have:=h.pl;omega⟩
end
theorem zpP {w:World} {v:Value} {K:List Nat} (h:zbu w v (K.map zge)) (hp:0<K.length) (hl:K.length<=90000) :
 Calls Tryz.prog 216 #[v] w λ e w'=>∃ g cap,e=.returned (.slice (some ⟨g,0,none⟩) K.length cap)/\Hid (w'.ownsRow w.heap.size 3 1 (.slice (some ⟨g,0,none⟩) K.length cap) K.length (K.map zge)/\Below w.heap.size w w'):=by
 obtain ⟨g,off,cap,rfl,hcap,hc⟩:=h.lit (by simpa using hp)
 rw [zLm]
 have e:∀ L:List Nat,(L.map λ c:Nat=>(c:Int)).map (Value.int .i64)=L.map zge:=λ L=>by rw [List.map_map];rfl
 refine (Tryz.slices_Clone_int g off K.length cap (K.map λ c:Nat=>(c:Int)) w (by simp) (by omega) λ j hj=>?_).mono ?_
 ·have hj':j<K.length:=by simpa using hj
  rw [hc j (by simpa using hj'),za3 _ _ hj];simp [zge]
 ·rintro e' w' ⟨v',rfl,ho,hne,hb⟩
  rw [List.take_of_length_le (by simp),e] at ho
  rcases ho.2 with ⟨rfl,-⟩|⟨g',cap',cur,rfl,-⟩
  ·exact absurd rfl hne
  ·exact ⟨g',cap',rfl,ho,hb⟩
theorem zkC (p:Nat) (K:List ByteArray) (V:List ByteArray) (vk vv vi:Value) (w:World) (h:NdP w p true K V [] vk vv vi) (hv:V.length=K.length) (hK:∀ k∈K,k.size<=96) (hV:∀ v∈V,v.size<=56) (hn:K.length<=65536)
 (hcut:∀ i,i<=K.length->zbK true K V K.length / 2<=zbK true K V i->(0<i->zbK true K V (i-1)<zbK true K V K.length / 2)->0<i/\i<K.length) (hp:0<K.length) :
 Calls Tryz.prog 179 #[.pointer (some ⟨p,0,none⟩)] w λ e w'=>∃ q,e=.returned (.pointer (some ⟨q,0,none⟩))/\Hid (∃ i g cap g2 cap2 b1 b2 b3,0<i/\i<K.length/\zbK true K V K.length / 2<=zbK true K V i/\zbK true K V (i-1)<zbK true K V K.length / 2/\vk=.slice (some ⟨g,0,none⟩) K.length cap/\vv=.slice (some ⟨g2,0,none⟩) K.length cap2 /\
  Spl w w' p q true (.slice (some ⟨g,0,none⟩) i i) (.slice (some ⟨g2,0,none⟩) i i) vi (K.drop i) (V.drop i) [] b1 b2 b3):=by
 have hr:=h.ks
 have hr2:=h.vs
 have hgp:vk.ownBlock≠some p:=h.pk
 have hgp2:vv.ownBlock≠some p:=h.pv
 rcases hr.2 with ⟨rfl,h0⟩|⟨g,cap,cur0,rfl,-⟩
 ·omega
 rcases hr2.2 with ⟨rfl,h0⟩|⟨g2,cap2,cur2,rfl,-⟩
 ·omega
 rw [hv] at h hr2
 obtain ⟨c0,c1,c2,c3,cf,cl⟩:=h.cells
 have hcap:K.length<=cap:=by obtain ⟨cur,g1,g2,g3,-⟩:=zcw hr;exact g3
 have hcap2:K.length<=cap2:=by obtain ⟨cur,g1,g2,g3,-⟩:=zcw hr2;exact g3
 have SZ:Hid (∀ W,Below w.heap.size w W->Calls Tryz.prog 178 #[.pointer (some ⟨p,0,none⟩)] W λ e w'=>e=.returned (.int .i64 (zbK true K V K.length:Nat))/\w'=W):=Hd λ W hW=>by
  have h':=h.below hW
  exact zhs p true K V _ _ _ (0,0) W h'.blk (.of_own h'.ks) hp (λ _=>⟨by have:=h'.vs;rw [<-hv] at this;have:=zbu.of_own this;rw [hv] at this;exact this,hv⟩) hK hV hn
 have hgB:Hid (g<w.heap.size/\¬g=p):=Hd ⟨(hr.lt g rfl).2,λ e=>hgp (by rw [<-e];rfl)⟩
 have hgB2:Hid (g2<w.heap.size/\¬g2=p):=Hd ⟨(hr2.lt g2 rfl).2,λ e=>hgp2 (by rw [<-e];rfl)⟩
 have RK:Hid (∀ W,Upd (λ k=>k=p) w W->zbu W (.slice (some ⟨g,0,none⟩) K.length cap) (K.map Value.string)):=Hd λ W hW=>(zbu.of_own hr).kept λ k e=>by
  simp [Value.ownBlock] at e;subst e;exact hW.block _ hgB.out.1 hgB.out.2
 have RX:Hid (∀ W,Upd (λ k=>k=p) w W->zbu W (.slice (some ⟨g2,0,none⟩) K.length cap2) (V.map Value.string)):=Hd λ W hW=>(zbu.of_own hr2).kept λ k e=>by
  simp [Value.ownBlock] at e;subst e;exact hW.block _ hgB2.out.1 hgB2.out.2
 have SZ1:Hid (∀ W b i,i<K.length->Below w.heap.size w W->W.heap[b]?=some (.cells #[.bool true,.slice (some ⟨g,i,none⟩) 1 (cap-i),.slice (some ⟨g2,i,none⟩) 1 (cap2-i),.slice none 0 0] 222 (0,0))->Calls Tryz.prog 178 #[.pointer (some ⟨b,0,none⟩)] W λ e w'=>e=.returned (.int .i64 ((3+esz true K V i:Nat):Int))/\w'=W):=Hd λ W b i hi hW hb=>by
  have hU:Upd (λ k=>k=p) w W:=(hW.upd' (zNr _)).mono λ _ _ e=>False.elim e
  have r1:=(RK.out W hU).one (i:=i) (by simp) hi
  have r2:=(RX.out W hU).one (i:=i) (by simp [hv]) hi
  rw [Nat.zero_add] at r1 r2
  have e:=zjy true K V i
  rw [<-e]
  refine zhs b true [K.getD i ByteArray.empty] [V.getD i ByteArray.empty] _ _ _ (0,0) W hb ?_ (by simp) ?_ ?_ ?_ (by simp)
  ·rw [za3 _ _ hi];simpa using r1
  ·intro _
   have hi':i<V.length:=by omega
   rw [za3 _ _ hi'];exact ⟨by simpa using r2,rfl⟩
  ·intro k hk;simp at hk;rw [hk];have:=hK _ (List.getElem_mem hi);simpa [hi] using this
  ·have hi':i<V.length:=by omega
   intro k hk;simp at hk;rw [hk];have:=hV _ (List.getElem_mem hi');simpa [hi'] using this
 have CK:Hid (∀ W i,0<i->i<K.length->Upd (λ k=>k=p) w W->Calls Tryz.prog 215 #[.slice (some ⟨g,i,none⟩) (K.length-i) (cap-i)] W λ e w'=>∃ g' cap',e=.returned (.slice (some ⟨g',0,none⟩) (K.length-i) cap')/\Hid (w'.ownsRow W.heap.size 9 1 (.slice (some ⟨g',0,none⟩) (K.length-i) cap') (K.drop i).length ((K.drop i).map Value.string)/\Below W.heap.size W w')):=Hd λ W i h0 hi hU=>by
  have r1:=(RK.out W hU).drop (i:=i) (by simp) hi
  rw [Nat.zero_add,<-List.map_drop] at r1
  have:=zgH r1 (by rw [List.length_drop];omega) (by rw [List.length_drop];omega)
  rw [List.length_drop] at this ⊢
  exact this
 have CX:Hid (∀ W i,0<i->i<K.length->Upd (λ k=>k=p) w W->Calls Tryz.prog 215 #[.slice (some ⟨g2,i,none⟩) (K.length-i) (cap2-i)] W λ e w'=>∃ g' cap',e=.returned (.slice (some ⟨g',0,none⟩) (K.length-i) cap')/\Hid (w'.ownsRow W.heap.size 9 1 (.slice (some ⟨g',0,none⟩) (K.length-i) cap') (V.drop i).length ((V.drop i).map Value.string)/\Below W.heap.size W w')):=Hd λ W i h0 hi hU=>by
  have r1:=(RX.out W hU).drop (i:=i) (by simp [hv]) hi
  rw [Nat.zero_add,<-List.map_drop] at r1
  have:=zgH r1 (by rw [List.length_drop];omega) (by rw [List.length_drop];omega)
  rw [List.length_drop,hv] at this
  rw [List.length_drop,hv]
  exact this
 have hsz:=Hd (zix true K V hK hV)
 have hes:=Hd (zjs true K V hK hV)
 have HH:=Hd h
 have HP:=Hd h.blk
 have HCUT:=Hd hcut
 have HN:=Hd hn
 have HVL:=Hd hv
 have hstep:Hid (∀ i,zbK true K V (i+1)=zbK true K V i+esz true K V i):=Hd λ i=>rfl
 clear h hr hr2 hcut hK hV hgp hgp2 hv
 go_enter Tryz.func179,Tryz.ntmps179
 go_wp2_with fail
 go_loopg [3,4] K.length (λ gg s3 s4 wr=>∃ i:Nat,gg=K.length-i/\i<=K.length/\s3=.int .i64 (zbK true K V i:Nat)/\s4=.int .i64 (i:Int)/\Hid (0<i->zbK true K V (i-1)<zbK true K V K.length / 2)/\Hid (Below w.heap.size w wr))
 case atStart=>exact ⟨0,rfl,zNz _,rfl,rfl,Hd λ e=>absurd e (by omega),Hd (zBr _ _)⟩
 case round =>
  obtain ⟨i,rfl,hi,rfl,rfl,hf,HB⟩:=hrel
  have S1:=Hd (SZ.out wr HB.out)
  have e1:=hes.out i
  have e2:=hsz.out i
  have e3:=hsz.out K.length
  have e4:=hstep.out i
  obtain ⟨d0,d1,d2,d3,df,dl⟩:=(HH.out.below HB.out).cells
  clear c0 c1 c2 c3 cf cl
  by_cases hlt:zbK true K V i<zbK true K V K.length / 2
  ·have hik:i<K.length:=by
    by_cases h:i<K.length
    ·exact h
    ·obtain rfl:i=K.length:=by omega
     omega
   go_wp2_with (go_at_call 178;refine S1.out.mono ?_;rintro e W1 ⟨rfl,rfl⟩)
   have w1:IntKind.i64.wrap ((i:Int)+1)=(i:Int)+1:=zaz (by omega) (by omega)
   have w2:((0:Int)<=(i:Int)+1)=True:=by simp <;> omega
   have w3:((i:Int)+1<=(cap:Int))=True:=by simp <;> omega
   have w4:((i:Int)<(cap:Int))=True:=by simp <;> omega
   have w5:(i<=((i:Int)+1).toNat)=True:=by simp <;> omega
   have w6:(cap=i)=False:=by simp <;> omega
   have w7:((i:Int)+1).toNat-i=1:=by omega
   have w8:((i:Int)+1<=(cap2:Int))=True:=by simp <;> omega
   have w9:((i:Int)<(cap2:Int))=True:=by simp <;> omega
   have w10:(cap2=i)=False:=by simp <;> omega
   have SZ2:=Hd (λ W b=>SZ1.out W b i hik)
   have HF:=Hd hlt
   have HI:=Hd hik
   have E1:=Hd e1
   have E2:=Hd e2
   have E4:=Hd e4
   clear e1 e2 e3 e4 hi hlt hik hp df hcap hcap2 hn hf SZ1
   go_region_held3 (λ w'=>w'.cell? ⟨p,0,none⟩=some (.bool true)/\w'.cell? ⟨p,1,none⟩=some (.slice (some ⟨g,0,none⟩) K.length cap)) (go_keep) (fail)
   all_goals (
    have HB1:=Hd ((HB.out.alloc HB.out.size (.cells #[.bool true,.slice (some ⟨g,i,none⟩) 1 (cap-i),.slice none 0 0,.slice none 0 0] 222)).drew)
    have hone:Hid (((W1.alloc (.cells #[.bool true,.slice (some ⟨g,i,none⟩) 1 (cap-i),.slice none 0 0,.slice none 0 0] 222)).drew).heap[W1.heap.size]?=some (.cells #[.bool true,.slice (some ⟨g,i,none⟩) 1 (cap-i),.slice none 0 0,.slice none 0 0] 222 (0,0))):=Hd (heap_alloc_new _ _)
    have hbs:=Hd HB.out.size
    generalize ((W1.alloc (.cells #[.bool true,.slice (some ⟨g,i,none⟩) 1 (cap-i),.slice none 0 0,.slice none 0 0] 222)).drew)=W2 at *
    obtain ⟨x0,x1,x2,x3,xf,xl⟩:=(HH.out.below HB1.out).cells
    have y2:=zaa (i:=2) hone.out rfl
    have yf:=zad hone.out 2
    clear xf d0 d1 d2 d3
    have HB3:=Hd (HB1.out.setCell (p:=⟨W1.heap.size,2,none⟩) hbs.out (.slice (some ⟨g2,i,none⟩) 1 (cap2-i)))
    have SZ3:=Hd (SZ2.out _ _ HB3.out (zac hone.out _))
    have E1':=E1.out
    have E2':=E2.out
    go_wp2_with (go_at_call 178;refine SZ3.out.mono ?_;rintro e W5 ⟨rfl,rfl⟩)
    go_roundg (K.length-(i+1)))
   all_goals (first
    | (case measure=>have:=HI.out;omega)
    | (case rel=>exact ⟨i+1,rfl,HI.out,by rw [E4.out];congr 1;exact zhB E1.out E2.out HI.out HN.out,rfl,Hd λ _=>HF.out,HB3⟩))
  ·have hle:zbK true K V K.length / 2<=zbK true K V i:=by omega
   obtain ⟨k0,k1⟩:=HCUT.out i hi hle hf.out
   go_wp2_with (go_at_call 178;refine S1.out.mono ?_;rintro e W1 ⟨rfl,rfl⟩)
   have w1:(i<=K.length)=True:=by simp <;> omega
   have w3:((i:Int)<=(cap:Int))=True:=by simp <;> omega
   have w4:(i<=cap)=True:=by simp <;> omega
   have w6:(cap=i)=False:=by simp <;> omega
   have w7:(i=0)=False:=by simp <;> omega
   have w8:((i:Int)<=(cap2:Int))=True:=by simp <;> omega
   have w9:(i<=cap2)=True:=by simp <;> omega
   have w10:(cap2=i)=False:=by simp <;> omega
   have HK0:=Hd k0
   have HK1:=Hd k1
   have HLE:=Hd hle
   have CK2:=Hd (λ W=>CK.out W i k0 k1)
   have CX2:=Hd (λ W=>CX.out W i k0 k1)
   have HU:=Hd (((HB.out.drew).upd' (zNr _)).mono (S':=λ k=>k=p) λ _ _ e=>False.elim e)
   clear e1 e2 e3 e4 hi hle k0 k1 hlt hp df hcap hcap2 hn SZ1 CK CX S1 SZ
   go_region_law ((go_simp;go_at_call 215;refine (CK2.out _ HU.out).mono ?_;rintro e Wc ⟨g3,cap3,rfl,HR⟩
                   have HR2:=Hd HR.out.2
                   have D0:Wc.cell? ⟨p,0,none⟩=some (.bool true):=(zCb (HR2.out.block p dl)).trans d0))
   all_goals (
    have HBc:=Hd (HB.out.drew.trans (HR2.out.mono HB.out.size))
    have SP1:=Hd (Spl.start HBc.out HP.out (za8 HR.out.1 HB.out.size))
    generalize (Wc.alloc (.cells #[.bool true,.slice (some ⟨g3,0,none⟩) (K.length-i) cap3,.slice none 0 0,.slice none 0 0] 222))=W2 at *
    generalize Wc.heap.size=q at *
    clear HR HR2 D0 d0 d1 d2 d3 dl HBc HU HB CK2
    obtain ⟨x0,x1,x2,x3,xf,xl,y2,y3,yf,yl,n1,n2⟩:=SP1.out.cells
    have xf1:=xf 1
    have SP2:=Hd (SP1.out.setP 1 (.slice (some ⟨g,0,none⟩) i i) _ _ _ rfl)
    clear xf yf
    go_wp2_with fail
    refine (CX2.out _ SP2.out.up).mono ?_
    rintro e W4 ⟨g4,cap4,rfl,HR4⟩
    have SP3:=Hd (SP2.out.below HR4.out.2)
    obtain ⟨z0,z1,z2,z3,zf,zl,u2,u3,uf,ul,m1,m2⟩:=SP3.out.cells
    have zfx:=zf 2
    have ufx:=uf 2
    have SP4:=Hd (SP2.out.setV HR4.out.2 HR4.out.1)
    have SP5:=Hd (SP4.out.setP 2 (.slice (some ⟨g2,0,none⟩) i i) _ _ _ rfl)
    clear zf uf SP1 SP2 SP3 SP4 HR4 CX2 x0 x1 x2 x3 xl y2 y3 yl xf1 n1 n2
    go_wp2_with fail
    go_ret
    exact ⟨q,rfl,i,g,cap,g2,cap2,_,_,_,HK0.out,HK1.out,HLE.out,hf.out HK0.out,rfl,by rw [HVL.out],SP5.out⟩)
theorem ziE (p:Nat) (K:List ByteArray) (C:List Nat) (vk vv vi:Value) (w:World) (h:NdP w p false K [] C vk vv vi) (hv:C.length=K.length) (hK:∀ k∈K,k.size<=96) (hn:K.length<=65536)
 (hcut:∀ i,i<=K.length->zbK false K [] K.length / 2<=zbK false K [] i->(0<i->zbK false K [] (i-1)<zbK false K [] K.length / 2)->0<i/\i<K.length) (hp:0<K.length) :
 Calls Tryz.prog 179 #[.pointer (some ⟨p,0,none⟩)] w λ e w'=>∃ q,e=.returned (.pointer (some ⟨q,0,none⟩))/\Hid (∃ i g cap g2 cap2 b1 b2 b3,0<i/\i<K.length/\zbK false K [] K.length / 2<=zbK false K [] i/\zbK false K [] (i-1)<zbK false K [] K.length / 2/\vk=.slice (some ⟨g,0,none⟩) K.length cap/\vi=.slice (some ⟨g2,0,none⟩) K.length cap2 /\
  Spl w w' p q false (.slice (some ⟨g,0,none⟩) i i) vv (.slice (some ⟨g2,0,none⟩) i i) (K.drop i) [] (C.drop i) b1 b2 b3):=by
 have hV:∀ v∈([]:List ByteArray),v.size<=56:=by simp
 have hr:=h.ks
 have hr2:=h.is
 have hgp:vk.ownBlock≠some p:=h.pk
 have hgp2:vi.ownBlock≠some p:=h.pi
 rcases hr.2 with ⟨rfl,h0⟩|⟨g,cap,cur0,rfl,-⟩
 ·omega
 rcases hr2.2 with ⟨rfl,h0⟩|⟨g2,cap2,cur2,rfl,-⟩
 ·omega
 rw [hv] at h hr2
 obtain ⟨c0,c1,c2,c3,cf,cl⟩:=h.cells
 have hcap:K.length<=cap:=by obtain ⟨cur,g1,g2,g3,-⟩:=zcw hr;exact g3
 have hcap2:K.length<=cap2:=by obtain ⟨cur,g1,g2,g3,-⟩:=zcw hr2;exact g3
 have SZ:Hid (∀ W,Below w.heap.size w W->Calls Tryz.prog 178 #[.pointer (some ⟨p,0,none⟩)] W λ e w'=>e=.returned (.int .i64 (zbK false K [] K.length:Nat))/\w'=W):=Hd λ W hW=>by
  have h':=h.below hW
  exact zhs p false K [] _ _ _ (0,0) W h'.blk (.of_own h'.ks) hp (λ e=>by cases e) hK hV hn
 have hgB:Hid (g<w.heap.size/\¬g=p):=Hd ⟨(hr.lt g rfl).2,λ e=>hgp (by rw [<-e];rfl)⟩
 have hgB2:Hid (g2<w.heap.size/\¬g2=p):=Hd ⟨(hr2.lt g2 rfl).2,λ e=>hgp2 (by rw [<-e];rfl)⟩
 have RK:Hid (∀ W,Upd (λ k=>k=p) w W->zbu W (.slice (some ⟨g,0,none⟩) K.length cap) (K.map Value.string)):=Hd λ W hW=>(zbu.of_own hr).kept λ k e=>by
  simp [Value.ownBlock] at e;subst e;exact hW.block _ hgB.out.1 hgB.out.2
 have RX:Hid (∀ W,Upd (λ k=>k=p) w W->zbu W (.slice (some ⟨g2,0,none⟩) K.length cap2) (C.map zge)):=Hd λ W hW=>(zbu.of_own hr2).kept λ k e=>by
  simp [Value.ownBlock] at e;subst e;exact hW.block _ hgB2.out.1 hgB2.out.2
 have SZ1:Hid (∀ W b i,i<K.length->Below w.heap.size w W->W.heap[b]?=some (.cells #[.bool false,.slice (some ⟨g,i,none⟩) 1 (cap-i),.slice none 0 0,.slice none 0 0] 222 (0,0))->Calls Tryz.prog 178 #[.pointer (some ⟨b,0,none⟩)] W λ e w'=>e=.returned (.int .i64 ((3+esz false K [] i:Nat):Int))/\w'=W):=Hd λ W b i hi hW hb=>by
  have hU:Upd (λ k=>k=p) w W:=(hW.upd' (zNr _)).mono λ _ _ e=>False.elim e
  have r1:=(RK.out W hU).one (i:=i) (by simp) hi
  have r2:=(RX.out W hU).one (i:=i) (by simp [hv]) hi
  rw [Nat.zero_add] at r1 r2
  have e:=zjy false K [] i
  rw [<-e]
  refine zhs b false [K.getD i ByteArray.empty] [([]:List ByteArray).getD i ByteArray.empty] _ _ _ (0,0) W hb ?_ (by simp) ?_ ?_ ?_ (by simp)
  ·rw [za3 _ _ hi];simpa using r1
  ·intro e;cases e
  ·intro k hk;simp at hk;rw [hk];have:=hK _ (List.getElem_mem hi);simpa [hi] using this
  ·intro k hk;simp at hk;rw [hk];decide
 have CK:Hid (∀ W i,0<i->i<K.length->Upd (λ k=>k=p) w W->Calls Tryz.prog 215 #[.slice (some ⟨g,i,none⟩) (K.length-i) (cap-i)] W λ e w'=>∃ g' cap',e=.returned (.slice (some ⟨g',0,none⟩) (K.length-i) cap')/\Hid (w'.ownsRow W.heap.size 9 1 (.slice (some ⟨g',0,none⟩) (K.length-i) cap') (K.drop i).length ((K.drop i).map Value.string)/\Below W.heap.size W w')):=Hd λ W i h0 hi hU=>by
  have r1:=(RK.out W hU).drop (i:=i) (by simp) hi
  rw [Nat.zero_add,<-List.map_drop] at r1
  have:=zgH r1 (by rw [List.length_drop];omega) (by rw [List.length_drop];omega)
  rw [List.length_drop] at this ⊢
  exact this
 have CX:Hid (∀ W i,0<i->i<K.length->Upd (λ k=>k=p) w W->Calls Tryz.prog 216 #[.slice (some ⟨g2,i,none⟩) (K.length-i) (cap2-i)] W λ e w'=>∃ g' cap',e=.returned (.slice (some ⟨g',0,none⟩) (K.length-i) cap')/\Hid (w'.ownsRow W.heap.size 3 1 (.slice (some ⟨g',0,none⟩) (K.length-i) cap') (C.drop i).length ((C.drop i).map zge)/\Below W.heap.size W w')):=Hd λ W i h0 hi hU=>by
  have r1:=(RX.out W hU).drop (i:=i) (by simp [hv]) hi
  rw [Nat.zero_add,<-List.map_drop] at r1
  have:=zpP r1 (by rw [List.length_drop];omega) (by rw [List.length_drop];omega)
  rw [List.length_drop,hv] at this
  rw [List.length_drop,hv]
  exact this
 have hsz:=Hd (zix false K [] hK hV)
 have hes:=Hd (zjs false K [] hK hV)
 have HH:=Hd h
 have HP:=Hd h.blk
 have HCUT:=Hd hcut
 have HN:=Hd hn
 have HVL:=Hd hv
 have hstep:Hid (∀ i,zbK false K [] (i+1)=zbK false K [] i+esz false K [] i):=Hd λ i=>rfl
 clear h hr hr2 hcut hK hV hgp hgp2 hv
 go_enter Tryz.func179,Tryz.ntmps179
 go_wp2_with fail
 go_loopg [3,4] K.length (λ gg s3 s4 wr=>∃ i:Nat,gg=K.length-i/\i<=K.length/\s3=.int .i64 (zbK false K [] i:Nat)/\s4=.int .i64 (i:Int)/\Hid (0<i->zbK false K [] (i-1)<zbK false K [] K.length / 2)/\Hid (Below w.heap.size w wr))
 case atStart=>exact ⟨0,rfl,zNz _,rfl,rfl,Hd λ e=>absurd e (by omega),Hd (zBr _ _)⟩
 case round =>
  obtain ⟨i,rfl,hi,rfl,rfl,hf,HB⟩:=hrel
  have S1:=Hd (SZ.out wr HB.out)
  have e1:=hes.out i
  have e2:=hsz.out i
  have e3:=hsz.out K.length
  have e4:=hstep.out i
  obtain ⟨d0,d1,d2,d3,df,dl⟩:=(HH.out.below HB.out).cells
  clear c0 c1 c2 c3 cf cl
  by_cases hlt:zbK false K [] i<zbK false K [] K.length / 2
  ·have hik:i<K.length:=by
    by_cases h:i<K.length
    ·exact h
    ·obtain rfl:i=K.length:=by omega
     omega
   go_wp2_with (go_at_call 178;refine S1.out.mono ?_;rintro e W1 ⟨rfl,rfl⟩)
   have w1:IntKind.i64.wrap ((i:Int)+1)=(i:Int)+1:=zaz (by omega) (by omega)
   have w2:((0:Int)<=(i:Int)+1)=True:=by simp <;> omega
   have w3:((i:Int)+1<=(cap:Int))=True:=by simp <;> omega
   have w4:((i:Int)<(cap:Int))=True:=by simp <;> omega
   have w5:(i<=((i:Int)+1).toNat)=True:=by simp <;> omega
   have w6:(cap=i)=False:=by simp <;> omega
   have w7:((i:Int)+1).toNat-i=1:=by omega
   have w8:((i:Int)+1<=(cap2:Int))=True:=by simp <;> omega
   have w9:((i:Int)<(cap2:Int))=True:=by simp <;> omega
   have w10:(cap2=i)=False:=by simp <;> omega
   have SZ2:=Hd (λ W b=>SZ1.out W b i hik)
   have HF:=Hd hlt
   have HI:=Hd hik
   have E1:=Hd e1
   have E2:=Hd e2
   have E4:=Hd e4
   clear e1 e2 e3 e4 hi hlt hik hp df hcap hcap2 hn hf SZ1
   go_region_held3 (λ w'=>w'.cell? ⟨p,0,none⟩=some (.bool false)/\w'.cell? ⟨p,1,none⟩=some (.slice (some ⟨g,0,none⟩) K.length cap)) (go_keep) (fail)
   all_goals (
    have HB1:=Hd ((HB.out.alloc HB.out.size (.cells #[.bool false,.slice (some ⟨g,i,none⟩) 1 (cap-i),.slice none 0 0,.slice none 0 0] 222)).drew)
    have hone:Hid (((W1.alloc (.cells #[.bool false,.slice (some ⟨g,i,none⟩) 1 (cap-i),.slice none 0 0,.slice none 0 0] 222)).drew).heap[W1.heap.size]?=some (.cells #[.bool false,.slice (some ⟨g,i,none⟩) 1 (cap-i),.slice none 0 0,.slice none 0 0] 222 (0,0))):=Hd (heap_alloc_new _ _)
    have hbs:=Hd HB.out.size
    generalize ((W1.alloc (.cells #[.bool false,.slice (some ⟨g,i,none⟩) 1 (cap-i),.slice none 0 0,.slice none 0 0] 222)).drew)=W2 at *
    obtain ⟨x0,x1,x2,x3,xf,xl⟩:=(HH.out.below HB1.out).cells
    have y2:=zaa (i:=2) hone.out rfl
    have yf:=zad hone.out 2
    clear xf d0 d1 d2 d3
    have HB3:=HB1
    have SZ3:=Hd (SZ2.out _ _ HB3.out hone.out)
    have E1':=E1.out
    have E2':=E2.out
    go_wp2_with (go_at_call 178;refine SZ3.out.mono ?_;rintro e W5 ⟨rfl,rfl⟩)
    go_roundg (K.length-(i+1)))
   all_goals (first
    | (case measure=>have:=HI.out;omega)
    | (case rel=>exact ⟨i+1,rfl,HI.out,by rw [E4.out];congr 1;exact zhB E1.out E2.out HI.out HN.out,rfl,Hd λ _=>HF.out,HB3⟩))
  ·have hle:zbK false K [] K.length / 2<=zbK false K [] i:=by omega
   obtain ⟨k0,k1⟩:=HCUT.out i hi hle hf.out
   go_wp2_with (go_at_call 178;refine S1.out.mono ?_;rintro e W1 ⟨rfl,rfl⟩)
   have w1:(i<=K.length)=True:=by simp <;> omega
   have w3:((i:Int)<=(cap:Int))=True:=by simp <;> omega
   have w4:(i<=cap)=True:=by simp <;> omega
   have w6:(cap=i)=False:=by simp <;> omega
   have w7:(i=0)=False:=by simp <;> omega
   have w8:((i:Int)<=(cap2:Int))=True:=by simp <;> omega
   have w9:(i<=cap2)=True:=by simp <;> omega
   have w10:(cap2=i)=False:=by simp <;> omega
   have HK0:=Hd k0
   have HK1:=Hd k1
   have HLE:=Hd hle
   have CK2:=Hd (λ W=>CK.out W i k0 k1)
   have CX2:=Hd (λ W=>CX.out W i k0 k1)
   have HU:=Hd (((HB.out.drew).upd' (zNr _)).mono (S':=λ k=>k=p) λ _ _ e=>False.elim e)
   clear e1 e2 e3 e4 hi hle k0 k1 hlt hp df hcap hcap2 hn SZ1 CK CX S1 SZ
   go_region_law ((go_simp;go_at_call 215;refine (CK2.out _ HU.out).mono ?_;rintro e Wc ⟨g3,cap3,rfl,HR⟩
                   have HR2:=Hd HR.out.2
                   have D0:Wc.cell? ⟨p,0,none⟩=some (.bool false):=(zCb (HR2.out.block p dl)).trans d0))
   all_goals (
    have HBc:=Hd (HB.out.drew.trans (HR2.out.mono HB.out.size))
    have SP1:=Hd (Spl.start HBc.out HP.out (za8 HR.out.1 HB.out.size))
    generalize (Wc.alloc (.cells #[.bool false,.slice (some ⟨g3,0,none⟩) (K.length-i) cap3,.slice none 0 0,.slice none 0 0] 222))=W2 at *
    generalize Wc.heap.size=q at *
    clear HR HR2 D0 d0 d1 d2 d3 dl HBc HU HB CK2
    obtain ⟨x0,x1,x2,x3,xf,xl,y2,y3,yf,yl,n1,n2⟩:=SP1.out.cells
    have xf1:=xf 1
    have SP2:=Hd (SP1.out.setP 1 (.slice (some ⟨g,0,none⟩) i i) _ _ _ rfl)
    clear xf yf
    go_wp2_with fail
    refine (CX2.out _ SP2.out.up).mono ?_
    rintro e W4 ⟨g4,cap4,rfl,HR4⟩
    have SP3:=Hd (SP2.out.below HR4.out.2)
    obtain ⟨z0,z1,z2,z3,zf,zl,u2,u3,uf,ul,m1,m2⟩:=SP3.out.cells
    have zfx:=zf 3
    have ufx:=uf 3
    have SP4:=Hd (SP2.out.setI HR4.out.2 HR4.out.1)
    have SP5:=Hd (SP4.out.setP 3 (.slice (some ⟨g2,0,none⟩) i i) _ _ _ rfl)
    clear zf uf SP1 SP2 SP3 SP4 HR4 CX2 x0 x1 x2 x3 xl y2 y3 yl xf1 n1 n2
    go_wp2_with fail
    go_ret
    exact ⟨q,rfl,i,g,cap,g2,cap2,_,_,_,HK0.out,HK1.out,HLE.out,hf.out HK0.out,rfl,by rw [HVL.out],SP5.out⟩)
def RmS (w:World) (G:Nat->Prop) (rb n m:Nat) (S:RS):Prop:=∃ puts,puts.length<=m/\Rm w G rb n puts/\Rep n puts S
def zb1 (w w':World) (G:Nat->Prop) (rb n m:Nat) (S:RS):Prop:=∃ G',RmS w' G' rb n m S/\zdb G G' w w'
def TB (w:World) (tb rb place:Nat):Prop:=w.heap[tb]?=some (.cells #[.pointer (some ⟨rb,0,none⟩),.int .i64 (place:Int)] 190 (0,0))
theorem RmS.below {w w':World} {G:Nat->Prop} {rb n m:Nat} {S:RS} (h:RmS w G rb n m S) (hb:Below w.heap.size w w'):RmS w' G rb n m S:=by
 obtain ⟨puts,a,b,c⟩:=h;exact ⟨puts,a,b.below hb,c⟩
theorem RmS.lt {w:World} {G:Nat->Prop} {rb n m:Nat} {S:RS} (h:RmS w G rb n m S):∀ k,G k->k<w.heap.size:=by
 obtain ⟨puts,a,b,c⟩:=h;exact b.lt
theorem RmS.bounds {w:World} {G:Nat->Prop} {rb n m:Nat} {S:RS} (h:RmS w G rb n m S):1<=n/\n<=65335:=by
 obtain ⟨puts,a,b,c⟩:=h;exact b.bounds
theorem RmS.more {w:World} {G:Nat->Prop} {rb n m m':Nat} {S:RS} (h:RmS w G rb n m S) (hm:m<=m'):RmS w G rb n m' S:=by
 obtain ⟨puts,a,b,c⟩:=h;exact ⟨puts,by omega,b,c⟩
theorem RmS.lim {w:World} {G:Nat->Prop} {rb n m:Nat} {S:RS} (h:RmS w G rb n m S):∀ p,S.used p=true->p<zaf n:=by
 obtain ⟨puts,a,b,c⟩:=h;exact c.lim
theorem zb1.of_room {w w':World} {G:Nat->Prop} {rb n m c:Nat} {S:RS} {puts:List (Int × ByteArray)} (h:zee w w' G rb n puts S c) (hm:puts.length<=m):zb1 w w' G rb n (m+c) S:=by
 obtain ⟨G',puts',a,b,d,e⟩:=h
 exact ⟨G',⟨puts',by omega,b,d⟩,e⟩
theorem zb1.below_left {w W w':World} {G:Nat->Prop} {rb n m:Nat} {S:RS} (hb:Below w.heap.size w W) (h:zb1 W w' G rb n m S):zb1 w w' G rb n m S:=by
 obtain ⟨G',a,b⟩:=h;exact ⟨G',a,b.below_left hb⟩
theorem zb1.upd {w w':World} {G:Nat->Prop} {rb n m:Nat} {S:RS} (h:zb1 w w' G rb n m S):Upd G w w':=by
 obtain ⟨G',a,b⟩:=h;exact b.upd
theorem TB.upd {w w':World} {tb rb place:Nat} {F:Nat->Prop} (h:TB w tb rb place) (hu:Upd F w w') (hn:¬F tb):TB w' tb rb place:=hu.at h hn
theorem TB.below {w w':World} {tb rb place:Nat} (h:TB w tb rb place) (hb:Below w.heap.size w w'):TB w' tb rb place:=(hb.block tb (zab h)).trans h
theorem TB.cells {w:World} {tb rb place:Nat} (h:TB w tb rb place):w.cell? ⟨tb,0,none⟩=some (.pointer (some ⟨rb,0,none⟩))/\w.cell? ⟨tb,1,none⟩=some (.int .i64 (place:Int)):=⟨zaa h rfl,zaa h rfl⟩
theorem zcs {v:Nat} (h:v<18446744073709551616):IntKind.u64.wrap (v:Int)=(v:Int):=by
 simp only [IntKind.wrap,IntKind.bits,IntKind.signed];simp;omega
theorem zej (w:World):Calls Tryz.prog 131 #[.int .i64 0] w λ e w'=>e=.returned (.tuple #[])/\w'=w:=by
 go_enter Tryz.func131,Tryz.ntmps131
 go_wp2_with fail
 go_end0
 exact ⟨rfl,rfl⟩
theorem zc3 (G:Nat->Prop) (tb rb place n m:Nat) (S:RS) (w:World) (h:RmS w G rb n m S) (ht:TB w tb rb place) (hp:place<16) (hm:m<=4000000) (hr:S.root place<=65536) :
 Calls Tryz.prog 125 #[.pointer (some ⟨tb,0,none⟩)] w λ e w'=>e=.returned (.int .i64 ((S.root place:Int)-1))/\Hid (Below w.heap.size w w'):=by
 obtain ⟨puts,h1,h2,h3⟩:=h
 obtain ⟨c0,c1⟩:=ht.cells
 have MU:=zej
 have RC:Hid (Calls Tryz.prog 69 #[.pointer (some ⟨rb,0,none⟩),.int .i64 (place:Int)] w.drew λ e w'=>e=.returned (.tuple #[.int .u64 (S.root place:Int),.int .i64 0])/\(w'.cell? ⟨tb,0,none⟩=some (.pointer (some ⟨rb,0,none⟩))/\w'.cell? ⟨tb,1,none⟩=some (.int .i64 (place:Int)))/\Hid (Below w.heap.size w w')):=Hd (by
  refine (zoX G rb n puts S place w.drew (h2.below (zBr _ _).drew) h3 (by omega) hp).mono ?_
  rintro e w' ⟨rfl,hb⟩
  have hb':Below w.heap.size w w':=(zBr w.heap.size w).drew.trans hb
  exact ⟨rfl,(ht.below hb').cells,hb'⟩)
 have hq:S.root place<=65536:=hr
 generalize S.root place=v at *
 clear h2 h3 ht hr
 go_enter Tryz.func125,Tryz.ntmps125
 go_wp2_with fail
 go_region_held3 (λ w'=>w'.cell? ⟨tb,0,none⟩=some (.pointer (some ⟨rb,0,none⟩))/\w'.cell? ⟨tb,1,none⟩=some (.int .i64 (place:Int))) (go_keep) ((go_at_call 69;refine Calls.at_args RC.out (by with_reducible rfl) ?_;rintro e w1 ⟨rfl,hk,HB⟩))
 go_wp2_with (go_at_call 131;refine (MU _).mono ?_;rintro e w2 ⟨rfl,rfl⟩)
 go_ret
 exact ⟨rfl,HB⟩
theorem zhC (G:Nat->Prop) (tb rb place n m:Nat) (S:RS) (v:Nat) (w:World) (h:RmS w G rb n m S) (ht:TB w tb rb place) (hg:¬G tb) (hp:place<16) (hm:m<=4000000) (hv:v<=65536) :
 Calls Tryz.prog 126 #[.pointer (some ⟨tb,0,none⟩),.int .i64 ((v:Int)-1)] w λ e w'=>e=.returned (.tuple #[])/\Hid (zb1 w w' G rb n (m+1) (zay S place v)):=by
 obtain ⟨puts,h1,h2,h3⟩:=h
 obtain ⟨c0,c1⟩:=ht.cells
 have MU:=zej
 have SR:Hid (Calls Tryz.prog 72 #[.pointer (some ⟨rb,0,none⟩),.int .i64 (place:Int),.int .u64 (v:Int)] w.drew λ e w'=>e=.returned (.int .i64 0)/\(w'.cell? ⟨tb,0,none⟩=some (.pointer (some ⟨rb,0,none⟩))/\w'.cell? ⟨tb,1,none⟩=some (.int .i64 (place:Int)))/\Hid (zb1 w w' G rb n (m+1) (zay S place v))):=Hd (by
  refine (zhr G rb n puts S place v w.drew (h2.below (zBr _ _).drew) h3 (by omega) hp (by omega)).mono ?_
  rintro e w' ⟨rfl,hgo⟩
  have hgo':=(zb1.of_room hgo h1).below_left ((zBr w.heap.size w).drew)
  exact ⟨rfl,(ht.upd hgo'.upd hg).cells,hgo'⟩)
 have hw:IntKind.i64.wrap (v:Int)=(v:Int):=zaz (by omega) (by omega)
 have hw2:IntKind.u64.wrap (v:Int)=(v:Int):=zcs (by omega)
 clear h2 h3 ht
 go_enter Tryz.func126,Tryz.ntmps126
 go_wp2_with fail
 go_region_held3 (λ w'=>w'.cell? ⟨tb,0,none⟩=some (.pointer (some ⟨rb,0,none⟩))/\w'.cell? ⟨tb,1,none⟩=some (.int .i64 (place:Int))) (go_keep) ((first
  | (go_at_call 72;refine Calls.at_args SR.out (by with_reducible rfl) ?_;rintro e w1 ⟨rfl,hk,HG⟩)
  | (go_at_call 131;refine (MU _).mono ?_;rintro e w2 ⟨rfl,rfl⟩)))
 go_end0
 exact ⟨rfl,HG⟩
theorem zpQ (d:Nd) (q:Nat) (F:Nat->Prop) (w:World) (hd:d.Ok) (h:ziD w q d F) :
 Calls Tryz.prog 212 #[.pointer (some ⟨q,0,none⟩)] w λ e w'=>e=.returned (.string (ofL d.bytes))/\Below w.heap.size w w':=by
 obtain ⟨vk,vv,vi,h,-⟩:=h
 cases d with
 | leaf l=>exact zlL l q vk vv vi w hd h
 | inner l=>exact zkB l q vk vv vi w hd h
theorem zlS (G F:Nat->Prop) (tb rb place n m:Nat) (S:RS) (p q:Nat) (d:Nd) (w:World) (h:RmS w G rb n m S) (ht:TB w tb rb place) (hg:¬G tb) (hm:m<=4000000) (hd:d.Ok) (hs:d.size<=512) (hq:ziD w q d F) (hu:S.used p=true) :
 Calls Tryz.prog 176 #[.pointer (some ⟨tb,0,none⟩),.int .i64 (p:Int),.pointer (some ⟨q,0,none⟩)] w λ e w'=>e=.returned (.tuple #[])/\Hid (zb1 w w' G rb n (m+1) (wrS S p d)):=by
 obtain ⟨puts,h1,h2,h3⟩:=h
 obtain ⟨c0,c1⟩:=ht.cells
 have MU:=zej
 have hql:q<w.heap.size:=by obtain ⟨vk,vv,vi,a,b⟩:=hq;exact zab a.blk
 have TX:Hid (Calls Tryz.prog 212 #[.pointer (some ⟨q,0,none⟩)] w.drew λ e w'=>e=.returned (.string (ofL d.bytes))/\w'.cell? ⟨tb,0,none⟩=some (.pointer (some ⟨rb,0,none⟩))/\Hid (Below w.heap.size w w')):=Hd (by
  refine (zpQ d q F w.drew hd (hq.upd (S:=λ _=>False) (Upd.refl _ _).drew λ _ _ _ e=>e)).mono ?_
  rintro e w' ⟨rfl,hb⟩
  have hb':Below w.heap.size w w':=(zBr w.heap.size w).drew.trans hb
  exact ⟨rfl,(ht.below hb').cells.1,hb'⟩)
 have PW:Hid (∀ W,Below w.heap.size w W->Calls Tryz.prog 172 #[.pointer (some ⟨rb,0,none⟩),.int .i64 (p:Int),.string (ofL d.bytes)] W λ e w'=>e=.returned (.int .i64 0)/\w'.cell? ⟨tb,0,none⟩=some (.pointer (some ⟨rb,0,none⟩))/\Hid (zb1 w w' G rb n (m+1) (wrS S p d))):=Hd λ W hW=>by
  refine (zjq G rb n puts S p (ofL d.bytes) W (h2.below hW) h3 (by omega) hu (by rw [zfn,zhy];exact hs)).mono ?_
  rintro e w' ⟨rfl,hgo⟩
  have hgo':zb1 w w' G rb n (m+1) (wrS S p d):=(zb1.of_room hgo h1).below_left hW
  exact ⟨rfl,(ht.upd hgo'.upd hg).cells.1,hgo'⟩
 generalize ofL d.bytes=s at *
 clear h2 h3 ht hq
 go_enter Tryz.func176,Tryz.ntmps176
 go_wp2_with fail
 go_region_held3 (λ w'=>w'.cell? ⟨tb,0,none⟩=some (.pointer (some ⟨rb,0,none⟩))) (go_keep) ((first
  | (go_at_call 212;refine Calls.at_args TX.out (by with_reducible rfl) ?_;rintro e w1 ⟨rfl,hk,HB⟩)
  | (go_at_call 172;refine Calls.at_args (PW.out _ HB.out) (by with_reducible rfl) ?_;rintro e w3 ⟨rfl,hk3,HG⟩)
  | (go_at_call 131;refine (MU _).mono ?_;rintro e w2 ⟨rfl,rfl⟩)))
 all_goals go_end0
 all_goals exact ⟨rfl,HG⟩
theorem zrt (l:List UInt8):pad (ofL l)=ofL (l++List.replicate (512-l.length) 0):=by
 unfold pad;rw [zfn,zky];rfl
theorem zek (G:Nat->Prop) (tb rb place n m:Nat) (S:RS) (p:Nat) (d:Nd) (w:World) (h:RmS w G rb n m S) (ht:TB w tb rb place) (hm:m<=4000000) (hd:d.Ok) (hs:d.size<=512) (hu:S.used p=true) (hc:S.cont p=pad (ofL d.bytes)) :
 Calls Tryz.prog 133 #[.pointer (some ⟨tb,0,none⟩),.int .i64 (p:Int)] w λ e w'=>∃ q,e=.returned (.pointer (some ⟨q,0,none⟩))/\Hid (∃ F,zc8 w' F q d/\(∀ k,F k->w.heap.size<=k)/\Below w.heap.size w w'):=by
 obtain ⟨puts,h1,h2,h3⟩:=h
 obtain ⟨c0,c1⟩:=ht.cells
 have MU:=zej
 have hnot:∀ (x:Bool) (w:World),(Op.unary .not (.bool x)).run Tryz.prog w=.ok (.bool (!x)) w:=λ _ _=>rfl
 have RD:Hid (Calls Tryz.prog 183 #[.pointer (some ⟨rb,0,none⟩),.int .i64 (p:Int)] w λ e w'=>e=.returned (.tuple #[.string (S.cont p),.int .i64 0])/\Below w.heap.size w w'):=Hd (zlz G rb n puts S p w h2 h3 (by omega) hu)
 rw [hc,zrt] at RD
 have PC:Hid (∀ W,Below w.heap.size w W->Calls Tryz.prog 184 #[.string (ofL (d.bytes++List.replicate (512-d.bytes.length) 0))] W λ e w'=>∃ p,e=.returned (.tuple #[.pointer (some ⟨p,0,none⟩),.bool true])/\Hid (∃ F,zc8 w' F p d/\(∀ k,F k->w.heap.size<=k)/\Below w.heap.size w w')):=Hd λ W hW=>by
  have hl:=zhy d
  refine (zpK d (List.replicate (512-d.bytes.length) 0) W hd (by simp;omega)).mono ?_
  rintro e w' ⟨p,rfl,F,a,b,c⟩
  exact ⟨p,rfl,F,a,λ k hk=>Nat.le_trans hW.size (b k hk),hW.trans (c.mono hW.size)⟩
 generalize ofL (d.bytes++List.replicate (512-d.bytes.length) 0)=s at *
 clear h2 h3 ht hc
 go_enter Tryz.func133,Tryz.ntmps133
 go_wp2_with (first
  | (go_at_call 183;refine RD.out.mono ?_;rintro e w1 ⟨rfl,hb⟩;have HB:=Hd hb;clear hb)
  | (go_at_call 131;refine (MU _).mono ?_;rintro e w2 ⟨rfl,rfl⟩)
  | (go_at_call 184;refine (PC.out _ HB.out).mono ?_;rintro e w3 ⟨q,rfl,HQ⟩))
 go_ret
 exact ⟨q,rfl,HQ⟩
theorem zlT (G:Nat->Prop) (rb n m:Nat) (S:RS) (w:World) (h:RmS w G rb n m S) (hm:m<=3999990) (hfree:∃ q,q<zaf n/\S.used q=false) :
 Calls Tryz.prog 44 #[.pointer (some ⟨rb,0,none⟩)] w λ e w'=>∃ p:Nat,e=.returned (.tuple #[.int .i64 p,.int .i64 0])/\Hid (p<zaf n/\S.used p=false/\zb1 w w' G rb n (m+2) (zaT S p)):=by
 obtain ⟨puts,h1,h2,h3⟩:=h
 refine (zpB G rb n puts S w h2 h3 (by omega) hfree).mono ?_
 rintro e w' ⟨p,rfl,a,b,c⟩
 exact ⟨p,rfl,a,b,zb1.of_room c h1⟩
theorem zpR (G F:Nat->Prop) (tb rb place n m:Nat) (S:RS) (q:Nat) (d:Nd) (w:World) (h:RmS w G rb n m S) (ht:TB w tb rb place) (hg:¬G tb) (hm:m<=3999980) (hd:d.Ok) (hs:d.size<=512) (hq:ziD w q d F) (hF:∀ k,F k->¬G k) (hfree:∃ q,q<zaf n/\S.used q=false) :
 Calls Tryz.prog 127 #[.pointer (some ⟨tb,0,none⟩),.pointer (some ⟨q,0,none⟩)] w λ e w'=>∃ p:Nat,e=.returned (.int .i64 p)/\Hid (p<zaf n/\S.used p=false/\zb1 w w' G rb n (m+3) (wrS (zaT S p) p d)):=by
 obtain ⟨c0,c1⟩:=ht.cells
 have MU:=zej
 have AL:=Hd (zlT G rb n m S w h (by omega) hfree)
 have hql:q<w.heap.size:=by obtain ⟨vk,vv,vi,a,b⟩:=hq;exact zab a.blk
 have htl:=zab ht
 have WR:Hid (∀ (p:Nat) W,p<zaf n->S.used p=false->zb1 w W G rb n (m+2) (zaT S p)->Calls Tryz.prog 176 #[.pointer (some ⟨tb,0,none⟩),.int .i64 (p:Int),.pointer (some ⟨q,0,none⟩)] W λ e w'=>e=.returned (.tuple #[])/\Hid (zb1 w w' G rb n (m+3) (wrS (zaT S p) p d))):=Hd λ p W hp hu hW=>by
  obtain ⟨G',a,b⟩:=hW
  refine (zlS G' F tb rb place n (m+2) (zaT S p) p q d W a (ht.upd b.upd hg) (λ e=>?_) (by omega) hd hs (hq.upd b.upd λ k hk _=>hF k hk) ?_).mono ?_
  ·rcases b.sub tb e with x|x
   ·exact hg x
   ·omega
  ·show zbn S.used p p=true
   unfold zbn;rw [if_pos rfl,hu];rfl
  ·rintro e w' ⟨rfl,G2,x,y⟩
   exact ⟨rfl,G2,x,b.trans y⟩
 clear h ht hq
 go_enter Tryz.func127,Tryz.ntmps127
 go_wp2_with fail
 refine AL.out.mono ?_
 rintro e w1 ⟨p,rfl,HP⟩
 have WR2:=Hd (WR.out p w1 HP.out.1 HP.out.2.1 HP.out.2.2)
 clear WR AL
 go_wp2_with (first
  | (go_at_call 131;refine (MU _).mono ?_;rintro e w2 ⟨rfl,rfl⟩)
  | (go_at_call 176;refine WR2.out.mono ?_;rintro e w3 ⟨rfl,HW⟩))
 go_ret
 exact ⟨p,rfl,HP.out.1,HP.out.2.1,HW.out⟩
def zaR (S:RS) (n c:Nat):Prop:=∃ U:List Nat,(∀ q,S.used q=true->q∈U)/\U.length+c<=zaf n
theorem zjz:∀ (N:Nat) (U:List Nat),U.length<N->∃ q,q<N/\q ∉ U
 | 0,U,h=>by omega
 | N+1,U,h=>by
   by_cases hN:N∈U
   ·have hl:=List.length_erase_of_mem hN
    have hp:=List.length_pos_of_mem hN
    obtain ⟨q,h1,h2⟩:=zjz N (U.erase N) (by omega)
    refine ⟨q,by omega,λ hq=>h2 ?_⟩
    exact (List.mem_erase_of_ne (by omega)).2 hq
   ·exact ⟨N,by omega,hN⟩
theorem zaR.free {S:RS} {n c:Nat} (h:zaR S n (c+1)):∃ q,q<zaf n/\S.used q=false:=by
 obtain ⟨U,h1,h2⟩:=h
 obtain ⟨q,h3,h4⟩:=zjz (zaf n) U (by omega)
 refine ⟨q,h3,?_⟩
 cases e:S.used q with
 | false=>rfl
 | true=>exact absurd (h1 q e) h4
theorem zaR.alloc {S:RS} {n c p:Nat} (h:zaR S n (c+1)) (hp:S.used p=false):zaR (zaT S p) n c:=by
 obtain ⟨U,h1,h2⟩:=h
 refine ⟨p::U,λ q hq=>?_,by simp;omega⟩
 have hq':zbn S.used p q=true:=hq
 unfold zbn at hq'
 by_cases e:q=p
 ·simp [e]
 ·rw [if_neg e] at hq';simp [h1 q hq']
theorem zaR.write {S:RS} {n c p:Nat} {d:Nd} (h:zaR S n c):zaR (wrS S p d) n c:=h
theorem zaR.less {S:RS} {n c c':Nat} (h:zaR S n c) (hc:c'<=c):zaR S n c':=by
 obtain ⟨U,h1,h2⟩:=h;exact ⟨U,h1,by omega⟩
def wt:(h:Nat)->PT h->Nat
 | 0,l=>List.length l
 | h+1,l=>(List.map (λ x=>max (2 ^ h) (wt h x.2.2)) l).sum
theorem zgI (l:PT 0):wt 0 l=List.length l:=rfl
theorem zlU {h:Nat} (A B:List (Kid h)):wt (h+1) (A++B:List (Kid h))=wt (h+1) A+wt (h+1) B:=by simp [wt]
theorem zdU {h:Nat} (x:Kid h) (B:List (Kid h)):wt (h+1) (x::B:List (Kid h))=max (2 ^ h) (wt h x.2.2)+wt (h+1) B:=by simp [wt]
theorem zel {h:Nat} (A B:List (Kid h)) (x:Kid h):wt (h+1) (A++x::B:List (Kid h))=wt (h+1) A+(max (2 ^ h) (wt h x.2.2)+wt (h+1) B):=by rw [zlU,zdU]
theorem zru {h:Nat} (l:List (Kid h)):2 ^ h*l.length<=wt (h+1) l:=by
 induction l with
 | nil=>simp [wt]
 | cons x l ih =>
   rw [zdU,zLc,Nat.mul_add,Nat.mul_one]
   have:=Nat.le_max_left (2 ^ h) (wt h x.2.2)
   omega
theorem zrv (h i:Nat) (u:PT h):wt h (tk h i u)+wt h (dr h i u)=wt h u:=by
 cases h with
 | zero=>show (List.take i u).length+(List.drop i u).length=List.length u;rw [<-zLa,List.take_append_drop]
 | succ h=>exact (zlU _ _).symm.trans (by simp [tk,dr])
theorem zlV {h:Nat} (u:PT h) (h2:(h=0->1<=(nd h u).len)/\(1<=h->2<=(nd h u).len)):2 ^ h<=wt h u:=by
 cases h with
 | zero=>have:=h2.1 rfl;rw [zaP] at this;exact this
 | succ h =>
   have:=h2.2 (by omega)
   rw [zaq] at this
   have h3:=zru (h:=h) u
   have h4:2 ^ h*2<=2 ^ h*List.length u:=Nat.mul_le_mul_left _ this
   have h5:2 ^ (h+1)=2 ^ h*2:=Nat.pow_succ 2 h
   omega
theorem zrw {h:Nat} {A B:List (Kid h)} {x y:Kid h} (H:wt h y.2.2<=wt h x.2.2+1):wt (h+1) (A++y::B:List (Kid h))<=wt (h+1) (A++x::B:List (Kid h))+1:=by
 rw [zel,zel]
 generalize 2 ^ h=P
 omega
theorem zpS {h:Nat} {A B:List (Kid h)} {x y:Kid h} (H:wt h y.2.2<=wt h x.2.2):wt (h+1) (A++y::B:List (Kid h))<=wt (h+1) (A++x::B:List (Kid h)):=by
 rw [zel,zel]
 generalize 2 ^ h=P
 omega
theorem zrx {h:Nat} {A B:List (Kid h)} {x y z:Kid h} (H:wt h y.2.2+wt h z.2.2<=wt h x.2.2+1) (h1:2 ^ h<=wt h y.2.2) (h2:2 ^ h<=wt h z.2.2):wt (h+1) (A++y::z::B:List (Kid h))<=wt (h+1) (A++x::B:List (Kid h))+1:=by
 rw [zel,zdU,zel]
 generalize 2 ^ h=P at *
 omega
theorem zry {h k:Nat} {t:PT h} (hp:0<(nd h t).len) (hw:wt h t<2 ^ k):h<=k:=by
 cases h with
 | zero=>omega
 | succ h =>
   rw [zaq] at hp
   have h1:=zru (h:=h) t
   have h2:2 ^ h*1<=2 ^ h*List.length t:=Nat.mul_le_mul_left _ hp
   have h3:2 ^ h<2 ^ k:=by omega
   have:=(Nat.pow_lt_pow_iff_right (by decide:1<2)).1 h3
   omega
structure zgf (S S':RS) (h p:Nat) (t:PT h) (key val:ByteArray) (t':PT h):Prop where
 tr:Tr S' h p t'
 ins:Ins key val (ents h t) (ents h t')
 frm:Frm (pgs h p t) (pgs h p t') S S'
 sng:zdO h t'<=zdO h t
 len:(nd h t).len<=(nd h t').len
 spr:∀ n c,zaR S n (c+h)->zaR S' n c
 lenU:(nd h t').len<=(nd h t).len+1
 wtU:wt h t'<=wt h t+1
structure zjA (S S':RS) (h p:Nat) (t:PT h) (key val:ByteArray) (k:ByteArray) (q:Nat) (t1 t2:PT h):Prop where
 tr1:Tr S' h p t1
 tr2:Tr S' h q t2
 ins:Ins key val (ents h t) (ents h t1++ents h t2)
 frm:Frm (pgs h p t) (pgs h p t1++pgs h q t2) S S'
 nod:(pgs h p t1++pgs h q t2).Nodup
 qlt:q<65536
 ksz:k.size<=96
 lo:∀ e∈ents h t1,zah e.1 k=true
 hi:∀ e∈ents h t2,zah e.1 k=false
 sng:zdO h t1+zdO h t2<=zdO h t
 spr:∀ n c,zaR S n (c+h+1)->zaR S' n c
 five:1<=h->5<=(nd h t).len
 six:1<=h->6<=(nd h t1).len+(nd h t2).len
 wtU:wt h t1+wt h t2<=wt h t+1/\2 ^ h<=wt h t1/\2 ^ h<=wt h t2
structure zgJ (S S1:RS) (h p:Nat) (t:PT h) (key val:ByteArray) (u:PT h):Prop where
 wf:Wf h u
 pos:0<(nd h u).len
 siz:(nd h u).size<=666
 kid:zdc S1 h u
 nod:(p::low h u).Nodup
 use:S1.used p=true
 ins:Ins key val (ents h t) (ents h u)
 frm:Frm (pgs h p t) (p::low h u) S S1
 sng:zdO h u<=zdO h t
 len:(nd h t).len<=(nd h u).len
 spr:∀ n c,zaR S n (c+h)->zaR S1 n c
 lenU:(nd h u).len<=(nd h t).len+1
 wtU:wt h u<=wt h t+1
theorem zkD {X Y:List Nat} {P P':List Nat} {S S':RS} (h:(X++(P++Y)).Nodup) (hf:Frm P P' S S') (hn:P'.Nodup) (hu:∀ q∈X++(P++Y),S.used q=true):(X++(P'++Y)).Nodup:=by
 obtain ⟨h1,h2,h3⟩:=List.nodup_append.1 h
 obtain ⟨h4,h5,h6⟩:=List.nodup_append.1 h2
 have hX:∀ q∈X,q ∉ P':=λ q hq=>(hf.keep q (λ e=>h3 q hq q (by simp [e]) rfl) (hu q (by simp [hq]))).1
 have hY:∀ q∈Y,q ∉ P':=λ q hq=>(hf.keep q (λ e=>h6 q e q hq rfl) (hu q (by simp [hq]))).1
 refine List.nodup_append.2 ⟨h1,List.nodup_append.2 ⟨hn,h5,λ a ha b hb e=>?_⟩,λ a ha b hb e=>?_⟩
 ·subst e;exact hY a hb ha
 ·subst e
  rcases List.mem_append.1 hb with hb|hb
  ·exact hX a ha hb
  ·exact h3 a ha a (by simp [hb]) rfl
section
variable {S S':RS} {h p:Nat} {A B:List (Kid h)} {x:Kid h} {key val:ByteArray}
theorem zcR (A B:List (Kid h)) (x:Kid h):low (h+1) (A++x::B:List (Kid h))=low (h+1) A++(pgs h x.2.1 x.2.2++low (h+1) B):=by
 simp [low]
theorem zdc.mid {S:RS} {A B:List (Kid h)} {x:Kid h} (H:zdc S (h+1) (A++x::B:List (Kid h))):zdc S (h+1) A/\On S h x.2.1 x.2.2/\zdc S (h+1) B :=
 ⟨λ y hy=>H y (by simp [hy]),H x (by simp),λ y hy=>H y (by simp [hy])⟩
theorem zdc.mk {S:RS} {A B:List (Kid h)} {x:Kid h} (h1:zdc S (h+1) A) (h2:On S h x.2.1 x.2.2) (h3:zdc S (h+1) B):zdc S (h+1) (A++x::B:List (Kid h)):=by
 intro y hy
 rcases List.mem_append.1 hy with hy|hy
 ·exact h1 y hy
 ·rcases List.mem_cons.1 hy with rfl|hy
  ·exact h2
  ·exact h3 y hy
theorem Frm.others {P':List Nat} (H:Tr S (h+1) p (A++x::B:List (Kid h))) (hf:Frm (pgs h x.2.1 x.2.2) P' S S') (hn:P'.Nodup) :
 zdc S' (h+1) A/\zdc S' (h+1) B/\(S'.used p=true/\S'.cont p=pad (ofL (nd (h+1) (A++x::B:List (Kid h))).bytes))/\(p::(low (h+1) A++(P'++low (h+1) B))).Nodup/\Frm (pgs (h+1) p (A++x::B:List (Kid h))) (p::(low (h+1) A++(P'++low (h+1) B))) S S':=by
 have hN:=H.nod
 rw [zaF,zcR] at hN
 obtain ⟨hp,hN2⟩:=List.nodup_cons.1 hN
 obtain ⟨n1,n2,n3⟩:=List.nodup_append.1 hN2
 obtain ⟨n4,n5,n6⟩:=List.nodup_append.1 n2
 obtain ⟨k1,k2,k3⟩:=H.kids.mid
 have hU:=H.on.used
 rw [zaF,zcR] at hU
 have kp:∀ q,q ∉ pgs h x.2.1 x.2.2->S.used q=true->S'.used q=S.used q/\S'.cont q=S.cont q:=λ q a b=>by
  obtain ⟨c,d,e⟩:=hf.keep q a b
  exact ⟨d.trans b.symm,e⟩
 have hpx:p ∉ pgs h x.2.1 x.2.2:=λ e=>hp (by simp [e])
 have hpu:=H.on.top
 refine ⟨k1.frame λ q hq=>kp q (λ e=>n3 q hq q (by simp [e]) rfl) (k1.used q hq),k3.frame λ q hq=>kp q (λ e=>n6 q e q hq rfl) (k3.used q hq),⟨(kp p hpx hpu.1).1.trans hpu.1,(kp p hpx hpu.1).2.trans hpu.2⟩,?_,?_⟩
 ·have:=zkD (X:=p::low (h+1) A) (Y:=low (h+1) B) (P:=pgs h x.2.1 x.2.2) (by simpa using hN) hf hn (by simpa using hU)
  simpa using this
 ·refine hf.ctx _ _ (p::(low (h+1) A++low (h+1) B)) (λ q=>?_) (λ q=>?_)
  ·rw [zaF,zcR]
   simp only [List.mem_cons,List.mem_append]
   constructor
   ·rintro (a|a|a|a) <;> simp [a]
   ·rintro (a|a|a|a) <;> simp [a]
  ·simp only [List.mem_cons,List.mem_append]
   constructor
   ·rintro (a|a|a|a) <;> simp [a]
   ·rintro (a|a|a|a) <;> simp [a]
theorem zfq (A B:List (Kid h)) (x:Kid h):zdO (h+1) (A++x::B:List (Kid h))=(if A.length+B.length=0 then 1 else 0)+((A.map λ x=>zdO h x.2.2).sum+(zdO h x.2.2+(B.map λ x=>zdO h x.2.2).sum)):=by
 have e:((A++x::B).length=1) ↔ (A.length+B.length=0):=by rw [zLa,zLc];omega
 simp only [zdO,e,List.map_append,List.map_cons,List.sum_append,List.sum_cons]
theorem zgf.inner {t':PT h} (H:Tr S (h+1) p (A++x::B:List (Kid h))) (W:Way key A x B) (K:zgf S S' h x.2.1 x.2.2 key val t') :
 zgf S S' (h+1) p (A++x::B:List (Kid h)) key val (A++(x.1,x.2.1,t')::B:List (Kid h)):=by
 obtain ⟨k1,k3,kp,hn,hf⟩:=K.frm.others H K.tr.nod
 have e:nd (h+1) (A++(x.1,x.2.1,t')::B:List (Kid h))=nd (h+1) (A++x::B:List (Kid h)):=by simp [nd]
 have hx:=H.wf.1 x (by simp)
 refine ⟨⟨⟨λ y hy=>?_,H.wf.2.set W x.2.1 t' K.ins.mem⟩,by rw [e];exact H.pos,by rw [e];exact H.fit,⟨by rw [e];exact kp,zdc.mk k1 K.tr.on k3⟩,by rw [zaF,zcR];exact hn⟩,?_,by rw [zaF (h+1) p (A++(x.1,x.2.1,t')::B:List (Kid h)),zcR];exact hf,?_,by rw [e];exact zNr _,λ n c hc=>K.spr n c (hc.less (by omega)),by rw [e];exact Nat.le_succ _,zrw K.wtU⟩
 ·rcases List.mem_append.1 hy with hy|hy
  ·exact H.wf.1 y (by simp [hy])
  ·rcases List.mem_cons.1 hy with rfl|hy
   ·exact ⟨hx.1,hx.2.1,K.tr.pos,K.tr.fit,K.tr.wf⟩
   ·exact H.wf.1 y (by simp [hy])
 ·obtain ⟨w1,w2⟩:=H.wf.2.way W
  rw [zb4,zb4]
  exact K.ins.lift _ _ (λ a ha=>by obtain ⟨y,hy,he⟩:=(zbq h A a).1 ha;exact w1 y hy a he) λ b hb=>by obtain ⟨y,hy,he⟩:=(zbq h B b).1 hb;exact w2 y hy b he
 ·rw [zfq,zfq]
  have:=K.sng
  show _+(_+(zdO h t'+_))<=_
  omega
theorem zf9 (l1 l2:List (ByteArray × Nat)) (k:ByteArray) (q:Nat):(Nd.inner (l1++(k,q)::l2)).size=(Nd.inner (l1++l2)).size+(5+k.size):=by
 rw [zaM,zaM];simp [esI];omega
theorem zlW (t1 t2:PT h) (k:ByteArray) (q:Nat):nd (h+1) (A++(x.1,x.2.1,t1)::(k,q,t2)::B:List (Kid h))=.inner ((A++[x]).map (λ x:Kid h=>(x.1,x.2.1))++(k,q)::B.map (λ x:Kid h=>(x.1,x.2.1))):=by simp [nd]
theorem zem:nd (h+1) (A++x::B:List (Kid h))=.inner ((A++[x]).map (λ x:Kid h=>(x.1,x.2.1))++B.map (λ x:Kid h=>(x.1,x.2.1))):=by simp [nd]
theorem zgJ.inner {t1 t2:PT h} {k:ByteArray} {q:Nat} (H:Tr S (h+1) p (A++x::B:List (Kid h))) (W:Way key A x B) (K:zjA S S' h x.2.1 x.2.2 key val k q t1 t2) :
 zgJ S S' (h+1) p (A++x::B:List (Kid h)) key val (A++(x.1,x.2.1,t1)::(k,q,t2)::B:List (Kid h)):=by
 obtain ⟨k1,k3,kp,hn,hf⟩:=K.frm.others H K.nod
 have hx:=H.wf.1 x (by simp)
 have hlow:low (h+1) (A++(x.1,x.2.1,t1)::(k,q,t2)::B:List (Kid h))=low (h+1) A++((pgs h x.2.1 t1++pgs h q t2)++low (h+1) B):=by simp [low]
 have hsz:=H.fit
 rw [zem] at hsz
 refine ⟨⟨λ y hy=>?_,?_⟩,?_,?_,zdc.mk k1 K.tr1.on (λ y hy=>?_),by rw [hlow];exact hn,kp.1,?_,by rw [hlow];exact hf,?_,?_,λ n c hc=>K.spr n c (hc.less (by omega)),by rw [zaq,zaq];simp;omega,zrx K.wtU.1 K.wtU.2.1 K.wtU.2.2⟩
 ·rcases List.mem_append.1 hy with hy|hy
  ·exact H.wf.1 y (by simp [hy])
  ·rcases List.mem_cons.1 hy with rfl|hy
   ·exact ⟨hx.1,hx.2.1,K.tr1.pos,K.tr1.fit,K.tr1.wf⟩
   ·rcases List.mem_cons.1 hy with rfl|hy
    ·exact ⟨K.ksz,K.qlt,K.tr2.pos,K.tr2.fit,K.tr2.wf⟩
    ·exact H.wf.1 y (by simp [hy])
 ·exact H.wf.2.part W x.2.1 q t1 t2 (λ e he=>K.ins.mem e (by simp [he])) (λ e he=>K.ins.mem e (by simp [he])) (zbG K.tr1.wf K.tr1.pos) K.lo K.hi
 ·rw [zaq,zLa,zLc];omega
 ·rw [zlW,zf9];have:=K.ksz;omega
 ·rcases List.mem_cons.1 hy with rfl|hy
  ·exact K.tr2.on
  ·exact k3 y hy
 ·obtain ⟨w1,w2⟩:=H.wf.2.way W
  have e:ents (h+1) (A++(x.1,x.2.1,t1)::(k,q,t2)::B:List (Kid h))=ents (h+1) A++((ents h t1++ents h t2)++ents (h+1) B):=by simp [ents]
  rw [zb4,e]
  exact K.ins.lift _ _ (λ a ha=>by obtain ⟨y,hy,he⟩:=(zbq h A a).1 ha;exact w1 y hy a he) λ b hb=>by obtain ⟨y,hy,he⟩:=(zbq h B b).1 hb;exact w2 y hy b he
 ·have:=K.sng
  rw [zfq,zfq]
  have e:¬(A.length+((k,q,t2)::B).length=0):=by simp
  rw [if_neg e]
  simp only [List.map_cons,List.sum_cons]
  show _+(_+(zdO h t1+(zdO h t2+_)))<=_
  omega
 ·rw [zaq,zaq];simp
end
section
variable {S S1:RS} {h p:Nat} {t u:PT h} {key val:ByteArray}
theorem zgJ.one (H:zgJ S S1 h p t key val u) (hs:(nd h u).size<=512):zgf S (wrS S1 p (nd h u)) h p t key val u:=by
 refine ⟨Tr.write H.wf H.pos hs H.kid (by rw [zaF];exact H.nod) H.use,H.ins,?_,H.sng,H.len,λ n c hc=>(H.spr n c hc).write,H.lenU,H.wtU⟩
 rw [zaF h p u]
 exact H.frm.trans (Frm.write _ _ _ _ (by simp))
theorem zlX:∀ {h:Nat} {u:PT h},Wf h u->1<=h->512<(nd h u).size->6<=(nd h u).len
 | 0,_,_,h,_=>absurd h (by decide)
 | h+1,u,H,_,hs=>by
   obtain ⟨l,hl⟩:∃ l:List (Kid h),l=u:=⟨u,rfl⟩
   subst hl
   have h1:(List.map esI (List.map (λ x:Kid h=>(x.1,x.2.1)) l)).sum<=101*(List.map (λ x:Kid h=>(x.1,x.2.1)) l).length:=zlO esI 101 _ λ x hx=>by
    obtain ⟨y,hy,rfl⟩:=List.mem_map.1 hx
    have:=(H.1 y hy).1
    show 5+y.1.size<=101
    omega
   have h2:512<3+(List.map esI (List.map (λ x:Kid h=>(x.1,x.2.1)) l)).sum:=by
    rw [<-zaM];exact hs
   rw [zaq]
   rw [zLm] at h1
   omega
theorem zgJ.ok (H:zgJ S S1 h p t key val u):(nd h u).Ok:=H.wf.ok H.pos (Nat.le_trans H.siz (by decide))
theorem zgJ.cut (H:zgJ S S1 h p t key val u) (hs:512<(nd h u).size) {i:Nat} (hc:zhA (nd h u) i):0<i/\i<(nd h u).len/\((nd h u).take i).size<=512/\((nd h u).drop i).size<=512/\((nd h u).isLeaf=false->2<=((nd h u).take i).len/\2<=((nd h u).drop i).len) :=
 hc.fit H.ok.key H.ok.val hs H.siz
theorem zcS (d:Nd) (i:Nat) (hi:i<=d.len):(d.take i).len=i/\(d.drop i).len=d.len-i:=by
 cases d with
 | leaf l=>simp [Nd.take,Nd.drop,Nd.len,Nd.keys] at *;omega
 | inner l=>simp [Nd.take,Nd.drop,Nd.len,Nd.keys] at *;omega
theorem zgJ.two (H:zgJ S S1 h p t key val u) (hs:512<(nd h u).size) {i:Nat} (hc:zhA (nd h u) i) {q:Nat} (hq:S1.used q=false) (hq2:q<65536) :
 zjA S (wrS (zaT (wrS S1 p (nd h (tk h i u))) q) q (nd h (dr h i u))) h p t key val ((nd h (dr h i u)).keys.getD 0 ByteArray.empty) q (tk h i u) (dr h i u):=by
 obtain ⟨h0,h1,h2,h3,h4⟩:=H.cut hs hc
 obtain ⟨e1,e2⟩:=zcS (nd h u) i (by omega)
 obtain ⟨w1,w2⟩:=H.wf.cut i
 obtain ⟨k1,k2⟩:=H.kid.cut i
 have hlow:=zpO h i u
 have hN:=H.nod
 rw [<-hlow] at hN
 obtain ⟨n1,n2⟩:=List.nodup_cons.1 hN
 obtain ⟨n3,n4,n5⟩:=List.nodup_append.1 n2
 have hpq:p≠q:=λ e=>by have:=H.use;rw [e,hq] at this;cases this
 have hql:q ∉ low h u:=λ e=>by have:=H.kid.used q e;rw [hq] at this;cases this
 rw [<-hlow] at hql
 have T1:Tr (wrS S1 p (nd h (tk h i u))) h p (tk h i u):=Tr.write w1 (by rw [zbE,e1];exact h0) (by rw [zbE];exact h2) k1 (by rw [zaF];exact List.nodup_cons.2 ⟨λ e=>n1 (by simp [e]),n3⟩) H.use
 have hu2:(wrS S1 p (nd h (tk h i u))).used q=false:=hq
 have k2':zdc (wrS S1 p (nd h (tk h i u))) h (dr h i u):=k2.frame λ r hr=>⟨rfl,by
  have:r≠p:=λ e=>n1 (by rw [<-e];simp [hr])
  show (if r=p then _ else _)=_
  rw [if_neg this]⟩
 have T2:=Tr.fresh w2 (by rw [zby,e2];omega) (by rw [zby];exact h3) k2' n4 hu2
 have f1:=H.frm.trans (Frm.write (p::low h u) S1 p (nd h (tk h i u)) (by simp))
 have f2:=f1.trans (Frm.alloc (p::low h u) _ q hu2)
 have f3:=f2.trans (Frm.write (q::p::low h u) _ q (nd h (dr h i u)) (by simp))
 obtain ⟨g1,g2,g3⟩:=H.wf.first i h0 (by rw [zby,e2];omega)
 have hmem:∀ r,r∈pgs h p (tk h i u)++pgs h q (dr h i u) ↔ r∈q::p::low h u:=λ r=>by
  rw [zaF,zaF,<-hlow]
  simp only [List.mem_append,List.mem_cons]
  constructor
  ·rintro ((a|a)|(a|a)) <;> simp [a]
  ·rintro (a|a|a|a) <;> simp [a]
 refine ⟨T1.frame λ r hr=>?_,T2,by rw [znQ];exact H.ins,?_,?_,hq2,g3,g1,g2,?_,λ n c hc'=>?_,λ hh=>?_,λ hh=>?_,?_⟩
 ·have hr':r≠q:=λ e=>by
   rw [zaF] at hr
   rcases List.mem_cons.1 hr with e'|e'
   ·exact hpq (by rw [<-e',e])
   ·exact hql (by rw [<-e];simp [e'])
  refine ⟨?_,?_⟩
  ·show zbn _ q r=_
   unfold zbn;rw [if_neg hr']
  ·show (if r=q then _ else if r=q then _ else _)=_
   rw [if_neg hr',if_neg hr']
 ·exact ⟨λ r a b=>by obtain ⟨x,y,z⟩:=f3.keep r a b;exact ⟨λ e=>x ((hmem r).1 e),y,z⟩,λ r a=>(f3.back r a).imp (λ e=>(hmem r).2 e) id,f3.root,f3.base⟩
 ·rw [zaF,zaF]
  refine List.nodup_append.2 ⟨List.nodup_cons.2 ⟨λ e=>n1 (by simp [e]),n3⟩,List.nodup_cons.2 ⟨λ e=>hql (by simp [e]),n4⟩,λ a ha b hb e=>?_⟩
  subst e
  rcases List.mem_cons.1 ha with rfl|ha
  ·rcases List.mem_cons.1 hb with e|hb
   ·exact hpq e
   ·exact n1 (by simp [hb])
  ·rcases List.mem_cons.1 hb with rfl|hb
   ·exact hql (by simp [ha])
   ·exact n5 a ha a hb rfl
 ·refine Nat.le_trans ?_ H.sng
  cases h with
  | zero=>simp [zdO]
  | succ h =>
    obtain ⟨a,b⟩:=h4 rfl
    exact znR (h+1) i u (by rw [zbE];exact a) (by rw [zby];exact b)
 ·exact ((H.spr n (c+1) (hc'.less (by omega))).write.alloc hu2).write
 ·have:=H.lenU
  have:=zlX H.wf hh hs
  omega
 ·have:=zlX H.wf hh hs
  rw [zbE,zby,e1,e2]
  omega
 ·refine ⟨by rw [zrv];exact H.wtU,zlV _ ⟨λ _=>by rw [zbE,e1];omega,λ hh=>?_⟩,zlV _ ⟨λ _=>by rw [zby,e2];omega,λ hh=>?_⟩⟩
  ·rw [zbE]
   cases h with
   | zero=>omega
   | succ h=>exact (h4 rfl).1
  ·rw [zby]
   cases h with
   | zero=>omega
   | succ h=>exact (h4 rfl).2
end
theorem zgJ.leaf {S:RS} {p:Nat} {A B:List (ByteArray × ByteArray)} {t:List (ByteArray × ByteArray)} {key val:ByteArray} (H:Tr S 0 p t) (ht:t=A++B\/∃ v,t=A++(key,v)::B) (hA:∀ a∈A,zah a.1 key=true) (hB:∀ b∈B,zah key b.1=true) (hk:key.size<=96) (hv:val.size<=56) :
 zgJ S S 0 p t key val (A++(key,val)::B):=by
 have hsrt:Srt (A++B):=by
  rcases ht with rfl|⟨v,rfl⟩
  ·exact H.wf.2
  ·exact (zhz H.wf.2).1
 have hmem:∀ e∈A++B,e.1.size<=96/\e.2.size<=56:=λ e he=>by
  rcases ht with rfl|⟨v,rfl⟩
  ·exact H.wf.1 e he
  ·exact H.wf.1 e (by rcases List.mem_append.1 he with h|h <;> simp [h])
 have hsz:(Nd.leaf (A++B)).size<=512:=by
  have:=H.fit
  rcases ht with rfl|⟨v,rfl⟩
  ·exact this
  ·rw [zeJ,zaE] at this
   rw [zaE]
   simp at this ⊢;omega
 refine ⟨⟨λ e he=>?_,zpL hsrt hA hB⟩,by rw [zaP,zLa,zLc];omega,?_,trivial,by simp [low],H.on.1,⟨A,B,rfl,ht,hA,hB⟩,Frm.refl _ _,by simp [zdO],?_,λ n c hc=>hc,by rw [zaP,zaP];rcases ht with rfl|⟨v,rfl⟩ <;> simp <;> omega,by rw [zgI,zgI];rcases ht with rfl|⟨v,rfl⟩ <;> simp <;> omega⟩
 ·rcases List.mem_append.1 he with he|he
  ·exact hmem e (by simp [he])
  ·rcases List.mem_cons.1 he with rfl|he
   ·exact ⟨hk,hv⟩
   ·exact hmem e (by simp [he])
 ·rw [zeJ,zaE]
  rw [zaE] at hsz
  simp [esL] at hsz ⊢;omega
 ·rw [zaP,zaP]
  rcases ht with rfl|⟨v,rfl⟩ <;> simp
theorem RmS.frame {w w':World} {G F:Nat->Prop} {rb n m:Nat} {S:RS} (h:RmS w G rb n m S) (hu:Upd F w w') (hn:∀ k,G k->¬F k):RmS w' G rb n m S:=by
 obtain ⟨puts,a,b,c⟩:=h;exact ⟨puts,a,b.frame hu hn,c⟩
structure zak (w0 W:World) (G0 G:Nat->Prop) (tb rb place n m:Nat) (S:RS):Prop where
 room:RmS W G rb n m S
 up:Upd G0 w0 W
 sub:∀ k,G k->G0 k\/w0.heap.size<=k
 blk:TB W tb rb place
 gt:¬G tb
 tl:tb<w0.heap.size
section
variable {w0 W W':World} {G0 G G':Nat->Prop} {tb rb place n m m':Nat} {S S':RS}
theorem zak.start (h:RmS w0 G rb n m S) (ht:TB w0 tb rb place) (hg:¬G tb):zak w0 w0 G G tb rb place n m S:=⟨h,Upd.refl _ _,λ _ e=>.inl e,ht,hg,zab ht⟩
theorem zak.below (h:zak w0 W G0 G tb rb place n m S) (hb:Below W.heap.size W W'):zak w0 W' G0 G tb rb place n m S :=
 ⟨h.room.below hb,h.up.trans' (hb.upd' (zNr _)) (λ _ _ e=>False.elim e),h.sub,h.blk.below hb,h.gt,h.tl⟩
theorem zak.step (h:zak w0 W G0 G tb rb place n m S) (hg:zb1 W W' G rb n m' S'):∃ G',zak w0 W' G0 G' tb rb place n m' S'/\zdb G G' W W':=by
 obtain ⟨G',a,b⟩:=hg
 have hs:=h.up.size
 have htW:=zab h.blk
 refine ⟨G',⟨a,h.up.trans' b.upd λ j hj e=>(h.sub j e).resolve_right (by omega),λ k hk=>?_,h.blk.upd b.upd h.gt,λ e=>?_,h.tl⟩,b⟩
 ·rcases b.sub k hk with e|e
  ·exact h.sub k e
  ·exact .inr (by omega)
 ·rcases b.sub tb e with e|e
  ·exact h.gt e
  ·omega
theorem zak.node (h:zak w0 W G0 G tb rb place n m S) {F:Nat->Prop} (hu:Upd F W W') (hF:∀ k,F k->w0.heap.size<=k/\¬G k):zak w0 W' G0 G tb rb place n m S :=
 ⟨h.room.frame hu λ k hk e=>(hF k e).2 hk,h.up.trans' hu λ j hj e=>absurd (hF j e).1 (by omega),h.sub,h.blk.upd hu λ e=>by have:=(hF tb e).1;have:=h.tl;omega,h.gt,h.tl⟩
theorem zak.go (h:zak w0 W G0 G tb rb place n m S):zb1 w0 W G0 rb n m S:=⟨G,h.room,h.up,h.sub⟩
def Nod (w0 W:World) (G:Nat->Prop) (q:Nat) (d:Nd):Prop:=∃ F,zc8 W F q d/\∀ k,F k->w0.heap.size<=k/\¬G k
def RdN (w0 W:World) (G:Nat->Prop) (q:Nat) (d:Nd):Prop:=∃ F,ziD W q d F/\∀ k,F k->w0.heap.size<=k/\¬G k
theorem zc8.rdIn {W:World} {F:Nat->Prop} {q:Nat} {d:Nd} (h:zc8 W F q d):ziD W q d F:=by
 obtain ⟨vk,vv,vi,a⟩:=h
 exact ⟨vk,vv,vi,a.read,λ k hk=>⟨a.lt k ((a.own k).2 hk),(a.own k).2 hk⟩⟩
variable {q:Nat} {d:Nd}
theorem Nod.rd (h:Nod w0 W G q d):RdN w0 W G q d:=by
 obtain ⟨F,a,b⟩:=h;exact ⟨F,a.rdIn,b⟩
theorem Nod.start {F:Nat->Prop} (h:zc8 W F q d) (hF:∀ k,F k->w0.heap.size<=k) (hG:∀ k,G k->k<w0.heap.size):Nod w0 W G q d:=⟨F,h,λ k hk=>⟨hF k hk,λ e=>by have:=hF k hk;have:=hG k e;omega⟩⟩
theorem Nod.below (h:Nod w0 W G q d) (hb:Below W.heap.size W W'):Nod w0 W' G q d:=by
 obtain ⟨F,a,b⟩:=h;exact ⟨F,a.below hb (zNr _),b⟩
theorem Nod.turn (h:Nod w0 W G q d) (ht:zdb G G' W W'):Nod w0 W' G' q d:=by
 obtain ⟨F,a,b⟩:=h
 refine ⟨F,a.upd ht.upd λ k hk=>(b k hk).2,λ k hk=>⟨(b k hk).1,λ e=>?_⟩⟩
 rcases ht.sub k e with e|e
 ·exact (b k hk).2 e
 ·have:=a.lt k hk;omega
theorem Nod.go {d':Nd} {F:Nat->Prop} (hF:∀ k,F k->w0.heap.size<=k/\¬G k) (hg:zo5 W W' F q d') (hG:∀ k,G k->k<W.heap.size) (hs:w0.heap.size<=W.heap.size):Nod w0 W' G q d':=by
 obtain ⟨F',a,b,c⟩:=hg
 refine ⟨F',a,λ k hk=>?_⟩
 rcases b k hk with e|e
 ·exact hF k e
 ·exact ⟨by omega,λ e'=>by have:=hG k e';omega⟩
theorem RdN.below (h:RdN w0 W G q d) (hb:Below W.heap.size W W'):RdN w0 W' G q d:=by
 obtain ⟨F,a,b⟩:=h;exact ⟨F,a.upd (hb.upd' (zNr _)) λ k _ _ e=>e,b⟩
theorem RdN.turn (h:RdN w0 W G q d) (ht:zdb G G' W W'):RdN w0 W' G' q d:=by
 obtain ⟨F,a,b⟩:=h
 have a':=a.upd ht.upd λ k hk _=>(b k hk).2
 obtain ⟨vk,vv,vi,x,y⟩:=a
 obtain ⟨vk',vv',vi',x',y'⟩:=a'
 refine ⟨λ k=>F k/\k<W.heap.size,⟨vk,vv,vi,?_,λ k hk=>⟨Nat.lt_of_lt_of_le (y k hk).1 ht.upd.size,(y k hk).2,(y k hk).1⟩⟩,λ k hk=>⟨(b k hk.1).1,λ e=>?_⟩⟩
 ·have c:=x.oth.upd ht.upd λ k hk=>⟨(y k hk).1,(b k (y k hk).2).2⟩
  exact ⟨c.blk,c.ks,c.vs,c.is⟩
 ·rcases ht.sub k e with e|e
  ·exact (b k hk.1).2 e
  ·have:=hk.2;omega
theorem RdN.view (h:RdN w0 W G q d):∃ vk vv vi,NdV W q d vk vv vi:=by
 obtain ⟨F,⟨vk,vv,vi,a,-⟩,-⟩:=h;exact ⟨vk,vv,vi,a⟩
end
theorem zpT (q:Nat) (d:Nd) (vk vv vi:Value) (w:World) (h:NdV w q d vk vv vi) (hd:d.Ok) :
 Calls Tryz.prog 178 #[.pointer (some ⟨q,0,none⟩)] w λ e w'=>e=.returned (.int .i64 (d.size:Nat))/\w'=w :=
 zhs q d.isLeaf d.keys d.vals vk vv vi (0,0) w h.blk h.ks hd.pos (λ e=>⟨h.vs,d.vals_len e⟩) hd.key hd.val (Nat.le_of_lt hd.few)
theorem znS (F:Nat->Prop) (q:Nat) (d:Nd) (w:World) (h:zc8 w F q d) (hd:d.Ok) (h1:512<d.size) (h2:d.size<=666) :
 Calls Tryz.prog 179 #[.pointer (some ⟨q,0,none⟩)] w λ e w'=>∃ q1,e=.returned (.pointer (some ⟨q1,0,none⟩))/\Hid (∃ i,zhA d i/\ziD w' q (d.take i) F/\ziD w' q1 (d.drop i) (λ k=>w.heap.size<=k)/\Upd F w w'):=by
 obtain ⟨vk,vv,vi,h⟩:=h
 have hcut:∀ i,i<=d.len->d.size / 2<=zbK d.isLeaf d.keys d.vals i->(0<i->zbK d.isLeaf d.keys d.vals (i-1)<d.size / 2)->zhA d i/\0<i/\i<d.len:=λ i a b c=>by
  have hc:zhA d i:=⟨a,b,c⟩
  have:=hc.fit hd.key hd.val h1 h2
  exact ⟨hc,this.1,this.2.1⟩
 cases d with
 | leaf l =>
   refine (zkC q (l.map Prod.fst) (l.map Prod.snd) vk vv vi w h.parts (by simp) hd.key hd.val (Nat.le_of_lt hd.few) (λ i a b c=>(hcut i a b c).2) hd.pos).mono ?_
   rintro e w' ⟨q1,rfl,i,g,cap,g2,cap2,b1,b2,b3,c0,c1,c2,c3,rfl,rfl,sp⟩
   refine ⟨q1,rfl,i,(hcut i (Nat.le_of_lt c1) c2 λ _=>c3).1,?_,?_,sp.up.mono λ k _ e=>(h.own k).2 (.inl e)⟩
   ·have hl1:∀ k,(Value.slice (some (⟨g,0,none⟩:Addr)) (l.map Prod.fst).length cap).ownBlock=some k->k<w.heap.size/\¬k=q:=λ k hk=>⟨(h.ks.lt k hk).2,λ e=>h.pk (by rw [<-e];exact hk)⟩
    have hl2:∀ k,(Value.slice (some (⟨g2,0,none⟩:Addr)) (l.map Prod.fst).length cap2).ownBlock=some k->k<w.heap.size/\¬k=q:=λ k hk=>⟨(h.vs.lt k hk).2,λ e=>h.pv (by rw [<-e];exact hk)⟩
    have hl3:∀ k,vi.ownBlock=some k->k<w.heap.size/\¬k=q:=λ k hk=>⟨(h.is.lt k hk).2,λ e=>h.pi (by rw [<-e];exact hk)⟩
    have r1:=((zbu.of_own h.ks).kept λ k hk=>sp.up.block k (hl1 k hk).1 (hl1 k hk).2).take (i:=i) (by simp [Nd.keys]) c1
    have r2:=((zbu.of_own h.vs).kept λ k hk=>sp.up.block k (hl2 k hk).1 (hl2 k hk).2).take (i:=i) (by simp [Nd.vals]) c1
    have r3:=(zbu.of_own h.is).kept λ k hk=>sp.up.block k (hl3 k hk).1 (hl3 k hk).2
    refine ⟨_,_,_,⟨sp.bp,?_,?_,?_⟩,λ k hk=>?_⟩
    ·simpa [Nd.keys,Nd.take,List.map_take] using r1
    ·simpa [Nd.vals,Nd.take,List.map_take] using r2
    ·exact r3
    ·have hs:=sp.up.size
     rcases hk with e|e|e|e
     ·exact ⟨by rw [e];exact zab sp.bp,(h.own k).2 (.inl e)⟩
     ·exact ⟨Nat.lt_of_lt_of_le (hl1 k e).1 hs,(h.own k).2 (.inr (.inl e))⟩
     ·exact ⟨Nat.lt_of_lt_of_le (hl2 k e).1 hs,(h.own k).2 (.inr (.inr (.inl e)))⟩
     ·exact ⟨Nat.lt_of_lt_of_le (hl3 k e).1 hs,(h.own k).2 (.inr (.inr (.inr e)))⟩
   ·refine ⟨_,_,_,⟨sp.rq.blk,?_,?_,?_⟩,λ k hk=>⟨sp.rq.lt k hk,sp.nw k hk⟩⟩
    ·simpa [Nd.keys,Nd.drop,List.map_drop] using zbu.of_own sp.rq.ks
    ·simpa [Nd.vals,Nd.drop,List.map_drop] using zbu.of_own sp.rq.vs
    ·exact zbu.of_own sp.rq.is
 | inner l =>
   refine (ziE q (l.map Prod.fst) (l.map Prod.snd) vk vv vi w h.parts (by simp) hd.key (Nat.le_of_lt hd.few) (λ i a b c=>(hcut i a b c).2) hd.pos).mono ?_
   rintro e w' ⟨q1,rfl,i,g,cap,g2,cap2,b1,b2,b3,c0,c1,c2,c3,rfl,rfl,sp⟩
   refine ⟨q1,rfl,i,(hcut i (Nat.le_of_lt c1) c2 λ _=>c3).1,?_,?_,sp.up.mono λ k _ e=>(h.own k).2 (.inl e)⟩
   ·have hl1:∀ k,(Value.slice (some (⟨g,0,none⟩:Addr)) (l.map Prod.fst).length cap).ownBlock=some k->k<w.heap.size/\¬k=q:=λ k hk=>⟨(h.ks.lt k hk).2,λ e=>h.pk (by rw [<-e];exact hk)⟩
    have hl2:∀ k,vv.ownBlock=some k->k<w.heap.size/\¬k=q:=λ k hk=>⟨(h.vs.lt k hk).2,λ e=>h.pv (by rw [<-e];exact hk)⟩
    have hl3:∀ k,(Value.slice (some (⟨g2,0,none⟩:Addr)) (l.map Prod.fst).length cap2).ownBlock=some k->k<w.heap.size/\¬k=q:=λ k hk=>⟨(h.is.lt k hk).2,λ e=>h.pi (by rw [<-e];exact hk)⟩
    have r1:=((zbu.of_own h.ks).kept λ k hk=>sp.up.block k (hl1 k hk).1 (hl1 k hk).2).take (i:=i) (by simp [Nd.keys]) c1
    have r2:=(zbu.of_own h.vs).kept λ k hk=>sp.up.block k (hl2 k hk).1 (hl2 k hk).2
    have r3:=((zbu.of_own h.is).kept λ k hk=>sp.up.block k (hl3 k hk).1 (hl3 k hk).2).take (i:=i) (by simp [Nd.kids]) c1
    refine ⟨_,_,_,⟨sp.bp,?_,?_,?_⟩,λ k hk=>?_⟩
    ·simpa [Nd.keys,Nd.take,List.map_take] using r1
    ·exact r2
    ·simpa [Nd.kids,Nd.take,List.map_take] using r3
    ·have hs:=sp.up.size
     rcases hk with e|e|e|e
     ·exact ⟨by rw [e];exact zab sp.bp,(h.own k).2 (.inl e)⟩
     ·exact ⟨Nat.lt_of_lt_of_le (hl1 k e).1 hs,(h.own k).2 (.inr (.inl e))⟩
     ·exact ⟨Nat.lt_of_lt_of_le (hl2 k e).1 hs,(h.own k).2 (.inr (.inr (.inl e)))⟩
     ·exact ⟨Nat.lt_of_lt_of_le (hl3 k e).1 hs,(h.own k).2 (.inr (.inr (.inr e)))⟩
   ·refine ⟨_,_,_,⟨sp.rq.blk,?_,?_,?_⟩,λ k hk=>⟨sp.rq.lt k hk,sp.nw k hk⟩⟩
    ·simpa [Nd.keys,Nd.drop,List.map_drop] using zbu.of_own sp.rq.ks
    ·exact zbu.of_own sp.rq.vs
    ·have:=zbu.of_own sp.rq.is
     simp only [Nd.kids,Nd.drop,List.map_drop] at this ⊢
     exact this
theorem ziF {w:World} {F:Nat->Prop} {q:Nat} {A B:List (ByteArray × ByteArray)} {key v:ByteArray} (h:zc8 w F q (.leaf (A++(key,v)::B))) (val:ByteArray) :
 ∃ g cap,w.cell? ⟨q,2,none⟩=some (.slice (some ⟨g,0,none⟩) (A.length+1+B.length) cap)/\w.cell? ⟨g,A.length,none⟩=some (.string v)/\w.frozen? ⟨g,A.length,none⟩=false/\zo5 w (w.setCell ⟨g,A.length,none⟩ (.string val)) F q (.leaf (A++(key,val)::B)):=by
 obtain ⟨vk,vv,vi,h⟩:=h
 have hl:(Nd.leaf (A++(key,v)::B)).vals.length=A.length+1+B.length:=by simp [Nd.vals];omega
 have hr:=h.vs
 rw [hl] at hr
 rcases hr.2 with ⟨rfl,h0⟩|⟨g,cap,cur,rfl,-⟩
 ·omega
 have hgF:F g:=(h.own g).2 (.inr (.inr (.inl rfl)))
 have hgp:g≠q:=λ e=>h.pv (by rw [<-e];rfl)
 obtain ⟨s1,s2⟩:=World.ownsRow.stored hr A.length (.string val)
 have e1:((Nd.leaf (A++(key,v)::B)).vals.map Value.string).set A.length (.string val)=(Nd.leaf (A++(key,val)::B)).vals.map Value.string:=by simp [Nd.vals]
 rw [e1] at s1
 refine ⟨g,cap,zaa h.blk rfl,?_,hr.frozenAt _,F,⟨_,_,_,⟨?_,?_,?_,?_,h.pk,h.pv,h.pi,h.kv,h.ki,h.vi',h.own⟩⟩,λ k hk=>.inl hk,(Upd.refl _ _).setCell (p:=⟨g,A.length,none⟩) (.inl hgF) _⟩
 ·rw [hr.cellAt A.length (by omega)];simp [Nd.vals]
 ·exact (zae _ (λ e=>hgp e.symm)).trans h.blk
 ·have:=zce h.ks A.length (.string val) (p:=g) (λ e=>h.kv g e rfl)
  simpa [Nd.keys,Nd.len] using this
 ·have e2:(Nd.leaf (A++(key,val)::B)).vals.length=A.length+1+B.length:=by simp [Nd.vals];omega
  rw [e2];exact s1
 ·exact zce h.is A.length (.string val) (p:=g) (λ e=>h.vi' g rfl e)
section
variable {w0 W:World} {G0 G:Nat->Prop} {tb rb place n m:Nat} {S:RS} {q:Nat} {d:Nd}
theorem zbH (hN:Nod w0 W G q d) (hd:d.Ok):Calls Tryz.prog 178 #[.pointer (some ⟨q,0,none⟩)] W λ e w'=>e=.returned (.int .i64 (d.size:Nat))/\w'=W:=by
 obtain ⟨vk,vv,vi,a⟩:=hN.rd.view
 exact zpT q d vk vv vi W a hd
theorem zaA (hB:zak w0 W G0 G tb rb place n m S) (p:Nat) (hN:RdN w0 W G q d) (hd:d.Ok) (hs:d.size<=512) (hu:S.used p=true) (hm:m<=3999000) :
 Calls Tryz.prog 176 #[.pointer (some ⟨tb,0,none⟩),.int .i64 (p:Int),.pointer (some ⟨q,0,none⟩)] W λ e w'=>e=.returned (.tuple #[])/\Hid (∃ G',zak w0 w' G0 G' tb rb place n (m+1) (wrS S p d)/\zdb G G' W w'):=by
 obtain ⟨F,a,b⟩:=hN
 refine (zlS G F tb rb place n m S p q d W hB.room hB.blk hB.gt (by omega) hd hs a hu).mono ?_
 rintro e w' ⟨rfl,hg⟩
 exact ⟨rfl,hB.step hg⟩
theorem zb7 (hB:zak w0 W G0 G tb rb place n m S) (hN:Nod w0 W G q d) (hd:d.Ok) (h1:512<d.size) (h2:d.size<=666) :
 Calls Tryz.prog 179 #[.pointer (some ⟨q,0,none⟩)] W λ e w'=>∃ q1,e=.returned (.pointer (some ⟨q1,0,none⟩))/\Hid (∃ i,zhA d i/\zak w0 w' G0 G tb rb place n m S/\RdN w0 w' G q (d.take i)/\RdN w0 w' G q1 (d.drop i)):=by
 obtain ⟨F,a,b⟩:=hN
 refine (znS F q d W a hd h1 h2).mono ?_
 rintro e w' ⟨q1,rfl,i,c,x,y,z⟩
 refine ⟨q1,rfl,i,c,hB.node z b,⟨F,x,b⟩,⟨_,y,λ k hk=>⟨Nat.le_trans hB.up.size hk,λ e=>?_⟩⟩⟩
 have:=hB.room.lt k e;omega
theorem zbr (hB:zak w0 W G0 G tb rb place n m S) (hN:RdN w0 W G q d) (hd:d.Ok) (hs:d.size<=512) (hm:m<=3999000) (hf:∃ r,r<zaf n/\S.used r=false) :
 Calls Tryz.prog 127 #[.pointer (some ⟨tb,0,none⟩),.pointer (some ⟨q,0,none⟩)] W λ e w'=>∃ r:Nat,e=.returned (.int .i64 r)/\Hid (r<zaf n/\S.used r=false/\∃ G',zak w0 w' G0 G' tb rb place n (m+3) (wrS (zaT S r) r d)/\zdb G G' W w'):=by
 obtain ⟨F,a,b⟩:=hN
 refine (zpR G F tb rb place n m S q d W hB.room hB.blk hB.gt (by omega) hd hs a (λ k hk=>(b k hk).2) hf).mono ?_
 rintro e w' ⟨r,rfl,x,y,hg⟩
 exact ⟨r,rfl,x,y,hB.step hg⟩
end
theorem RdN.key0 {w0 W:World} {G:Nat->Prop} {q:Nat} {d:Nd} (h:RdN w0 W G q d) (hp:0<d.len) :
 ∃ g off nn cap,0<nn/\W.cell? ⟨q,1,none⟩=some (.slice (some ⟨g,off,none⟩) nn cap)/\W.cell? ⟨g,off,none⟩=some (.string (d.keys.getD 0 ByteArray.empty))/\q<W.heap.size/\g<W.heap.size/\¬G q/\¬G g:=by
 obtain ⟨F,⟨vk,vv,vi,a,b⟩,c⟩:=h
 obtain ⟨g,off,cap,rfl,hcap,hc⟩:=a.ks.lit (by simpa [Nd.len] using hp)
 have h0:=zeH hc 0 hp
 refine ⟨g,off,_,cap,by simpa [Nd.len] using hp,zaa a.blk rfl,h0,zab a.blk,World.block_lt_of_cell? W _ h0,(c q (b q (.inl rfl)).2).2,(c g (b g (.inr (.inl rfl))).2).2⟩
def zbz (w w':World) (G:Nat->Prop) (rb n m:Nat) (S:RS) (h p:Nat) (t:PT h) (key val k:ByteArray) (q:Nat) (more:Bool):Prop :=
 ∃ S',zb1 w w' G rb n m S'/\if more then ∃ t1 t2,zjA S S' h p t key val k q t1 t2 else k=ByteArray.empty/\q=0/\∃ t',zgf S S' h p t key val t'
theorem zak.more {w0 W:World} {G0 G:Nat->Prop} {tb rb place n m m':Nat} {S:RS} (h:zak w0 W G0 G tb rb place n m S) (hm:m<=m'):zak w0 W G0 G tb rb place n m' S:=⟨h.room.more hm,h.up,h.sub,h.blk,h.gt,h.tl⟩
theorem zar (w:World) (q:Nat):Below w.heap.size w (w.drewN q):=Below.drewN (zBr _ _) q
theorem znT (G:Nat->Prop) (tb rb place n m:Nat) (S:RS) (p:Nat) (t:PT 0) (key val:ByteArray) (deep:Nat) (w:World) (h:RmS w G rb n m S) (ht:TB w tb rb place) (hg:¬G tb) (hT:Tr S 0 p t) (hks:key.size<=96) (hvs:val.size<=56) (hdp:deep<=20) (hsp:zaR S n 1) (hm:m<=3998000) :
 Calls Tryz.prog 128 #[.pointer (some ⟨tb,0,none⟩),.int .i64 (p:Int),.string key,.string val,.int .i64 (deep:Int)] w λ e w'=>∃ (k:ByteArray) (q:Nat) (more:Bool),e=.returned (.tuple #[.string k,.int .i64 (q:Int),.bool more])/\Hid (zbz w w' G rb n (m+4) S 0 p t key val k q more):=by
 have RD:=Hd (zek G tb rb place n m S p (nd 0 t) w h ht (by omega) hT.ok hT.fit hT.on.top.1 hT.on.top.2)
 have B0:=Hd (zak.start h ht hg)
 have HM1:Hid (m<=3999000):=Hd (by omega)
 have HM3:Hid (m+1<=3999000):=Hd (by omega)
 have HM2:Hid (m+1<=m+4):=Hd (by omega)
 have HM4:Hid (m+1+3<=m+4):=Hd (by omega)
 have HSP:Hid (zaR S n (0+1)):=Hd hsp
 have HG:=Hd h.lt
 have hd1:¬(20:Int)<(deep:Int):=by omega
 have HT:=Hd hT
 obtain ⟨A,B,rfl,hA,hB,hor⟩:=zcP t key hT.wf.srt
 have hlen:(Nd.leaf (A++B)).len<=1000000:=Nat.le_of_lt (Nat.lt_trans hT.ok.few (by decide))
 have HL:=Hd hlen
 have HPOS:=Hd hT.pos
 have HA:=Hd hA
 have HB:=Hd hB
 have HKS:=Hd hks
 have HVS:=Hd hvs
 have HN4:Hid ((A++B).length<=90000):=Hd (by have:=hT.ok.few;rw [zaP] at this;exact Nat.le_of_lt (Nat.lt_trans this (by decide)))
 clear h ht hg hT hsp hm hlen hA hB hks hvs hdp
 rcases hor with ⟨v,B',rfl,hB'⟩|hB'
 ·have OV:=Hd (zgJ.leaf (val:=val) HT.out (.inr ⟨v,rfl⟩) HA.out hB' HKS.out HVS.out)
  clear hB'
  go_enter Tryz.func128,Tryz.ntmps128
  go_wp2_with fail
  refine RD.out.mono ?_
  rintro e w1 ⟨q,rfl,HQ⟩
  obtain ⟨F,x1,x2,x3⟩:=HQ.out
  have N1:=Hd (Nod.start (w0:=w) (G:=G) x1 x2 HG.out)
  have B1:=Hd (B0.out.below x3)
  obtain ⟨vk,vv,vi,hv1⟩:=N1.out.rd.view
  have c0:w1.cell? ⟨q,0,none⟩=some (.bool true):=zaa hv1.blk rfl
  have FD:=Hd (zdh true q (.leaf (A++(key,v)::B')) vk vv vi (A.map Prod.fst) (key::B'.map Prod.fst) key w1 hv1 (by simp [Nd.keys]) HPOS.out HL.out (λ a ha=>by obtain ⟨e,he,rfl⟩:=List.mem_map.1 ha;exact HA.out e he) (λ b hb=>by
   rcases List.mem_cons.1 hb with rfl|hb
   ·exact zal _
   ·obtain ⟨e,he,rfl⟩:=List.mem_map.1 hb;exact HB.out e (by simp [he])) ⟨λ _=>⟨_,rfl⟩,λ _=>rfl⟩)
  rw [zLm] at FD
  clear x1 x2 x3 HQ hv1 RD B0
  go_wp2_with fail
  refine FD.out.mono ?_
  rintro e w2 ⟨rfl,qn,rfl⟩
  have N2:=N1.out.below (zar w1 qn)
  have B2:=B1.out.below (zar w1 qn)
  generalize w1.drewN qn=w2 at *
  obtain ⟨F2,y1,y2⟩:=N2
  obtain ⟨g2,cap2,s1,s2,s3,s4⟩:=ziF y1 val
  have NT:Hid (Nod w (w2.setCell ⟨g2,A.length,none⟩ (.string val)) G q (nd 0 (A++(key,val)::B'))):=Hd (Nod.go y2 s4 B2.room.lt B2.up.size)
  have BT:=Hd (B2.node (by obtain ⟨F',a,b,c⟩:=s4;exact c) y2)
  have hlt:(A.length:Int)<((A.length+1+B'.length:Nat):Int):=by omega
  clear y1 y2 s4 B2 N1 B1 FD c0
  go_wp2_with fail
  have TS:=Hd (zbH NT.out OV.out.ok)
  refine TS.out.mono ?_
  rintro e w4 ⟨rfl,rfl⟩
  clear TS
  by_cases hsz:(nd 0 (A++(key,val)::B')).size<=512
  ·have TW:=Hd (zaA BT.out p NT.out.rd OV.out.ok hsz OV.out.use HM1.out)
   have hI:(((nd 0 (A++(key,val)::B')).size:Nat):Int)<=512:=by omega
   have HSZ:=Hd hsz
   clear hsz
   go_wp2_with fail
   refine TW.out.mono ?_
   rintro e w5 ⟨rfl,HW⟩
   clear hI TW
   go_wp2_with fail
   go_ret3
   obtain ⟨G5,b5,-⟩:=HW.out
   exact ⟨ByteArray.empty,0,false,rfl,_,(b5.more HM2.out).go,rfl,rfl,_,OV.out.one HSZ.out⟩
  ·have TSp:=Hd (zb7 BT.out NT.out OV.out.ok (by omega) OV.out.siz)
   have hI:¬(((nd 0 (A++(key,val)::B')).size:Nat):Int)<=512:=by omega
   have HSZ:=Hd (show 512<(nd 0 (A++(key,val)::B')).size by omega)
   clear hsz
   go_wp2_with fail
   refine TSp.out.mono ?_
   rintro e w5 ⟨q1,rfl,HS⟩
   clear TSp hI NT BT
   obtain ⟨i,hc,b5,r1,r2⟩:=HS.out
   obtain ⟨z0,z1,z2,z3,z4⟩:=OV.out.cut HSZ.out hc
   obtain ⟨l1,l2⟩:=zcS (nd 0 (A++(key,val)::B')) i (Nat.le_of_lt z1)
   have ok1:((nd 0 (A++(key,val)::B')).take i).Ok:=by rw [<-zbE];exact ((OV.out.wf.cut i).1).ok (by rw [zbE,l1];exact z0) (by rw [zbE];omega)
   have ok2:((nd 0 (A++(key,val)::B')).drop i).Ok:=by rw [<-zby];exact ((OV.out.wf.cut i).2).ok (by rw [zby,l2];omega) (by rw [zby];omega)
   have TW:=Hd (zaA b5 p r1 ok1 z2 OV.out.use HM1.out)
   have R2:=Hd r2
   have OK2:=Hd ok2
   have HC:=Hd hc
   have HZ3:=Hd z3
   clear hc b5 r1 r2 z0 z1 z2 z3 z4 l1 l2 ok1 ok2 HS
   go_wp2_with fail
   refine TW.out.mono ?_
   rintro e w6 ⟨rfl,HW⟩
   clear TW
   obtain ⟨G6,b6,tn6⟩:=HW.out
   have r6:=R2.out.turn tn6
   obtain ⟨g,off,nn,cap,hnn,k1,k2,ql,gl,hgq,hgg⟩:=r6.key0 OK2.out.pos
   have FR:Hid (Calls Tryz.prog 127 #[.pointer (some ⟨tb,0,none⟩),.pointer (some ⟨q1,0,none⟩)] w6.drew λ e w'=>∃ r:Nat,e=.returned (.int .i64 (r:Int))/\(w'.cell? ⟨q1,1,none⟩=some (.slice (some ⟨g,off,none⟩) nn cap)/\w'.cell? ⟨g,off,none⟩=some (.string (((nd 0 (A++(key,val)::B')).drop i).keys.getD 0 ByteArray.empty)))/\Hid (zbz w w' G rb n (m+4) S (0) p (A++(key,v)::B') key val (((nd 0 (A++(key,val)::B')).drop i).keys.getD 0 ByteArray.empty) r true)):=Hd (by
    have hd:=(zBr w6.heap.size w6).drew
    refine (zbr (b6.below hd) (r6.below hd) OK2.out HZ3.out HM3.out HSP.out.free).mono ?_
    rintro e w' ⟨r,rfl,hr1,hr2,G7,b7,tn7⟩
    have hu:Upd G6 w6 w':=tn7.upd.drew_left
    refine ⟨r,rfl,⟨(zCb (hu.block q1 ql hgq)).trans k1,(zCb (hu.block g gl hgg)).trans k2⟩,⟨_,(b7.more HM4.out).go,?_⟩⟩
    have hrn:r<65536:=by have:=b7.room.bounds;unfold zaf at hr1;omega
    have T:=OV.out.two HSZ.out HC.out hr2 hrn
    rw [zbE,zby] at T
    rw [if_pos rfl]
    exact ⟨_,_,T⟩)
   have hnn':(0:Int)<(nn:Int):=by omega
   clear HW b6 tn6 r6 ql gl hgq hgg R2 HC HZ3
   generalize ((nd 0 (A++(key,val)::B')).drop i).keys.getD 0 ByteArray.empty=kk at *
   go_wp2_with fail
   go_region_held3 (λ w'=>w'.cell? ⟨q1,1,none⟩=some (.slice (some ⟨g,off,none⟩) nn cap)/\w'.cell? ⟨g,off,none⟩=some (.string kk)) (go_keep) ((go_at_call 127;refine Calls.at_args FR.out (by with_reducible rfl) ?_;rintro e w7 ⟨r,rfl,hk,HF⟩))
   all_goals go_wp2_with fail
   all_goals go_ret3
   all_goals exact ⟨kk,r,true,rfl,HF⟩
 ·have OV:=Hd (zgJ.leaf (val:=val) HT.out (.inl rfl) HA.out hB' HKS.out HVS.out)
  have HB2:=Hd hB'
  clear hB'
  go_enter Tryz.func128,Tryz.ntmps128
  go_wp2_with fail
  refine RD.out.mono ?_
  rintro e w1 ⟨q,rfl,HQ⟩
  obtain ⟨F,x1,x2,x3⟩:=HQ.out
  have N1:=Hd (Nod.start (w0:=w) (G:=G) x1 x2 HG.out)
  have B1:=Hd (B0.out.below x3)
  obtain ⟨vk,vv,vi,hv1⟩:=N1.out.rd.view
  have c0:w1.cell? ⟨q,0,none⟩=some (.bool true):=zaa hv1.blk rfl
  have FD:=Hd (zdh false q (.leaf (A++B)) vk vv vi (A.map Prod.fst) (B.map Prod.fst) key w1 hv1 (by simp [Nd.keys]) HPOS.out HL.out (λ a ha=>by obtain ⟨e,he,rfl⟩:=List.mem_map.1 ha;exact HA.out e he) (λ b hb=>by obtain ⟨e,he,rfl⟩:=List.mem_map.1 hb;exact HB.out e he) ⟨(λ e=>by cases e),(λ ⟨B',e⟩=>by
   have hm:key∈B.map Prod.fst:=by rw [e];simp
   obtain ⟨e',he,he2⟩:=List.mem_map.1 hm
   have:=HB2.out e' he
   rw [he2,zal] at this;cases this)⟩)
  rw [zLm] at FD
  clear x1 x2 x3 HQ hv1 RD B0
  go_wp2_with fail
  refine FD.out.mono ?_
  rintro e w2 ⟨rfl,qn,rfl⟩
  have N2:=N1.out.below (zar w1 qn)
  have B2:=B1.out.below (zar w1 qn)
  generalize w1.drewN qn=w2 at *
  obtain ⟨F2,y1,y2⟩:=N2
  have IN:=Hd (zfE F2 q A B key val 0 w2 y1 HN4.out)
  have Y2:=Hd y2
  have B2':=Hd B2
  clear y1 y2 B2 N1 B1 FD c0
  go_wp2_with fail
  refine IN.out.mono ?_
  rintro e w3 ⟨rfl,HI⟩
  have NT:Hid (Nod w w3 G q (nd 0 (A++(key,val)::B))):=Hd (Nod.go Y2.out HI.out B2'.out.room.lt B2'.out.up.size)
  have BT:=Hd (B2'.out.node (by obtain ⟨F',a,b,c⟩:=HI.out;exact c) Y2.out)
  clear IN Y2 B2' HI
  go_wp2_with fail
  have TS:=Hd (zbH NT.out OV.out.ok)
  refine TS.out.mono ?_
  rintro e w4 ⟨rfl,rfl⟩
  clear TS
  by_cases hsz:(nd 0 (A++(key,val)::B)).size<=512
  ·have TW:=Hd (zaA BT.out p NT.out.rd OV.out.ok hsz OV.out.use HM1.out)
   have hI:(((nd 0 (A++(key,val)::B)).size:Nat):Int)<=512:=by omega
   have HSZ:=Hd hsz
   clear hsz
   go_wp2_with fail
   refine TW.out.mono ?_
   rintro e w5 ⟨rfl,HW⟩
   clear hI TW
   go_wp2_with fail
   go_ret3
   obtain ⟨G5,b5,-⟩:=HW.out
   exact ⟨ByteArray.empty,0,false,rfl,_,(b5.more HM2.out).go,rfl,rfl,_,OV.out.one HSZ.out⟩
  ·have TSp:=Hd (zb7 BT.out NT.out OV.out.ok (by omega) OV.out.siz)
   have hI:¬(((nd 0 (A++(key,val)::B)).size:Nat):Int)<=512:=by omega
   have HSZ:=Hd (show 512<(nd 0 (A++(key,val)::B)).size by omega)
   clear hsz
   go_wp2_with fail
   refine TSp.out.mono ?_
   rintro e w5 ⟨q1,rfl,HS⟩
   clear TSp hI NT BT
   obtain ⟨i,hc,b5,r1,r2⟩:=HS.out
   obtain ⟨z0,z1,z2,z3,z4⟩:=OV.out.cut HSZ.out hc
   obtain ⟨l1,l2⟩:=zcS (nd 0 (A++(key,val)::B)) i (Nat.le_of_lt z1)
   have ok1:((nd 0 (A++(key,val)::B)).take i).Ok:=by rw [<-zbE];exact ((OV.out.wf.cut i).1).ok (by rw [zbE,l1];exact z0) (by rw [zbE];omega)
   have ok2:((nd 0 (A++(key,val)::B)).drop i).Ok:=by rw [<-zby];exact ((OV.out.wf.cut i).2).ok (by rw [zby,l2];omega) (by rw [zby];omega)
   have TW:=Hd (zaA b5 p r1 ok1 z2 OV.out.use HM1.out)
   have R2:=Hd r2
   have OK2:=Hd ok2
   have HC:=Hd hc
   have HZ3:=Hd z3
   clear hc b5 r1 r2 z0 z1 z2 z3 z4 l1 l2 ok1 ok2 HS
   go_wp2_with fail
   refine TW.out.mono ?_
   rintro e w6 ⟨rfl,HW⟩
   clear TW
   obtain ⟨G6,b6,tn6⟩:=HW.out
   have r6:=R2.out.turn tn6
   obtain ⟨g,off,nn,cap,hnn,k1,k2,ql,gl,hgq,hgg⟩:=r6.key0 OK2.out.pos
   have FR:Hid (Calls Tryz.prog 127 #[.pointer (some ⟨tb,0,none⟩),.pointer (some ⟨q1,0,none⟩)] w6.drew λ e w'=>∃ r:Nat,e=.returned (.int .i64 (r:Int))/\(w'.cell? ⟨q1,1,none⟩=some (.slice (some ⟨g,off,none⟩) nn cap)/\w'.cell? ⟨g,off,none⟩=some (.string (((nd 0 (A++(key,val)::B)).drop i).keys.getD 0 ByteArray.empty)))/\Hid (zbz w w' G rb n (m+4) S (0) p (A++B) key val (((nd 0 (A++(key,val)::B)).drop i).keys.getD 0 ByteArray.empty) r true)):=Hd (by
    have hd:=(zBr w6.heap.size w6).drew
    refine (zbr (b6.below hd) (r6.below hd) OK2.out HZ3.out HM3.out HSP.out.free).mono ?_
    rintro e w' ⟨r,rfl,hr1,hr2,G7,b7,tn7⟩
    have hu:Upd G6 w6 w':=tn7.upd.drew_left
    refine ⟨r,rfl,⟨(zCb (hu.block q1 ql hgq)).trans k1,(zCb (hu.block g gl hgg)).trans k2⟩,⟨_,(b7.more HM4.out).go,?_⟩⟩
    have hrn:r<65536:=by have:=b7.room.bounds;unfold zaf at hr1;omega
    have T:=OV.out.two HSZ.out HC.out hr2 hrn
    rw [zbE,zby] at T
    rw [if_pos rfl]
    exact ⟨_,_,T⟩)
   have hnn':(0:Int)<(nn:Int):=by omega
   clear HW b6 tn6 r6 ql gl hgq hgg R2 HC HZ3
   generalize ((nd 0 (A++(key,val)::B)).drop i).keys.getD 0 ByteArray.empty=kk at *
   go_wp2_with fail
   go_region_held3 (λ w'=>w'.cell? ⟨q1,1,none⟩=some (.slice (some ⟨g,off,none⟩) nn cap)/\w'.cell? ⟨g,off,none⟩=some (.string kk)) (go_keep) ((go_at_call 127;refine Calls.at_args FR.out (by with_reducible rfl) ?_;rintro e w7 ⟨r,rfl,hk,HF⟩))
   all_goals go_wp2_with fail
   all_goals go_ret3
   all_goals exact ⟨kk,r,true,rfl,HF⟩
theorem zeN {w0 W:World} {G:Nat->Prop} {q:Nat} {l1 l2:List (ByteArray × Nat)} {x:ByteArray × Nat} (h:RdN w0 W G q (.inner (l1++x::l2))) :
 ∃ g off cap,W.cell? ⟨q,3,none⟩=some (.slice (some ⟨g,off,none⟩) (l1.length+1+l2.length) cap)/\W.cell? ⟨g,off+l1.length,none⟩=some (.int .i64 (x.2:Int)):=by
 obtain ⟨vk,vv,vi,a⟩:=h.view
 have hl:((Nd.inner (l1++x::l2)).kids.map zge).length=l1.length+1+l2.length:=by simp [Nd.kids];omega
 obtain ⟨g,off,cap,rfl,hcap,hc⟩:=a.is.lit (by simp [Nd.kids];omega)
 refine ⟨g,off,cap,?_,?_⟩
 ·have:=zaa (i:=3) a.blk rfl
  rw [<-hl];exact this
 ·have:=hc l1.length (by simp [Nd.kids])
  rw [this];simp [Nd.kids]
theorem zgg {w0 W:World} {G:Nat->Prop} {h q:Nat} {A B:List (Kid h)} {x:Kid h} {key:ByteArray} (hN:RdN w0 W G q (nd (h+1) (A++x::B:List (Kid h)))) (hl:(nd (h+1) (A++x::B:List (Kid h))).len<=1000000) (hW:Way key A x B) (hA:∀ y∈A.tail,zah key y.1=false) :
 Calls Tryz.prog 166 #[.pointer (some ⟨q,0,none⟩),.string key] W λ e w'=>e=.returned (.int .i64 (A.length:Nat))/\Hid (Below W.heap.size W w'):=by
 obtain ⟨vk,vv,vi,a⟩:=hN.view
 have:=zsC q _ vk vv vi (A.map Prod.fst) (B.map Prod.fst) x.1 key W a (by simp [nd,Nd.keys,Function.comp_def]) hl (λ y hy=>?_) (λ b hb=>by obtain ⟨e,he,rfl⟩:=List.mem_map.1 hb;exact hW.2 e he)
 ·rw [zLm] at this;exact this
 ·cases A with
  | nil=>simp at hy
  | cons a A =>
    simp only [List.map_cons,List.cons_append,List.tail_cons,List.mem_append,List.mem_map,List.mem_singleton] at hy
    rcases hy with ⟨e,he,rfl⟩|rfl
    ·exact hA e he
    ·exact hW.1 (by simp)
theorem zrz:∀ (h:Nat) (G:Nat->Prop) (tb rb place n m:Nat) (S:RS) (p:Nat) (t:PT h) (key val:ByteArray) (deep:Nat) (w:World) (_:RmS w G rb n m S) (_:TB w tb rb place) (_:¬G tb) (_:Tr S h p t) (_:key.size<=96) (_:val.size<=56) (_:deep+h<=20) (_:zaR S n (h+1)) (_:m+4*(h+1)<=3998000),
 Calls Tryz.prog 128 #[.pointer (some ⟨tb,0,none⟩),.int .i64 (p:Int),.string key,.string val,.int .i64 (deep:Int)] w λ e w'=>∃ (k:ByteArray) (q:Nat) (more:Bool),e=.returned (.tuple #[.string k,.int .i64 (q:Int),.bool more])/\Hid (zbz w w' G rb n (m+4*(h+1)) S h p t key val k q more)
 | 0,G,tb,rb,place,n,m,S,p,t,key,val,deep,w,h,ht,hg,hT,hks,hvs,hdp,hsp,hm=>znT G tb rb place n m S p t key val deep w h ht hg hT hks hvs (by omega) hsp (by omega)
 | hh+1,G,tb,rb,place,n,m,S,p,t,key,val,deep,w,h,ht,hg,hT,hks,hvs,hdp,hsp,hm=>by
   have RD:=Hd (zek G tb rb place n m S p (nd (hh+1) t) w h ht (by omega) hT.ok hT.fit hT.on.top.1 hT.on.top.2)
   have B0:=Hd (zak.start h ht hg)
   have HM1:Hid (m+4*(hh+1)<=3999000):=Hd (by omega)
   have HM3:Hid (m+4*(hh+1)+1<=3999000):=Hd (by omega)
   have HM2:Hid (m+4*(hh+1)+1<=m+4*(hh+1+1)):=Hd (by omega)
   have HM4:Hid (m+4*(hh+1)+1+3<=m+4*(hh+1+1)):=Hd (by omega)
   have HM5:Hid (m+4*(hh+1)<=m+4*(hh+1+1)):=Hd (by omega)
   have HG:=Hd h.lt
   have hd1:¬(20:Int)<(deep:Int):=by omega
   have hd2:deep<=20:=by omega
   have hlenO:=hT.ok.few
   have hpos:=hT.pos
   rw [zaq] at hpos
   obtain ⟨A,x,B,rfl,hW,hA⟩:=zcA t key (hT.wf.2.keys λ x hx=>zbG (hT.wf.1 x hx).2.2.2.2 (hT.wf.1 x hx).2.2.1) hpos
   have hk:=hT.kid (x:=x) (by simp)
   have IH:Hid (∀ W G2,zak w W G G2 tb rb place n m S->Calls Tryz.prog 128 #[.pointer (some ⟨tb,0,none⟩),.int .i64 (x.2.1:Int),.string key,.string val,.int .i64 ((deep:Int)+1)] W λ e w'=>∃ (k:ByteArray) (q:Nat) (more:Bool),e=.returned (.tuple #[.string k,.int .i64 (q:Int),.bool more])/\Hid (zbz W w' G2 rb n (m+4*(hh+1)) S hh x.2.1 x.2.2 key val k q more)):=Hd λ W G2 hB=>by
    have:=zrz hh G2 tb rb place n m S x.2.1 x.2.2 key val (deep+1) W hB.room hB.blk hB.gt hk hks hvs (by omega) (hsp.less (by omega)) (by omega)
    rw [show ((deep+1:Nat):Int)=(deep:Int)+1 by omega] at this
    exact this
   have HT:=Hd hT
   have HW:=Hd hW
   have HA:=Hd hA
   have HSP0:=Hd hsp
   have HLEN:=Hd hlenO
   clear h ht hg hT hsp hm hW hA hks hvs hdp hk hpos hlenO
   go_enter Tryz.func128,Tryz.ntmps128
   go_wp2_with fail
   refine RD.out.mono ?_
   rintro e w1 ⟨q,rfl,HQ⟩
   obtain ⟨F,x1,x2,x3⟩:=HQ.out
   have N1:=Hd (Nod.start (w0:=w) (G:=G) x1 x2 HG.out)
   have B1:=Hd (B0.out.below x3)
   obtain ⟨vk,vv,vi,hv1⟩:=N1.out.rd.view
   have c0:w1.cell? ⟨q,0,none⟩=some (.bool false):=zaa hv1.blk rfl
   have WN:=Hd (zgg N1.out.rd (Nat.le_of_lt (Nat.lt_trans HLEN.out (by decide))) HW.out HA.out)
   clear x1 x2 x3 HQ hv1 RD B0
   go_wp2_with fail
   refine WN.out.mono ?_
   rintro e w2 ⟨rfl,hb⟩
   have N2:=Hd (N1.out.below hb.out)
   have B2:=Hd (B1.out.below hb.out)
   have hN2:=N2.out.rd
   rw [show nd (hh+1) (A++x::B:List (Kid hh))=.inner (A.map (λ x:Kid hh=>(x.1,x.2.1))++(x.1,x.2.1)::B.map (λ x:Kid hh=>(x.1,x.2.1))) by simp [nd]] at hN2
   obtain ⟨g3,off,cap3,k1,k2⟩:=zeN hN2
   rw [zLm,zLm] at k1
   rw [zLm] at k2
   have hlt:(A.length:Int)<((A.length+1+B.length:Nat):Int):=by omega
   have hlA:A.length<=65536:=by have:=HLEN.out;rw [zaq,zLa,zLc] at this;omega
   have IH2:=Hd (IH.out w2 G B2.out)
   clear hN2 IH N1 B1 WN c0 hb
   go_wp2_with fail
   refine IH2.out.mono ?_
   rintro e w3 ⟨k,q2,more,rfl,HP⟩
   clear IH2 k1 k2
   cases more with
   | false =>
     obtain ⟨S',hgo,hif⟩:=HP.out
     rw [if_neg (by simp)] at hif
     obtain ⟨rfl,rfl,t',K⟩:=hif
     have HK:=Hd K
     obtain ⟨G3,b3,-⟩:=B2.out.step hgo
     have HB3:=Hd (b3.more HM5.out)
     clear hgo K b3 HP
     go_wp2_with fail
     go_ret3
     exact ⟨ByteArray.empty,0,false,rfl,_,HB3.out.go,rfl,rfl,_,HK.out.inner HT.out HW.out⟩
   | true =>
     obtain ⟨S3,hgo,hif⟩:=HP.out
     rw [if_pos rfl] at hif
     obtain ⟨t1,t2,K⟩:=hif
     have OV:=Hd (zgJ.inner HT.out HW.out K)
     have HSP:Hid (zaR S3 n (0+1)):=Hd (K.spr n 1 (HSP0.out.less (by omega)))
     obtain ⟨G3,b3,tn3⟩:=B2.out.step hgo
     obtain ⟨F2,y1,y2⟩:=N2.out.turn tn3
     rw [zem] at y1
     have IN:=ze7 F2 q ((A++[x]).map (λ x:Kid hh=>(x.1,x.2.1))) (B.map (λ x:Kid hh=>(x.1,x.2.1))) k ⟨#[]⟩ q2 w3 y1 (by have:=HLEN.out;rw [zaq,zLa,zLc] at this;simp;omega)
     rw [show ((((A++[x]).map (λ x:Kid hh=>(x.1,x.2.1))).length:Nat):Int)=(A.length:Int)+1 by simp,<-zlW t1 t2 k q2] at IN
     have IN2:=Hd IN
     have Y2:=Hd y2
     have B3:=Hd b3
     clear y1 y2 b3 hgo K HP tn3 IN N2 B2
     go_wp2_with fail
     refine IN2.out.mono ?_
     rintro e w4' ⟨rfl,HI⟩
     have NT:Hid (Nod w w4' G3 q (nd (hh+1) (A++(x.1,x.2.1,t1)::(k,q2,t2)::B:List (Kid hh)))):=Hd (Nod.go Y2.out HI.out B3.out.room.lt B3.out.up.size)
     have BT:=Hd (B3.out.node (by obtain ⟨F',a,b,c⟩:=HI.out;exact c) Y2.out)
     clear IN2 Y2 B3 HI
     go_wp2_with fail
     have TS:=Hd (zbH NT.out OV.out.ok)
     refine TS.out.mono ?_
     rintro e w4 ⟨rfl,rfl⟩
     clear TS
     by_cases hsz:(nd (hh+1) (A++(x.1,x.2.1,t1)::(k,q2,t2)::B:List (Kid hh))).size<=512
     ·have TW:=Hd (zaA BT.out p NT.out.rd OV.out.ok hsz OV.out.use HM1.out)
      have hI:(((nd (hh+1) (A++(x.1,x.2.1,t1)::(k,q2,t2)::B:List (Kid hh))).size:Nat):Int)<=512:=by omega
      have HSZ:=Hd hsz
      clear hsz
      go_wp2_with fail
      refine TW.out.mono ?_
      rintro e w5 ⟨rfl,HW⟩
      clear hI TW
      go_wp2_with fail
      go_ret3
      obtain ⟨G5,b5,-⟩:=HW.out
      exact ⟨ByteArray.empty,0,false,rfl,_,(b5.more HM2.out).go,rfl,rfl,_,OV.out.one HSZ.out⟩
     ·have TSp:=Hd (zb7 BT.out NT.out OV.out.ok (by omega) OV.out.siz)
      have hI:¬(((nd (hh+1) (A++(x.1,x.2.1,t1)::(k,q2,t2)::B:List (Kid hh))).size:Nat):Int)<=512:=by omega
      have HSZ:=Hd (show 512<(nd (hh+1) (A++(x.1,x.2.1,t1)::(k,q2,t2)::B:List (Kid hh))).size by omega)
      clear hsz
      go_wp2_with fail
      refine TSp.out.mono ?_
      rintro e w5 ⟨q1,rfl,HS⟩
      clear TSp hI NT BT
      obtain ⟨i,hc,b5,r1,r2⟩:=HS.out
      obtain ⟨z0,z1,z2,z3,z4⟩:=OV.out.cut HSZ.out hc
      obtain ⟨l1,l2⟩:=zcS (nd (hh+1) (A++(x.1,x.2.1,t1)::(k,q2,t2)::B:List (Kid hh))) i (Nat.le_of_lt z1)
      have ok1:((nd (hh+1) (A++(x.1,x.2.1,t1)::(k,q2,t2)::B:List (Kid hh))).take i).Ok:=by rw [<-zbE];exact ((OV.out.wf.cut i).1).ok (by rw [zbE,l1];exact z0) (by rw [zbE];omega)
      have ok2:((nd (hh+1) (A++(x.1,x.2.1,t1)::(k,q2,t2)::B:List (Kid hh))).drop i).Ok:=by rw [<-zby];exact ((OV.out.wf.cut i).2).ok (by rw [zby,l2];omega) (by rw [zby];omega)
      have TW:=Hd (zaA b5 p r1 ok1 z2 OV.out.use HM1.out)
      have R2:=Hd r2
      have OK2:=Hd ok2
      have HC:=Hd hc
      have HZ3:=Hd z3
      clear hc b5 r1 r2 z0 z1 z2 z3 z4 l1 l2 ok1 ok2 HS
      go_wp2_with fail
      refine TW.out.mono ?_
      rintro e w6 ⟨rfl,HW⟩
      clear TW
      obtain ⟨G6,b6,tn6⟩:=HW.out
      have r6:=R2.out.turn tn6
      obtain ⟨g,off,nn,cap,hnn,k1,k2,ql,gl,hgq,hgg⟩:=r6.key0 OK2.out.pos
      have FR:Hid (Calls Tryz.prog 127 #[.pointer (some ⟨tb,0,none⟩),.pointer (some ⟨q1,0,none⟩)] w6.drew λ e w'=>∃ r:Nat,e=.returned (.int .i64 (r:Int))/\(w'.cell? ⟨q1,1,none⟩=some (.slice (some ⟨g,off,none⟩) nn cap)/\w'.cell? ⟨g,off,none⟩=some (.string (((nd (hh+1) (A++(x.1,x.2.1,t1)::(k,q2,t2)::B:List (Kid hh))).drop i).keys.getD 0 ByteArray.empty)))/\Hid (zbz w w' G rb n (m+4*(hh+1+1)) S ((hh+1)) p (A++x::B:List (Kid hh)) key val (((nd (hh+1) (A++(x.1,x.2.1,t1)::(k,q2,t2)::B:List (Kid hh))).drop i).keys.getD 0 ByteArray.empty) r true)):=Hd (by
       have hd:=(zBr w6.heap.size w6).drew
       refine (zbr (b6.below hd) (r6.below hd) OK2.out HZ3.out HM3.out HSP.out.free).mono ?_
       rintro e w' ⟨r,rfl,hr1,hr2,G7,b7,tn7⟩
       have hu:Upd G6 w6 w':=tn7.upd.drew_left
       refine ⟨r,rfl,⟨(zCb (hu.block q1 ql hgq)).trans k1,(zCb (hu.block g gl hgg)).trans k2⟩,⟨_,(b7.more HM4.out).go,?_⟩⟩
       have hrn:r<65536:=by have:=b7.room.bounds;unfold zaf at hr1;omega
       have T:=OV.out.two HSZ.out HC.out hr2 hrn
       rw [zbE,zby] at T
       rw [if_pos rfl]
       exact ⟨_,_,T⟩)
      have hnn':(0:Int)<(nn:Int):=by omega
      clear HW b6 tn6 r6 ql gl hgq hgg R2 HC HZ3
      generalize ((nd (hh+1) (A++(x.1,x.2.1,t1)::(k,q2,t2)::B:List (Kid hh))).drop i).keys.getD 0 ByteArray.empty=kk at *
      go_wp2_with fail
      go_region_held3 (λ w'=>w'.cell? ⟨q1,1,none⟩=some (.slice (some ⟨g,off,none⟩) nn cap)/\w'.cell? ⟨g,off,none⟩=some (.string kk)) (go_keep) ((go_at_call 127;refine Calls.at_args FR.out (by with_reducible rfl) ?_;rintro e w7 ⟨r,rfl,hk,HF⟩))
      all_goals go_wp2_with fail
      all_goals go_ret3
      all_goals exact ⟨kk,r,true,rfl,HF⟩
theorem zax (p:Addr) (w:World) :
 CallsD Tryz.prog 124 #[.pointer (some p)] .returning w λ e u' w'=>e=.returned (.tuple #[])/\u'=.returning/\w'=w:=by
 refine callsD_of_wpS Tryz.func124 rfl λ c₀ cs hu=>?_
 apply wpS_seq
 apply wpS_region
 simp [wpOpsS,go_sem,recoverD,hu,Tryz.ntmps124,Exit.thenS]
 apply wpS_seq
 apply wpS_region
 simp [wpOpsS,go_sem,Exit.thenS]
 refine wpS_cond (t:=false) (by simp [Act.eval,Array.replicate]) ?_
 simp only [Bool.false_eq_true,if_false]
 refine wpS_of_wp (wp_skip ?_)
 cases c₀
 simp_all [bodyPostS,results,Tryz.results124]
theorem zcC (p t m:Addr) (u:FrameMode) (w:World) (h:w.cell? p=some (.int .i64 0)) :
 CallsD Tryz.prog 123 #[.pointer (some p),.pointer (some t),.pointer (some m)] u w λ e u' w'=>u'=u/\(e=.returned (.tuple #[])/\w'=w):=by
 go_enter_d Tryz.func123,Tryz.ntmps123
 go_wp2
 go_end0
 exact ⟨rfl,rfl⟩
theorem zdi (p a b c:Addr) (u:FrameMode) (w:World) (h:w.cell? p=some (.int .i64 0)) :
 CallsD Tryz.prog 129 #[.pointer (some p),.pointer (some a),.pointer (some b),.pointer (some c)] u w λ e u' w'=>u'=u/\(e=.returned (.tuple #[])/\w'=w):=by
 go_enter_d Tryz.func129,Tryz.ntmps129
 go_wp2
 go_end0
 exact ⟨rfl,rfl⟩
theorem zeO (p a:Addr) (u:FrameMode) (w:World) (h:w.cell? p=some (.int .i64 0)) :
 CallsD Tryz.prog 141 #[.pointer (some p),.pointer (some a)] u w λ e u' w'=>u'=u/\(e=.returned (.tuple #[])/\w'=w):=by
 go_enter_d Tryz.func141,Tryz.ntmps141
 go_wp2
 go_end0
 exact ⟨rfl,rfl⟩
structure TT where
 h:Nat
 p:Nat
 t:PT h
def zaY (S:RS) (place:Nat):Option TT->Prop
 | none=>S.root place=0
 | some T=>S.root place=T.p+1/\Tr S T.h T.p T.t
def zbh:Option TT->List (ByteArray × ByteArray)
 | none=>[]
 | some T=>ents T.h T.t
def zd4:Option TT->List Nat
 | none=>[]
 | some T=>pgs T.h T.p T.t
def zrA:Option TT->Nat
 | none=>0
 | some T=>zdO T.h T.t
def zeP:Option TT->Nat
 | none=>0
 | some T=>T.h
def wtO:Option TT->Nat
 | none=>0
 | some T=>wt T.h T.t
def crO:Option TT->Nat
 | none=>6
 | some T=>if T.h=0 then 6 else 4*T.h+min 6 (nd T.h T.t).len
structure zld (place:Nat) (P P':List Nat) (S S':RS):Prop where
 keep:∀ q,q ∉ P->S.used q=true->q ∉ P'/\S'.used q=true/\S'.cont q=S.cont q
 back:∀ q,S'.used q=true->q∈P'\/(S.used q=true/\q ∉ P)
 root:∀ k,k≠place->S'.root k=S.root k
 base:S'.base=S.base
theorem Frm.toT {P P':List Nat} {S S':RS} (place v:Nat) (h:Frm P P' S S'):zld place P P' S (zay S' place v) :=
 ⟨h.keep,h.back,λ k hk=>by show upd S'.root place v k=_;unfold upd;rw [if_neg hk,h.root],h.base⟩
theorem Frm.toT' {P P':List Nat} {S S':RS} (place:Nat) (h:Frm P P' S S'):zld place P P' S S':=⟨h.keep,h.back,λ k _=>by rw [h.root],h.base⟩
theorem Tr.root {S:RS} {h p:Nat} {t:PT h} (H:Tr S h p t) (place v:Nat):Tr (zay S place v) h p t:=H.frame λ q _=>⟨rfl,rfl⟩
theorem zdv (S:RS) (place v:Nat):(zay S place v).root place=v:=by show upd S.root place v place=v;unfold upd;rw [if_pos rfl]
theorem zhD (G:Nat->Prop) (rb n m:Nat) (S:RS) (w:World) (h:RmS w G rb n m S):Calls Tryz.prog 114 #[.pointer (some ⟨rb,0,none⟩)] w λ e w'=>∃ k:Nat,e=.returned (.int .i64 (k:Int))/\w'=w:=by
 obtain ⟨puts,h1,h2,h3⟩:=h
 refine (zdR G rb n puts w h2).mono ?_
 rintro e w' ⟨rfl,rfl⟩
 exact ⟨_,rfl,rfl⟩
theorem zam (w:World) (o:Obj) (k:Nat):(w.alloc o).heap[k]?=if k=w.heap.size then some o else w.heap[k]?:=by
 by_cases h:k=w.heap.size
 ·rw [if_pos h,h];exact heap_alloc_new w o
 ·rw [if_neg h];show (w.heap.push o)[k]?=_;rw [Array.getElem?_push,if_neg h]
theorem zen (w:World) (k:Nat):w.drew.heap[k]?=w.heap[k]?:=rfl
structure zc4 (W:World) (b tb:Nat):Prop where
 b0:W.heap[b]?=some (.cells #[.pointer (some ⟨tb,0,none⟩)] 103 (0,0))
 b1:W.heap[b+1]?=some (.cells #[.int .i64 0] 34 (0,0))
theorem zc4.upd {W W':World} {b tb:Nat} {G:Nat->Prop} (h:zc4 W b tb) (hu:Upd G W W') (h0:¬G b) (h1:¬G (b+1)):zc4 W' b tb :=
 ⟨hu.at h.b0 h0,hu.at h.b1 h1⟩
theorem zc4.below {W W':World} {b tb:Nat} (h:zc4 W b tb) (hb:Below W.heap.size W W'):zc4 W' b tb:=h.upd (hb.upd' (zNr _)) (λ e=>e) (λ e=>e)
theorem zc4.cells {W:World} {b tb:Nat} (h:zc4 W b tb):W.cell? ⟨b,0,none⟩=some (.pointer (some ⟨tb,0,none⟩))/\W.cell? ⟨b+1,0,none⟩=some (.int .i64 0)/\W.frozen? ⟨b+1,0,none⟩=false/\b<W.heap.size/\b+1<W.heap.size :=
 ⟨zaa h.b0 rfl,zaa h.b1 rfl,zad h.b1 0,zab h.b0,zab h.b1⟩
def zeB (w:World) (tb:Nat) (k:Int):World:=((w.alloc (.cells #[.pointer (some ⟨tb,0,none⟩)] 103)).alloc (.cells #[.int .i64 0] 34)).alloc (.cells #[.int .i64 k] 3)
theorem zbc (w:World) (tb:Nat) (k:Int):Below w.heap.size w (zeB w tb k):=(((zBr w.heap.size w).alloc (zNr _) _).alloc (by simp) _).alloc (by simp;omega) _
theorem zdj (w:World) (tb:Nat) (k:Int):(zeB w tb k).heap.size=w.heap.size+3:=by unfold zeB;simp
theorem zeo (w:World) (tb:Nat) (k:Int):zc4 (zeB w tb k) w.heap.size tb:=by
 refine ⟨?_,?_⟩
 ·unfold zeB;rw [zam,if_neg (by simp;omega),zam,if_neg (by simp),heap_alloc_new]
 ·unfold zeB;rw [zam,if_neg (by simp),zam,if_pos (by simp)]
theorem zak.fin {w W0 W:World} {G G':Nat->Prop} {tb rb place n m:Nat} {S:RS} (h:zak W0 W G G' tb rb place n m S) (hb:Below w.heap.size w W0) (hG:∀ k,G k->k<w.heap.size) {x:Nat} (hx:w.heap.size<=x) (hx2:x<W0.heap.size) (i:Nat) (v:Value) :
 zb1 w (W.setCell ⟨x,i,none⟩ v) G rb n m S:=by
 have hnx:¬G' x:=λ e=>by
  rcases h.sub x e with e|e
  ·have:=hG x e;omega
  ·omega
 have hu:Upd (λ k=>k=x) W (W.setCell ⟨x,i,none⟩ v):=Upd.setCell (S:=λ k=>k=x) (Upd.refl _ _) (p:=⟨x,i,none⟩) (.inl rfl) v
 refine ⟨G',h.room.frame hu λ k hk e=>hnx (e ▸ hk),?_,λ k hk=>?_⟩
 ·have u1:Upd G w W:=((hb.upd' (zNr _)).mono (S':=G) λ _ _ e=>False.elim e).trans h.up
  exact u1.trans' hu λ j hj e=>absurd e (by omega)
 ·rcases h.sub k hk with e|e
  ·exact .inl e
  ·have:=hb.size;exact .inr (by omega)
structure zkE (place n:Nat) (S S':RS) (o o':Option TT):Prop where
 st:zaY S' place o'
 frm:zld place (zd4 o) (zd4 o') S S'
def zhE (place n:Nat) (S S':RS) (o o':Option TT) (key val:ByteArray):Prop :=
 zkE place n S S' o o'/\Ins key val (zbh o) (zbh o')/\zrA o'<=zrA o/\zeP o'<=zeP o+1/\(∀ c,zaR S n (c+zeP o+2)->zaR S' n c)/\crO o'<=crO o+1/\(zeP o'<=zeP o\/6*zeP o+3<=(zd4 o').length)/\wtO o'<=wtO o+1
theorem zgK:∀ {h p:Nat} {t:PT h} (_:Wf h t),1+(nd h t).len*h<=(pgs h p t).length
 | 0,_,_,_=>by simp [pgs]
 | h+1,p,l,H=>by
   obtain ⟨l',hl⟩:∃ l':List (Kid h),l'=l:=⟨l,rfl⟩
   subst hl
   have hs:∀ (l:List (Kid h)) (_:∀ x∈l,0<(nd h x.2.2).len/\Wf h x.2.2),l.length*(h+1)<=(List.flatMap (λ x:Kid h=>pgs h x.2.1 x.2.2) l).length:=by
    intro l
    induction l with
    | nil=>intro _;simp
    | cons x l ih =>
      intro hx
      have h1:=zgK (p:=x.2.1) (hx x (by simp)).2
      have h2:=(hx x (by simp)).1
      have h3:=ih λ y hy=>hx y (by simp [hy])
      have h4:h<=(nd h x.2.2).len*h:=Nat.le_mul_of_pos_left h h2
      rw [List.flatMap_cons,zLa,zLc,Nat.add_mul]
      omega
   have:=hs l' λ x hx=>⟨(H.1 x hx).2.2.1,(H.1 x hx).2.2.2.2⟩
   rw [zaq,zaF,zLc,Nat.add_comm]
   exact Nat.succ_le_succ this
theorem znU {S:RS} {n place r:Nat} {key val:ByteArray} (hr:S.root place=0) (hks:key.size<=96) (hvs:val.size<=56) (hu:S.used r=false) :
 zhE place n S (zay (wrS (zaT S r) r (.leaf [(key,val)])) place (r+1)) none (some ⟨0,r,[(key,val)]⟩) key val:=by
 have hw:Wf 0 [(key,val)]:=⟨λ e he=>by simp at he;rw [he];exact ⟨hks,hvs⟩,List.pairwise_singleton _ _⟩
 have T:=Tr.fresh (S:=S) (h:=0) (p:=r) (t:=[(key,val)]) hw (by rw [zaP];exact Nat.zero_lt_one) (by rw [zeJ,zaE];simp [esL];omega) trivial (by simp [low]) hu
 have f:=(Frm.alloc [] S r hu).trans (Frm.write [r] _ r (nd 0 [(key,val)]) (by simp))
 refine ⟨⟨⟨zdv _ _ _,T.root place (r+1)⟩,f.toT place (r+1)⟩,⟨[],[],rfl,.inl rfl,by simp,by simp⟩,zNr _,by simp [zeP],λ c hc=>?_,by simp [crO],.inl (by simp [zeP]),by simp [wtO,wt]⟩
 exact ((hc.less (by omega):zaR S n (c+1)).alloc hu)
theorem zjB {S S1:RS} {n place r h p:Nat} {t:PT h} {key val k:ByteArray} {q:Nat} {t1 t2:PT h} (K:zjA S S1 h p t key val k q t1 t2) (hp:p<65536) (hu:S1.used r=false) :
 zhE place n S (zay (wrS (zaT S1 r) r (.inner [(ByteArray.empty,p),(k,q)])) place (r+1)) (some ⟨h,p,t⟩) (some ⟨h+1,r,[(ByteArray.empty,p,t1),(k,q,t2)]⟩) key val:=by
 have hw:Wf (h+1) [(ByteArray.empty,p,t1),(k,q,t2)]:=by
  refine ⟨λ x hx=>?_,?_,?_⟩
  ·simp at hx
   rcases hx with rfl|rfl
   ·exact ⟨(by show ByteArray.empty.size<=96;decide),hp,K.tr1.pos,K.tr1.fit,K.tr1.wf⟩
   ·exact ⟨K.ksz,K.qlt,K.tr2.pos,K.tr2.fit,K.tr2.wf⟩
  ·refine List.pairwise_cons.2 ⟨λ y hy=>?_,List.pairwise_singleton _ _⟩
   simp at hy;subst hy;exact K.lo
  ·intro y hy;simp at hy;subst hy;exact K.hi
 have hk:zdc S1 (h+1) [(ByteArray.empty,p,t1),(k,q,t2)]:=λ x hx=>by
  simp at hx
  rcases hx with rfl|rfl
  ·exact K.tr1.on
  ·exact K.tr2.on
 have hn:(low (h+1) [(ByteArray.empty,p,t1),(k,q,t2)]).Nodup:=by simpa [low] using K.nod
 have e:nd (h+1) [(ByteArray.empty,p,t1),(k,q,t2)]=.inner [(ByteArray.empty,p),(k,q)]:=rfl
 have T:=Tr.fresh (S:=S1) (p:=r) hw (by rw [zaq];exact Nat.zero_lt_succ _) (by rw [e,zaM];have:=K.ksz;simp [esI];omega) hk hn hu
 rw [e] at T
 have f:=(K.frm.trans (Frm.alloc _ S1 r hu)).trans (Frm.write _ _ r (.inner [(ByteArray.empty,p),(k,q)]) (by simp))
 have hpg:pgs (h+1) r [(ByteArray.empty,p,t1),(k,q,t2)]=r::(pgs h p t1++pgs h q t2):=by simp [pgs]
 refine ⟨⟨⟨zdv _ _ _,T.root place (r+1)⟩,?_⟩,?_,?_,zNr _,λ c hc=>?_,?_,.inr ?_,?_⟩
 ·show zld place (pgs h p t) (pgs (h+1) r _) S _
  rw [hpg];exact f.toT place (r+1)
 ·show Ins key val (ents h t) (ents (h+1) [(ByteArray.empty,p,t1),(k,q,t2)])
  have:ents (h+1) [(ByteArray.empty,p,t1),(k,q,t2)]=ents h t1++ents h t2:=by simp [ents]
  rw [this];exact K.ins
 ·have:=K.sng
  show zdO (h+1) [(ByteArray.empty,p,t1),(k,q,t2)]<=zdO h t
  simp [zdO];exact this
 ·exact ((K.spr n (c+1) (by have:zeP (some ⟨h,p,t⟩)=h:=rfl;rw [this] at hc;exact hc.less (by omega))).alloc hu)
 ·have e1:(nd (h+1) [(ByteArray.empty,p,t1),(k,q,t2)]).len=2:=by rw [zaq];rfl
  show (if h+1=0 then 6 else 4*(h+1)+min 6 (nd (h+1) [(ByteArray.empty,p,t1),(k,q,t2)]).len)<=(if h=0 then 6 else 4*h+min 6 (nd h t).len)+1
  rw [e1]
  by_cases h0:h=0
  ·subst h0;simp
  ·have:=K.five (by omega)
   rw [if_neg h0,if_neg (by omega)];omega
 ·have g1:=zgK (p:=p) K.tr1.wf
  have g2:=zgK (p:=q) K.tr2.wf
  show 6*h+3<=(pgs (h+1) r [(ByteArray.empty,p,t1),(k,q,t2)]).length
  rw [hpg,zLc,zLa]
  by_cases h0:h=0
  ·subst h0;omega
  ·have g3:=Nat.mul_le_mul_right h (K.six (by omega))
   rw [Nat.add_mul] at g3
   omega
 ·obtain ⟨u1,u2,u3⟩:=K.wtU
  show wt (h+1) ([(ByteArray.empty,p,t1),(k,q,t2)]:List (Kid h))<=wt h t+1
  rw [zdU,zdU]
  show max (2 ^ h) (wt h t1)+(max (2 ^ h) (wt h t2)+0)<=_
  rw [Nat.max_eq_right u2,Nat.max_eq_right u3];omega
theorem zgL {S S1:RS} {n place h p:Nat} {t t':PT h} {key val:ByteArray} (K:zgf S S1 h p t key val t') (hr:S.root place=p+1) :
 zhE place n S S1 (some ⟨h,p,t⟩) (some ⟨h,p,t'⟩) key val :=
 ⟨⟨⟨by rw [K.frm.root];exact hr,K.tr⟩,K.frm.toT' place⟩,K.ins,K.sng,by simp [zeP],λ c hc=>K.spr n c (by have:zeP (some ⟨h,p,t⟩)=h:=rfl;rw [this] at hc;exact hc.less (by omega)),by
  show (if h=0 then 6 else 4*h+min 6 (nd h t').len)<=(if h=0 then 6 else 4*h+min 6 (nd h t).len)+1
  have:=K.lenU
  split <;> omega,.inl (by simp [zeP]),K.wtU⟩
theorem zpU {w0 W:World} {G:Nat->Prop} {q a b:Nat} {key val:ByteArray} (h:W.heap[q]?=some (.cells #[.bool true,.slice (some ⟨a,0,none⟩) 1 1,.slice (some ⟨b,0,none⟩) 1 1,.slice none 0 0] 222 (0,0))) (ha:W.heap[a]?=some (.cells #[.string key] 9 (0,0))) (hb:W.heap[b]?=some (.cells #[.string val] 9 (0,0)))
 (hn:w0.heap.size<=q/\w0.heap.size<=a/\w0.heap.size<=b) (hG:∀ k,G k->k<w0.heap.size):RdN w0 W G q (.leaf [(key,val)]):=by
 refine ⟨λ k=>w0.heap.size<=k,⟨_,_,_,⟨h,?_,?_,.inl ⟨rfl,rfl⟩⟩,λ k hk=>?_⟩,λ k hk=>⟨hk,λ e=>by have:=hG k e;omega⟩⟩
 ·exact .inr ⟨a,0,1,rfl,by simp [Nd.keys],λ i hi=>by
   have:i=0:=by simpa [Nd.keys] using hi
   subst this;exact zaa ha rfl⟩
 ·exact .inr ⟨b,0,1,rfl,by simp [Nd.vals],λ i hi=>by
   have:i=0:=by simpa [Nd.vals] using hi
   subst this;exact zaa hb rfl⟩
 ·rcases hk with e|e|e|e
  ·exact ⟨by rw [e];exact zab h,by rw [e];exact hn.1⟩
  ·simp [Value.ownBlock] at e;subst e;exact ⟨zab ha,hn.2.1⟩
  ·simp [Value.ownBlock] at e;subst e;exact ⟨zab hb,hn.2.2⟩
  ·simp [Value.ownBlock] at e
theorem zlY {w0 W:World} {G:Nat->Prop} {q a b p r:Nat} {k:ByteArray} (h:W.heap[q]?=some (.cells #[.bool false,.slice (some ⟨a,0,none⟩) 2 2,.slice none 0 0,.slice (some ⟨b,0,none⟩) 2 2] 222 (0,0))) (ha:W.heap[a]?=some (.cells #[.string ⟨#[]⟩,.string k] 9 (0,0))) (hb:W.heap[b]?=some (.cells #[.int .i64 (p:Int),.int .i64 (r:Int)] 3 (0,0)))
 (hn:w0.heap.size<=q/\w0.heap.size<=a/\w0.heap.size<=b) (hG:¬G q/\¬G a/\¬G b):RdN w0 W G q (.inner [(ByteArray.empty,p),(k,r)]):=by
 refine ⟨λ j=>j=q\/j=a\/j=b,⟨_,_,_,⟨h,?_,.inl ⟨rfl,rfl⟩,?_⟩,λ k hk=>?_⟩,λ j hj=>?_⟩
 ·exact .inr ⟨a,0,2,rfl,by simp [Nd.keys],λ i hi=>by
   have:i=0\/i=1:=by have:i<2:=by simpa [Nd.keys] using hi
                     omega
   rcases this with rfl|rfl
   ·exact zaa ha rfl
   ·exact zaa ha rfl⟩
 ·exact .inr ⟨b,0,2,rfl,by simp [Nd.kids],λ i hi=>by
   have:i=0\/i=1:=by have:i<2:=by simpa [Nd.kids] using hi
                     omega
   rcases this with rfl|rfl
   ·exact zaa hb rfl
   ·exact zaa hb rfl⟩
 ·rcases hk with e|e|e|e
  ·exact ⟨by rw [e];exact zab h,.inl e⟩
  ·simp [Value.ownBlock] at e;subst e;exact ⟨zab ha,.inr (.inl rfl)⟩
  ·simp [Value.ownBlock] at e
  ·simp [Value.ownBlock] at e;subst e;exact ⟨zab hb,.inr (.inr rfl)⟩
 ·rcases hj with rfl|rfl|rfl
  ·exact ⟨hn.1,hG.1⟩
  ·exact ⟨hn.2.1,hG.2.1⟩
  ·exact ⟨hn.2.2,hG.2.2⟩
theorem zdk {w W0 W:World} {G G':Nat->Prop} {tb rb place n m:Nat} {S:RS} {b:Nat} (hL:zc4 W0 b tb) (hB:zak W0 W G G' tb rb place n m S) (h0:¬G b) (h1:¬G (b+1)):zc4 W b tb:=hL.upd hB.up h0 h1
theorem zav (w:World) (o1 o2 o3:Obj):(((w.alloc o1).alloc o2).alloc o3).drew.heap[w.heap.size]?=some o1/\(((w.alloc o1).alloc o2).alloc o3).drew.heap[w.heap.size+1]?=some o2/\(((w.alloc o1).alloc o2).alloc o3).drew.heap[w.heap.size+1+1]?=some o3/\Below w.heap.size w (((w.alloc o1).alloc o2).alloc o3).drew:=by
 refine ⟨?_,?_,?_,((((zBr w.heap.size w).alloc (zNr _) _).alloc (by simp) _).alloc (by simp;omega) _).drew⟩
 ·rw [zen,zam,if_neg (by simp;omega),zam,if_neg (by simp),heap_alloc_new]
 ·rw [zen,zam,if_neg (by simp),zam,if_pos (by simp)]
 ·rw [zen,zam,if_pos (by simp)]
theorem zep {w0 W:World} {G0 G:Nat->Prop} {tb rb place n m:Nat} {S:RS} (hB:zak w0 W G0 G tb rb place n m S) (hp:place<16) (hm:m<=3999000) (r:Nat) (hr:r<65536) :
 Calls Tryz.prog 126 #[.pointer (some ⟨tb,0,none⟩),.int .i64 (r:Int)] W λ e w'=>e=.returned (.tuple #[])/\Hid (∃ G',zak w0 w' G0 G' tb rb place n (m+1) (zay S place (r+1))/\zdb G G' W w'):=by
 have:=zhC G tb rb place n m S (r+1) W hB.room hB.blk hB.gt hp (by omega) (by omega)
 rw [show (((r+1:Nat):Int)-1)=(r:Int) by omega] at this
 refine this.mono ?_
 rintro e w' ⟨rfl,hg⟩
 exact ⟨rfl,hB.step hg⟩
def zc5 (w w':World) (G:Nat->Prop) (rb n m place:Nat) (S:RS) (o:Option TT) (key val:ByteArray):Prop:=∃ S' o',zb1 w w' G rb n (m+100) S'/\zhE place n S S' o o' key val
theorem zlZ (G:Nat->Prop) (tb rb place n m:Nat) (S:RS) (key val:ByteArray) (w:World) (h:RmS w G rb n m S) (ht:TB w tb rb place) (hg:¬G tb) (hp:place<16) (hm:m<=3900000) (hks:key.size<=96) (hvs:val.size<=56) (hr:S.root place=0) (hsp:zaR S n 1) :
 Calls Tryz.prog 71 #[.pointer (some ⟨tb,0,none⟩),.string key,.string val] w λ e w'=>e=.returned (.int .i64 0)/\Hid (zc5 w w' G rb n m place S none key val):=by
 have hmf:∀ (fn:Fn) (first cap:Array Value) (w:World),(Instr.makeFunc fn first cap).run Tryz.prog w=.ok (.func fn first cap) w:=λ _ _ _ _=>rfl
 have htl:=zab ht
 obtain ⟨c0,c1⟩:=ht.cells
 have hb3:=λ k=>zbc w tb k
 have d0:(((w.alloc (.cells #[.pointer (some ⟨tb,0,none⟩)] 103)).alloc (.cells #[.int .i64 0] 34)).alloc (.cells #[.int .i64 0] 3)).cell? ⟨tb,0,none⟩=some (.pointer (some ⟨rb,0,none⟩)):=(zCb ((hb3 0).block tb htl)).trans c0
 have M3:Hid (Calls Tryz.prog 114 #[.pointer (some ⟨rb,0,none⟩)] (((w.alloc (.cells #[.pointer (some ⟨tb,0,none⟩)] 103)).alloc (.cells #[.int .i64 0] 34)).alloc (.cells #[.int .i64 0] 3)) λ e w'=>∃ k:Nat,e=.returned (.int .i64 (k:Int))/\w'=(((w.alloc (.cells #[.pointer (some ⟨tb,0,none⟩)] 103)).alloc (.cells #[.int .i64 0] 34)).alloc (.cells #[.int .i64 0] 3))):=Hd (zhD G rb n m S _ (h.below (hb3 0)))
 have hk1:¬(96:Int)<(key.size:Int):=by omega
 have hk2:¬(56:Int)<(val.size:Int):=by omega
 have HG:=Hd h.lt
 have HSP:=Hd hsp
 have HKS:=Hd hks
 have HVS:=Hd hvs
 have HR:=Hd hr
 have B0:Hid (∀ k:Int,zak (zeB w tb k) (zeB w tb k) G G tb rb place n m S):=Hd λ k=>zak.start (h.below (hb3 k)) (ht.below (hb3 k)) hg
 have HP:=Hd hp
 have HM:=Hd hm
 clear h ht hg hp hm hks hvs hr hsp hb3 c1
 go_enter_defers Tryz.func71,Tryz.ntmps71
 go_wp2_with fail
 refine M3.out.mono ?_
 rintro e w1 ⟨k,rfl,rfl⟩
 clear M3 d0
 go_wp2_with fail
 have BW:=Hd (B0.out (k:Int))
 have LW:=Hd (zeo w tb (k:Int))
 have SW:=Hd (zdj w tb (k:Int))
 have BB:=Hd (zbc w tb (k:Int))
 change Calls Tryz.prog 125 #[.pointer (some ⟨tb,0,none⟩)] (zeB w tb (k:Int)) _
 generalize zeB w tb (k:Int)=W0 at *
 have RT:=zc3 G tb rb place n m S W0 BW.out.room BW.out.blk HP.out (by have:=HM.out;omega) (by rw [HR.out];omega)
 rw [HR.out] at RT
 refine RT.mono ?_
 rintro e w2 ⟨rfl,hb⟩
 have B2:=Hd (BW.out.below hb.out)
 have L2:=Hd (LW.out.below hb.out)
 obtain ⟨x0,x1,x2,x3,x4⟩:=L2.out.cells
 have hgB:Hid (¬G w.heap.size/\¬G (w.heap.size+1)):=Hd ⟨λ e=>by have:=HG.out _ e;omega,λ e=>by have:=HG.out _ e;omega⟩
 have HS2:Hid (W0.heap.size<=w2.heap.size/\∀ k,G k->k<W0.heap.size):=Hd ⟨hb.out.size,λ k hk=>by have:=HG.out k hk;have:=SW.out;omega⟩
 have FR:Hid (∀ W q a b,Below w2.heap.size w2 W->W.heap[q]?=some (.cells #[.bool true,.slice (some ⟨a,0,none⟩) 1 1,.slice (some ⟨b,0,none⟩) 1 1,.slice none 0 0] 222 (0,0))->W.heap[a]?=some (.cells #[.string key] 9 (0,0))->W.heap[b]?=some (.cells #[.string val] 9 (0,0))->w2.heap.size<=q/\w2.heap.size<=a/\w2.heap.size<=b ->
  Calls Tryz.prog 127 #[.pointer (some ⟨tb,0,none⟩),.pointer (some ⟨q,0,none⟩)] W λ e w'=>∃ r:Nat,e=.returned (.int .i64 (r:Int))/\w'.cell? ⟨w.heap.size,0,none⟩=some (.pointer (some ⟨tb,0,none⟩))/\Hid (r<65536/\S.used r=false/\∃ G',zak W0 w' G G' tb rb place n (m+3) (wrS (zaT S r) r (.leaf [(key,val)])))):=Hd λ W q a b hW h1 h2 h3 h4=>by
  have hs:=HS2.out
  have hrd:RdN W0 W G q (.leaf [(key,val)]):=zpU h1 h2 h3 ⟨by omega,by omega,by omega⟩ hs.2
  have hw:Wf 0 [(key,val)]:=⟨λ e he=>by simp at he;rw [he];exact ⟨HKS.out,HVS.out⟩,List.pairwise_singleton _ _⟩
  have hk:=HKS.out
  have hv:=HVS.out
  have hsz:(Nd.leaf [(key,val)]).size<=512:=by rw [zaE];simp [esL];omega
  have hok:(Nd.leaf [(key,val)]).Ok:=hw.ok (by rw [zaP];exact Nat.zero_lt_one) (Nat.le_trans hsz (by decide))
  refine (zbr (B2.out.below hW) hrd hok hsz (by have:=HM.out;omega) HSP.out.free).mono ?_
  rintro e w' ⟨r,rfl,a1,a2,G',a3,a4⟩
  refine ⟨r,rfl,(L2.out.upd (hW.upd' (zNr _)) (λ e=>e) (λ e=>e) |>.upd a4.upd hgB.out.1 hgB.out.2).cells.1,?_,a2,G',a3⟩
  have:=a3.room.bounds;unfold zaf at a1;omega
 have SR:Hid (∀ r W,Hid (r<65536/\S.used r=false/\∃ G',zak W0 W G G' tb rb place n (m+3) (wrS (zaT S r) r (.leaf [(key,val)])))->Calls Tryz.prog 126 #[.pointer (some ⟨tb,0,none⟩),.int .i64 (r:Int)] W λ e w'=>e=.returned (.tuple #[])/\(w'.cell? ⟨w.heap.size,0,none⟩=some (.pointer (some ⟨tb,0,none⟩)))/\(w'.cell? ⟨w.heap.size+1,0,none⟩=some (.int .i64 0)/\w'.frozen? ⟨w.heap.size+1,0,none⟩=false)/\Hid (∃ G',zak W0 w' G G' tb rb place n (m+4) (zay (wrS (zaT S r) r (.leaf [(key,val)])) place (r+1)))):=Hd λ r W hW=>by
  obtain ⟨a1,a2,G',a3⟩:=hW.out
  refine (zep a3 HP.out (by have:=HM.out;omega) r a1).mono ?_
  rintro e w' ⟨rfl,G2,b1,b2⟩
  have:=(zdk (w:=w) LW.out b1 hgB.out.1 hgB.out.2).cells
  exact ⟨rfl,this.1,⟨this.2.1,this.2.2.1⟩,G2,b1⟩
 clear RT hb
 go_wp2_with fail
 go_region_held3 (λ w'=>w'.cell? ⟨w.heap.size,0,none⟩=some (.pointer (some ⟨tb,0,none⟩))) (first|(go_keep;done)|exact (zCb ((zav w2 _ _ _).2.2.2.block _ x3)).trans x0) ((first
  | (go_at_call 127
     refine Calls.at_args (FR.out _ (w2.heap.size+1+1) w2.heap.size (w2.heap.size+1) (zav _ _ _ _).2.2.2 (zav _ _ _ _).2.2.1 (zav _ _ _ _).1 (zav _ _ _ _).2.1 ⟨by omega,by omega,by omega⟩) (by with_reducible rfl) ?_
     rintro e w3 ⟨r,rfl,hl,HF⟩)
  | (go_at_call 127
     refine Calls.at_args (FR.out _ (w2.heap.size+1+1) (w2.heap.size+1) w2.heap.size (zav _ _ _ _).2.2.2 (zav _ _ _ _).2.2.1 (zav _ _ _ _).2.1 (zav _ _ _ _).1 ⟨by omega,by omega,by omega⟩) (by with_reducible rfl) ?_
     rintro e w3 ⟨r,rfl,hl,HF⟩)
  | (go_at_call 126
     refine Calls.at_args (SR.out r _ HF) (by with_reducible rfl) ?_
     rintro e w4 ⟨rfl,hk4,hl4,HS⟩)))
 all_goals (
  obtain ⟨G4,b4⟩:=HS.out
  have L4:=zdk (w:=w) LW.out b4 hgB.out.1 hgB.out.2
  have hfin:(w4.setCell ⟨w.heap.size+1,0,none⟩ (.int .i64 0)).cell? ⟨w.heap.size+1,0,none⟩=some (.int .i64 0):=zaa (zac L4.b1 _) rfl
  have hgo:=Hd (b4.fin BB.out HG.out (x:=w.heap.size+1) (by omega) (by have:=SW.out;omega) 0 (.int .i64 0))
  clear b4 L4 HS FR SR
  go_wp2_with fail
  refine leaves_cons (f:=124) (args:=#[.pointer (some ⟨w.heap.size+1,0,none⟩)]) (by simp) (by simp [go_sem]) ?_
  refine (zax _ _).mono ?_
  rintro e u' w5 ⟨rfl,rfl,rfl⟩
  refine leaves_cons (f:=123) (args:=#[.pointer (some ⟨w.heap.size+1,0,none⟩),.pointer (some ⟨w.heap.size,0,none⟩),.pointer (some ⟨w.heap.size+1+1,0,none⟩)]) (by simp [settle]) (by simp [go_sem]) ?_
  refine (zcC _ _ _ _ _ hfin).mono ?_
  rintro e u' w6 ⟨rfl,rfl,rfl⟩
  have HGO:Hid (zc5 w (w4.setCell ⟨w.heap.size+1,0,none⟩ (.int .i64 0)) G rb n m place S none key val):=Hd (by
   obtain ⟨G5,y1,y2⟩:=hgo.out
   exact ⟨_,_,⟨G5,y1.more (by omega),y2⟩,znU HR.out HKS.out HVS.out HF.out.2.1⟩)
  simp [Leaves,settle,results,Tryz.results71,go_sem,hfin]
  exact HGO)
theorem zpV (G:Nat->Prop) (tb rb place n m:Nat) (S:RS) (T:TT) (key val:ByteArray) (w:World) (h:RmS w G rb n m S) (ht:TB w tb rb place) (hg:¬G tb) (hp:place<16) (hm:m<=3900000) (hks:key.size<=96) (hvs:val.size<=56) (hS:zaY S place (some T)) (hh:T.h<=20) (hsp:zaR S n (T.h+2)) :
 Calls Tryz.prog 71 #[.pointer (some ⟨tb,0,none⟩),.string key,.string val] w λ e w'=>e=.returned (.int .i64 0)/\Hid (zc5 w w' G rb n m place S (some T) key val):=by
 have hmf:∀ (fn:Fn) (first cap:Array Value) (w:World),(Instr.makeFunc fn first cap).run Tryz.prog w=.ok (.func fn first cap) w:=λ _ _ _ _=>rfl
 obtain ⟨hh0,p,t⟩:=T
 obtain ⟨hr,hT⟩:=hS
 have hp65:p<65536:=by
  have:=h.lim p hT.on.top.1
  have:=h.bounds
  unfold zaf at *;omega
 have htl:=zab ht
 obtain ⟨c0,c1⟩:=ht.cells
 have hb3:=λ k=>zbc w tb k
 have d0:(((w.alloc (.cells #[.pointer (some ⟨tb,0,none⟩)] 103)).alloc (.cells #[.int .i64 0] 34)).alloc (.cells #[.int .i64 0] 3)).cell? ⟨tb,0,none⟩=some (.pointer (some ⟨rb,0,none⟩)):=(zCb ((hb3 0).block tb htl)).trans c0
 have M3:Hid (Calls Tryz.prog 114 #[.pointer (some ⟨rb,0,none⟩)] (((w.alloc (.cells #[.pointer (some ⟨tb,0,none⟩)] 103)).alloc (.cells #[.int .i64 0] 34)).alloc (.cells #[.int .i64 0] 3)) λ e w'=>∃ k:Nat,e=.returned (.int .i64 (k:Int))/\w'=(((w.alloc (.cells #[.pointer (some ⟨tb,0,none⟩)] 103)).alloc (.cells #[.int .i64 0] 34)).alloc (.cells #[.int .i64 0] 3))):=Hd (zhD G rb n m S _ (h.below (hb3 0)))
 have hk1:¬(96:Int)<(key.size:Int):=by omega
 have hk2:¬(56:Int)<(val.size:Int):=by omega
 have HG:=Hd h.lt
 have HSP:=Hd hsp
 have HKS:=Hd hks
 have HVS:=Hd hvs
 have HR:=Hd hr
 have HT:=Hd hT
 have HP65:=Hd hp65
 have HH:=Hd hh
 have B0:Hid (∀ k:Int,zak (zeB w tb k) (zeB w tb k) G G tb rb place n m S):=Hd λ k=>zak.start (h.below (hb3 k)) (ht.below (hb3 k)) hg
 have HP:=Hd hp
 have HM:=Hd hm
 clear h ht hg hp hm hks hvs hr hsp hb3 c1 hT hp65 hh
 go_enter_defers Tryz.func71,Tryz.ntmps71
 go_wp2_with fail
 refine M3.out.mono ?_
 rintro e w1 ⟨k,rfl,rfl⟩
 clear M3 d0
 go_wp2_with fail
 have BW:=Hd (B0.out (k:Int))
 have LW:=Hd (zeo w tb (k:Int))
 have SW:=Hd (zdj w tb (k:Int))
 have BB:=Hd (zbc w tb (k:Int))
 change Calls Tryz.prog 125 #[.pointer (some ⟨tb,0,none⟩)] (zeB w tb (k:Int)) _
 generalize zeB w tb (k:Int)=W0 at *
 have RT:=zc3 G tb rb place n m S W0 BW.out.room BW.out.blk HP.out (by have:=HM.out;omega) (by have:=HP65.out;rw [HR.out];omega)
 rw [HR.out,show (((p+1:Nat):Int)-1)=(p:Int) by omega] at RT
 refine RT.mono ?_
 rintro e w2 ⟨rfl,hb⟩
 have B2:=Hd (BW.out.below hb.out)
 have L2:=Hd (LW.out.below hb.out)
 obtain ⟨x0,x1,x2,x3,x4⟩:=L2.out.cells
 have hgB:Hid (¬G w.heap.size/\¬G (w.heap.size+1)):=Hd ⟨λ e=>by have:=HG.out _ e;omega,λ e=>by have:=HG.out _ e;omega⟩
 have PT0:=Hd (zrz hh0 G tb rb place n m S p t key val 0 w2 B2.out.room B2.out.blk B2.out.gt HT.out HKS.out HVS.out (by have:=HH.out;omega) (HSP.out.less (by show hh0+1<=hh0+2;omega)) (by have:=HM.out;have:hh0<=20:=HH.out;omega))
 rw [show ((0:Nat):Int)=0 from rfl] at PT0
 have hp0:¬(p:Int)<0:=by omega
 clear RT hb
 go_wp2_with fail
 refine PT0.out.mono ?_
 rintro e w3 ⟨kk,q,more,rfl,HPP⟩
 clear PT0 x0 x1 x2 x3 x4
 cases more with
 | false =>
   obtain ⟨S3,hgo3,hif⟩:=HPP.out
   rw [if_neg (by simp)] at hif
   obtain ⟨rfl,rfl,t',K⟩:=hif
   obtain ⟨G3,b3,-⟩:=B2.out.step hgo3
   have L3:=zdk (w:=w) LW.out b3 hgB.out.1 hgB.out.2
   obtain ⟨x0,x1,x2,x3,x4⟩:=L3.cells
   have hfin:(w3.setCell ⟨w.heap.size+1,0,none⟩ (.int .i64 0)).cell? ⟨w.heap.size+1,0,none⟩=some (.int .i64 0):=zaa (zac L3.b1 _) rfl
   have hgo:=Hd (b3.fin BB.out HG.out (x:=w.heap.size+1) (by omega) (by have:=SW.out;omega) 0 (.int .i64 0))
   have HK:=Hd K
   clear b3 L3 HPP hgo3 K
   go_wp2_with fail
   refine leaves_cons (f:=124) (args:=#[.pointer (some ⟨w.heap.size+1,0,none⟩)]) (by simp) (by simp [go_sem]) ?_
   refine (zax _ _).mono ?_
   rintro e u' w5 ⟨rfl,rfl,rfl⟩
   refine leaves_cons (f:=123) (args:=#[.pointer (some ⟨w.heap.size+1,0,none⟩),.pointer (some ⟨w.heap.size,0,none⟩),.pointer (some ⟨w.heap.size+1+1,0,none⟩)]) (by simp [settle]) (by simp [go_sem]) ?_
   refine (zcC _ _ _ _ _ hfin).mono ?_
   rintro e u' w6 ⟨rfl,rfl,rfl⟩
   have HGO:Hid (zc5 w (w3.setCell ⟨w.heap.size+1,0,none⟩ (.int .i64 0)) G rb n m place S (some ⟨hh0,p,t⟩) key val):=Hd (by
    obtain ⟨G5,y1,y2⟩:=hgo.out
    exact ⟨_,_,⟨G5,y1.more (by have:hh0<=20:=HH.out;omega),y2⟩,zgL HK.out HR.out⟩)
   simp [Leaves,settle,results,Tryz.results71,go_sem,hfin]
   exact HGO
 | true =>
   obtain ⟨S3,hgo3,hif⟩:=HPP.out
   rw [if_pos rfl] at hif
   obtain ⟨t1,t2,K⟩:=hif
   obtain ⟨G3,b3,-⟩:=B2.out.step hgo3
   have HK:=Hd K
   have B3:=Hd b3
   have L3:=Hd (zdk (w:=w) LW.out b3 hgB.out.1 hgB.out.2)
   obtain ⟨x0,x1,x2,x3,x4⟩:=L3.out.cells
   have hg3:Hid (¬G3 w.heap.size/\¬G3 (w.heap.size+1)):=Hd ⟨λ e=>by
    rcases b3.sub _ e with e|e
    ·exact hgB.out.1 e
    ·have:=SW.out;omega,λ e=>by
    rcases b3.sub _ e with e|e
    ·exact hgB.out.2 e
    ·have:=SW.out;omega⟩
   have HM3:Hid (m+4*(hh0+1)<=3998000):=Hd (by have:=HM.out;have:hh0<=20:=HH.out;omega)
   have HSP3:Hid (∃ r,r<zaf n/\S3.used r=false):=Hd (by
    have:=K.spr n 1 (HSP.out.less (by show 1+hh0+1<=hh0+2;omega))
    exact this.free)
   have FR:Hid (∀ W q1 a b,Below w3.heap.size w3 W->W.heap[q1]?=some (.cells #[.bool false,.slice (some ⟨a,0,none⟩) 2 2,.slice none 0 0,.slice (some ⟨b,0,none⟩) 2 2] 222 (0,0))->W.heap[a]?=some (.cells #[.string ⟨#[]⟩,.string kk] 9 (0,0))->W.heap[b]?=some (.cells #[.int .i64 (p:Int),.int .i64 (q:Int)] 3 (0,0))->w3.heap.size<=q1/\w3.heap.size<=a/\w3.heap.size<=b ->
    Calls Tryz.prog 127 #[.pointer (some ⟨tb,0,none⟩),.pointer (some ⟨q1,0,none⟩)] W λ e w'=>∃ r:Nat,e=.returned (.int .i64 (r:Int))/\w'.cell? ⟨w.heap.size,0,none⟩=some (.pointer (some ⟨tb,0,none⟩))/\Hid (r<65536/\S3.used r=false/\∃ G',zak W0 w' G G' tb rb place n (m+4*(hh0+1)+3) (wrS (zaT S3 r) r (.inner [(ByteArray.empty,p),(kk,q)])))):=Hd λ W q1 a b hW h1 h2 h3 h4=>by
    have hs:=B3.out.up.size
    have hlt:=B3.out.room.lt
    have hrd:RdN W0 W G3 q1 (.inner [(ByteArray.empty,p),(kk,q)]):=zlY h1 h2 h3 ⟨by omega,by omega,by omega⟩ ⟨λ e=>by have:=hlt _ e;omega,λ e=>by have:=hlt _ e;omega,λ e=>by have:=hlt _ e;omega⟩
    have hk:=HK.out.ksz
    have hq:=HK.out.qlt
    have hp6:=HP65.out
    have hsz:(Nd.inner [(ByteArray.empty,p),(kk,q)]).size<=512:=by rw [zaM];simp [esI];omega
    have hok:(Nd.inner [(ByteArray.empty,p),(kk,q)]).Ok:=by
     refine ⟨by simp [Nd.len,Nd.keys],by simp [Nd.len,Nd.keys],λ x hx=>?_,λ x hx=>?_,λ x hx=>?_⟩
     ·simp [Nd.keys] at hx
      rcases hx with rfl|rfl
      ·decide
      ·exact hk
     ·simp [Nd.vals] at hx
     ·simp [Nd.kids] at hx
      rcases hx with rfl|rfl <;> omega
    refine (zbr (B3.out.below hW) hrd hok hsz (by have:=HM3.out;omega) HSP3.out).mono ?_
    rintro e w' ⟨r,rfl,a1,a2,G',a3,a4⟩
    refine ⟨r,rfl,(L3.out.upd (hW.upd' (zNr _)) (λ e=>e) (λ e=>e) |>.upd a4.upd hg3.out.1 hg3.out.2).cells.1,?_,a2,G',a3⟩
    have:=a3.room.bounds;unfold zaf at a1;omega
   have SR:Hid (∀ r W,Hid (r<65536/\S3.used r=false/\∃ G',zak W0 W G G' tb rb place n (m+4*(hh0+1)+3) (wrS (zaT S3 r) r (.inner [(ByteArray.empty,p),(kk,q)])))->Calls Tryz.prog 126 #[.pointer (some ⟨tb,0,none⟩),.int .i64 (r:Int)] W λ e w'=>e=.returned (.tuple #[])/\(w'.cell? ⟨w.heap.size,0,none⟩=some (.pointer (some ⟨tb,0,none⟩)))/\(w'.cell? ⟨w.heap.size+1,0,none⟩=some (.int .i64 0)/\w'.frozen? ⟨w.heap.size+1,0,none⟩=false)/\Hid (∃ G',zak W0 w' G G' tb rb place n (m+4*(hh0+1)+4) (zay (wrS (zaT S3 r) r (.inner [(ByteArray.empty,p),(kk,q)])) place (r+1)))):=Hd λ r W hW=>by
    obtain ⟨a1,a2,G',a3⟩:=hW.out
    refine (zep a3 HP.out (by have:=HM3.out;omega) r a1).mono ?_
    rintro e w' ⟨rfl,G2,b1,b2⟩
    have:=(zdk (w:=w) LW.out b1 hgB.out.1 hgB.out.2).cells
    exact ⟨rfl,this.1,⟨this.2.1,this.2.2.1⟩,G2,b1⟩
   clear b3 hgo3 K HPP B0
   go_wp2_with fail
   go_region_held3 (λ w'=>w'.cell? ⟨w.heap.size,0,none⟩=some (.pointer (some ⟨tb,0,none⟩))) (first|(go_keep;done)|exact (zCb ((zav w3 _ _ _).2.2.2.block _ x3)).trans x0) ((first
    | (go_at_call 127
       refine Calls.at_args (FR.out _ (w3.heap.size+1+1) w3.heap.size (w3.heap.size+1) (zav _ _ _ _).2.2.2 (zav _ _ _ _).2.2.1 (zav _ _ _ _).1 (zav _ _ _ _).2.1 ⟨by omega,by omega,by omega⟩) (by with_reducible rfl) ?_
       rintro e w5 ⟨r,rfl,hl,HF⟩)
    | (go_at_call 127
       refine Calls.at_args (FR.out _ (w3.heap.size+1+1) (w3.heap.size+1) w3.heap.size (zav _ _ _ _).2.2.2 (zav _ _ _ _).2.2.1 (zav _ _ _ _).2.1 (zav _ _ _ _).1 ⟨by omega,by omega,by omega⟩) (by with_reducible rfl) ?_
       rintro e w5 ⟨r,rfl,hl,HF⟩)
    | (go_at_call 126
       refine Calls.at_args (SR.out r _ HF) (by with_reducible rfl) ?_
       rintro e w4 ⟨rfl,hk4,hl4,HS⟩)))
   all_goals (
    obtain ⟨G4,b4⟩:=HS.out
    have L4:=zdk (w:=w) LW.out b4 hgB.out.1 hgB.out.2
    have hfin:(w4.setCell ⟨w.heap.size+1,0,none⟩ (.int .i64 0)).cell? ⟨w.heap.size+1,0,none⟩=some (.int .i64 0):=zaa (zac L4.b1 _) rfl
    have hgo:=Hd (b4.fin BB.out HG.out (x:=w.heap.size+1) (by omega) (by have:=SW.out;omega) 0 (.int .i64 0))
    clear b4 L4 HS FR SR
    go_wp2_with fail
    refine leaves_cons (f:=124) (args:=#[.pointer (some ⟨w.heap.size+1,0,none⟩)]) (by simp) (by simp [go_sem]) ?_
    refine (zax _ _).mono ?_
    rintro e u' w5 ⟨rfl,rfl,rfl⟩
    refine leaves_cons (f:=123) (args:=#[.pointer (some ⟨w.heap.size+1,0,none⟩),.pointer (some ⟨w.heap.size,0,none⟩),.pointer (some ⟨w.heap.size+1+1,0,none⟩)]) (by simp [settle]) (by simp [go_sem]) ?_
    refine (zcC _ _ _ _ _ hfin).mono ?_
    rintro e u' w6 ⟨rfl,rfl,rfl⟩
    have HGO:Hid (zc5 w (w4.setCell ⟨w.heap.size+1,0,none⟩ (.int .i64 0)) G rb n m place S (some ⟨hh0,p,t⟩) key val):=Hd (by
     obtain ⟨G5,y1,y2⟩:=hgo.out
     exact ⟨_,_,⟨G5,y1.more (by have:hh0<=20:=HH.out;omega),y2⟩,zjB HK.out HP65.out HF.out.2.1⟩)
    simp [Leaves,settle,results,Tryz.results71,go_sem,hfin]
    exact HGO)
def Del (key:ByteArray) (E E':List (ByteArray × ByteArray)):Prop:=∃ A B v,E=A++(key,v)::B/\E'=A++B
theorem Del.lift {key:ByteArray} {E E':List (ByteArray × ByteArray)} (H:Del key E E') (X Y:List (ByteArray × ByteArray)):Del key (X++(E++Y)) (X++(E'++Y)):=by
 obtain ⟨A,B,v,rfl,rfl⟩:=H
 exact ⟨X++A,B++Y,v,by simp,by simp⟩
theorem Del.mem {key:ByteArray} {E E':List (ByteArray × ByteArray)} (H:Del key E E'):∀ e∈E',e∈E:=by
 obtain ⟨A,B,v,rfl,rfl⟩:=H
 intro e he
 rcases List.mem_append.1 he with h|h <;> simp [h]
structure Opn (S S1:RS) (h p:Nat) (t:PT h) (key:ByteArray) (u:PT h):Prop where
 wf:Wf h u
 siz:(nd h u).size<=512
 kid:zdc S1 h u
 nod:(p::low h u).Nodup
 use:S1.used p=true
 del:Del key (ents h t) (ents h u)
 frm:Frm (pgs h p t) (p::low h u) S S1
 spr:∀ n c,zaR S n c->zaR S1 n c
 lenD:(nd h u).len<=(nd h t).len
 wtD:wt h u<=wt h t
structure zfa (S S':RS) (h p:Nat) (t:PT h) (key:ByteArray) (u:PT h):Prop where
 op:Opn S S' h p t key u
 on:0<(nd h u).len->On S' h p u
theorem zaR.freeS {S:RS} {n c p:Nat} (h:zaR S n c) (hu:S.used p=true):zaR (frS S p) n c:=by
 obtain ⟨U,h1,h2⟩:=h
 refine ⟨U,λ q hq=>?_,h2⟩
 have hq':zbn S.used p q=true:=hq
 unfold zbn at hq'
 by_cases e:q=p
 ·rw [if_pos e,e,hu] at hq';cases hq'
 ·rw [if_neg e] at hq';exact h1 q hq'
theorem Opn.leaf {S:RS} {p:Nat} {A B:List (ByteArray × ByteArray)} {key v:ByteArray} (H:Tr S 0 p (A++(key,v)::B)):Opn S S 0 p (A++(key,v)::B) key (A++B):=by
 refine ⟨⟨λ e he=>H.wf.1 e (by rcases List.mem_append.1 he with h|h <;> simp [h]),(zhz H.wf.2).1⟩,?_,trivial,by simp [low],H.on.1,⟨A,B,v,rfl,rfl⟩,Frm.refl _ _,λ n c hc=>hc,by rw [zaP,zaP];simp,by rw [zgI,zgI];simp⟩
 have:=H.fit
 rw [zeJ,zaE] at this ⊢
 simp at this ⊢;omega
section
variable {S S':RS} {h p:Nat} {A B:List (Kid h)} {x:Kid h} {key:ByteArray}
theorem Opn.kidOne {t':PT h} (H:Tr S (h+1) p (A++x::B:List (Kid h))) (K:zfa S S' h x.2.1 x.2.2 key t') (hp:0<(nd h t').len) :
 Opn S S' (h+1) p (A++x::B:List (Kid h)) key (A++(x.1,x.2.1,t')::B:List (Kid h)):=by
 have hfr:=K.op.frm
 rw [<-zaF h x.2.1 t'] at hfr
 have hnd:=K.op.nod
 rw [<-zaF h x.2.1 t'] at hnd
 obtain ⟨k1,k3,kp,hn,hf⟩:=hfr.others H hnd
 have e:nd (h+1) (A++(x.1,x.2.1,t')::B:List (Kid h))=nd (h+1) (A++x::B:List (Kid h)):=by simp [nd]
 have hx:=H.wf.1 x (by simp)
 refine ⟨⟨λ y hy=>?_,?_⟩,by rw [e];exact H.fit,zdc.mk k1 (K.on hp) k3,by rw [zcR];exact hn,kp.1,?_,by rw [zcR];exact hf,K.op.spr,by rw [e];exact zNr _,zpS K.op.wtD⟩
 ·rcases List.mem_append.1 hy with hy|hy
  ·exact H.wf.1 y (by simp [hy])
  ·rcases List.mem_cons.1 hy with rfl|hy
   ·exact ⟨hx.1,hx.2.1,hp,K.op.siz,K.op.wf⟩
   ·exact H.wf.1 y (by simp [hy])
 ·obtain ⟨h1,h2,h3,h4,h5⟩:=za4.1 H.wf.2.1
  obtain ⟨h6,h7,h8⟩:=zaX.1 H.wf.2.2
  exact ⟨za4.2 ⟨h1,h2,h3,λ b hb e he=>h4 b hb e (K.op.del.mem e he),h5⟩,zaX.2 ⟨h6,λ hA e he=>h7 hA e (K.op.del.mem e he),h8⟩⟩
 ·rw [zb4,zb4]
  exact K.op.del.lift _ _
theorem zpW:nd (h+1) (A++B:List (Kid h))=.inner (A.map (λ x:Kid h=>(x.1,x.2.1))++B.map (λ x:Kid h=>(x.1,x.2.1))):=by simp [nd]
theorem zhF:(nd (h+1) (A++B:List (Kid h))).size<=(nd (h+1) (A++x::B:List (Kid h))).size:=by
 simp only [nd,zaM]
 simp
theorem zl0 (A B:List (Kid h)):low (h+1) (A++B:List (Kid h))=low (h+1) A++low (h+1) B:=by simp [low]
theorem zjC:∀ {h:Nat} {t:PT h},(nd h t).len=0->ents h t=[]
 | 0,t,e=>by rw [zaP] at e;exact List.eq_nil_of_length_eq_zero e
 | h+1,t,e=>by rw [zaq] at e;rw [List.eq_nil_of_length_eq_zero e];rfl
theorem ziG:∀ {h:Nat} {t:PT h},(nd h t).len=0->low h t=[]
 | 0,t,e=>rfl
 | h+1,t,e=>by rw [zaq] at e;rw [List.eq_nil_of_length_eq_zero e];rfl
theorem Opn.kidNone {t':PT h} (H:Tr S (h+1) p (A++x::B:List (Kid h))) (K:zfa S S' h x.2.1 x.2.2 key t') (hz:(nd h t').len=0) :
 S'.used x.2.1=true/\Opn S (frS S' x.2.1) (h+1) p (A++x::B:List (Kid h)) key (A++B:List (Kid h)):=by
 have hfr:=K.op.frm
 rw [ziG hz] at hfr
 have hnd:=K.op.nod
 rw [ziG hz] at hnd
 obtain ⟨k1,k3,kp,hn,hf⟩:=hfr.others H hnd
 have hux:=K.op.use
 obtain ⟨np,hn2⟩:=List.nodup_cons.1 hn
 obtain ⟨n1,n2,n3⟩:=List.nodup_append.1 hn2
 obtain ⟨n4,n5⟩:=List.nodup_cons.1 n2
 have hpx:p≠x.2.1:=λ e=>np (by simp [e])
 have hne:∀ q,q∈low (h+1) A\/q∈low (h+1) B->q≠x.2.1:=λ q hq e=>by
  subst e
  rcases hq with hq|hq
  ·exact n3 _ hq _ (by simp) rfl
  ·exact n4 hq
 have fl:∀ q,q≠x.2.1->(frS S' x.2.1).used q=S'.used q:=λ q hq=>by show zbn _ _ _=_;unfold zbn;rw [if_neg hq]
 refine ⟨hux,⟨⟨λ y hy=>H.wf.1 y (by rcases List.mem_append.1 hy with h|h <;> simp [h]),H.wf.2.away⟩,Nat.le_trans (zhF (x:=x)) H.fit,λ y hy=>?_,?_,by rw [fl p hpx];exact kp.1,?_,?_,λ n c hc=>(K.op.spr n c hc).freeS hux,by rw [zaq,zaq];simp,by rw [zel,zlU];omega⟩⟩
 ·rcases List.mem_append.1 hy with hy|hy
  ·exact (k1 y hy).frame λ q hq=>⟨fl q (hne q (.inl (List.mem_flatMap.2 ⟨y,hy,hq⟩))),rfl⟩
  ·exact (k3 y hy).frame λ q hq=>⟨fl q (hne q (.inr (List.mem_flatMap.2 ⟨y,hy,hq⟩))),rfl⟩
 ·rw [zl0]
  refine List.nodup_cons.2 ⟨λ e=>np ?_,List.nodup_append.2 ⟨n1,n5,λ a ha b hb=>n3 a ha b (by simp [hb])⟩⟩
  rcases List.mem_append.1 e with e|e <;> simp [e]
 ·rw [zb4,zcQ]
  have:=K.op.del.lift (ents (h+1) A) (ents (h+1) B)
  rw [zjC hz,List.nil_append] at this
  exact this
 ·rw [zl0]
  refine hf.trans (Frm.free _ _ S' x.2.1 hux (λ q=>?_) (λ e=>?_))
  ·simp only [List.mem_cons,List.mem_append,List.not_mem_nil,or_false]
   constructor
   ·rintro (a|a|a|a) <;> simp [a]
   ·rintro (a|a|a|a) <;> simp [a]
  ·rcases List.mem_cons.1 e with e|e
   ·exact hpx e.symm
   ·rcases List.mem_append.1 e with e|e
    ·exact hne _ (.inl e) rfl
    ·exact hne _ (.inr e) rfl
end
def zaN:(h:Nat)->PT h->ByteArray->PT h->PT h
 | 0,a,_,b=>a++b
 | h+1,a,f,b=>(a:List (Kid h))++(match (b:List (Kid h)) with|[]=>[]|z::r=>(f,z.2)::r)
def Nd.join (a:Nd) (f:ByteArray) (b:Nd):Nd :=
 match a,b with
 | .leaf l,.leaf r=>.leaf (l++r)
 | .inner l,.inner r=>.inner (l++(match r with|[]=>[]|z::r=>(f,z.2)::r))
 | a,_=>a
theorem zpX (h:Nat) (a:PT h) (f:ByteArray) (b:PT h):nd h (zaN h a f b)=(nd h a).join f (nd h b):=by
 cases h with
 | zero=>rfl
 | succ h=>cases b <;> simp [nd,zaN,Nd.join]
theorem zhG (h:Nat) (a:PT h) (f:ByteArray) (b:PT h):ents h (zaN h a f b)=ents h a++ents h b:=by
 cases h with
 | zero=>rfl
 | succ h=>cases b <;> simp [ents,zaN]
theorem znV (h:Nat) (a:PT h) (f:ByteArray) (b:PT h):low h (zaN h a f b)=low h a++low h b:=by
 cases h with
 | zero=>rfl
 | succ h=>cases b <;> simp [low,zaN]
theorem zpY (h:Nat) (a:PT h) (f:ByteArray) (b:PT h):wt h (zaN h a f b)=wt h a+wt h b:=by
 cases h with
 | zero=>exact zLa
 | succ h =>
   cases b with
   | nil=>simp [wt,zaN]
   | cons z r=>simp [wt,zaN]
theorem zl1 {S:RS} {h:Nat} {a:PT h} {f:ByteArray} {b:PT h} (h1:zdc S h a) (h2:zdc S h b):zdc S h (zaN h a f b):=by
 cases h with
 | zero=>trivial
 | succ h =>
   intro y hy
   rcases List.mem_append.1 hy with hy|hy
   ·exact h1 y hy
   ·cases b with
    | nil=>simp at hy
    | cons z r =>
      rcases List.mem_cons.1 hy with rfl|hy
      ·exact h2 z (by simp)
      ·exact h2 y (by simp [hy])
theorem zjD (h:Nat) (a:PT h) (f:ByteArray) (b:PT h):(nd h a).len<=(nd h (zaN h a f b)).len:=by
 cases h with
 | zero=>rw [zaP,zaP];simp [zaN]
 | succ h=>rw [zaq,zaq];simp [zaN]
theorem zl2 {h:Nat} {a:PT h} {f:ByteArray} {b:PT h} (ha:Wf h a) (hb:Wf h b) (hf:f.size<=96) (h1:∀ e∈ents h a,zah e.1 f=true) (h2:∀ e∈ents h b,zah e.1 f=false) (hpa:0<(nd h a).len):Wf h (zaN h a f b):=by
 cases h with
 | zero =>
   refine ⟨λ e he=>?_,List.pairwise_append.2 ⟨ha.2,hb.2,λ x hx y hy=>zaK (h1 x hx) (h2 y hy)⟩⟩
   rcases List.mem_append.1 he with he|he
   ·exact ha.1 e he
   ·exact hb.1 e he
 | succ h =>
   cases b with
   | nil =>
     have:zaN (h+1) a f []=a:=by simp [zaN]
     rw [this];exact ha
   | cons z r =>
     have h2z:∀ y∈z::r,∀ e∈ents h y.2.2,zah e.1 f=false:=λ y hy e he=>h2 e ((zbq h (z::r) e).2 ⟨y,hy,he⟩)
     have h1z:∀ y∈(a:List (Kid h)),∀ e∈ents h y.2.2,zah e.1 f=true:=λ y hy e he=>h1 e ((zbq h a e).2 ⟨y,hy,he⟩)
     obtain ⟨p1,p2⟩:=List.pairwise_cons.1 hb.2.1
     have hzz:=hb.1 z (by simp)
     obtain ⟨e0,he0⟩:∃ e0,e0∈ents h z.2.2:=⟨_,List.getElem_mem (zbG hzz.2.2.2.2 hzz.2.2.1)⟩
     refine ⟨λ y hy=>?_,List.pairwise_append.2 ⟨ha.2.1,List.pairwise_cons.2 ⟨p1,p2⟩,λ x hx y hy e he=>?_⟩,λ y hy=>?_⟩
     ·rcases List.mem_append.1 hy with hy|hy
      ·exact ha.1 y hy
      ·rcases List.mem_cons.1 hy with rfl|hy
       ·exact ⟨hf,hzz.2⟩
       ·exact hb.1 y (by simp [hy])
     ·rcases List.mem_cons.1 hy with rfl|hy
      ·exact h1z x hx e he
      ·exact za9 (zaK (h1z x hx e he) (h2z z (by simp) e0 he0)) (p1 y hy e0 he0)
     ·cases a with
      | nil=>rw [zaq] at hpa;simp at hpa
      | cons a0 a =>
        have hy':y∈a++(f,z.2)::r:=hy
        rcases List.mem_append.1 hy' with hy|hy
        ·exact ha.2.2 y hy
        ·rcases List.mem_cons.1 hy with rfl|hy
         ·exact h2z z (by simp)
         ·exact hb.2.2 y hy
section
variable {S S1:RS} {h p:Nat} {A B:List (Kid h)} {x y:Kid h} {key:ByteArray} {t:PT (h+1)}
theorem Opn.join (H:Opn S S1 (h+1) p t key (A++x::y::B:List (Kid h))) (hs:(nd h (zaN h x.2.2 y.1 y.2.2)).size<=512) :
 S1.used x.2.1=true/\S1.used y.2.1=true/\x.2.1≠y.2.1/\Opn S (frS (wrS S1 x.2.1 (nd h (zaN h x.2.2 y.1 y.2.2))) y.2.1) (h+1) p t key (A++(x.1,x.2.1,zaN h x.2.2 y.1 y.2.2)::B:List (Kid h)):=by
 have hx:=H.wf.1 x (by simp)
 have hy:=H.wf.1 y (by simp)
 obtain ⟨s1,s2,s3,s4,s5⟩:=za4.1 H.wf.2.1
 obtain ⟨s6,s7,s8⟩:=zaX.1 H.wf.2.2
 have hxp:=zbG hx.2.2.2.2 hx.2.2.1
 have hwj:Wf h (zaN h x.2.2 y.1 y.2.2):=zl2 hx.2.2.2.2 hy.2.2.2.2 hy.1 (s4 y (by simp)) (s8 y (by simp)) hx.2.2.1
 have hlj:0<(nd h (zaN h x.2.2 y.1 y.2.2)).len:=Nat.lt_of_lt_of_le hx.2.2.1 (zjD h _ _ _)
 obtain ⟨k1,kx,k2⟩:=H.kid.mid
 have ky:On S1 h y.2.1 y.2.2:=k2 y (by simp)
 have k3:zdc S1 (h+1) B:=λ z hz=>k2 z (by simp [hz])
 have hN:=H.nod
 have el:low (h+1) (A++x::y::B:List (Kid h))=low (h+1) A++((x.2.1::low h x.2.2)++((y.2.1::low h y.2.2)++low (h+1) B)):=by
  rw [zcR,<-zaF,<-zaF];simp [low]
 rw [el] at hN
 have ej:low (h+1) (A++(x.1,x.2.1,zaN h x.2.2 y.1 y.2.2)::B:List (Kid h))=low (h+1) A++((x.2.1::(low h x.2.2++low h y.2.2))++low (h+1) B):=by
  rw [zcR,zaF];show _++((x.2.1::low h (zaN h x.2.2 y.1 y.2.2))++_)=_;rw [znV]
 obtain ⟨np,hN2⟩:=List.nodup_cons.1 hN
 obtain ⟨n1,n2,n3⟩:=List.nodup_append.1 hN2
 obtain ⟨n4,n5,n6⟩:=List.nodup_append.1 n2
 obtain ⟨n7,n8⟩:=List.nodup_cons.1 n4
 obtain ⟨n9,n10,n11⟩:=List.nodup_append.1 n5
 obtain ⟨n12,n13⟩:=List.nodup_cons.1 n9
 have hxy:x.2.1≠y.2.1:=n6 _ (by simp) _ (by simp)
 have hux:=kx.top.1
 have huy:=ky.top.1
 have hpx:p≠x.2.1:=λ e=>np (by simp [e])
 have hpy:p≠y.2.1:=λ e=>np (by simp [e])
 have keep:∀ q,q≠x.2.1->q≠y.2.1->(frS (wrS S1 x.2.1 (nd h (zaN h x.2.2 y.1 y.2.2))) y.2.1).used q=S1.used q/\(frS (wrS S1 x.2.1 (nd h (zaN h x.2.2 y.1 y.2.2))) y.2.1).cont q=S1.cont q:=λ q a b=>by
  refine ⟨?_,?_⟩
  ·show zbn S1.used y.2.1 q=_;unfold zbn;rw [if_neg b]
  ·show (if q=x.2.1 then _ else _)=_;rw [if_neg a]
 have neA:∀ q∈low (h+1) A,q≠x.2.1/\q≠y.2.1:=λ q hq=>⟨n3 q hq _ (by simp),n3 q hq _ (by simp)⟩
 have neB:∀ q∈low (h+1) B,q≠x.2.1/\q≠y.2.1:=λ q hq=>⟨λ e=>n6 x.2.1 (by simp) q (by simp [hq]) e.symm,λ e=>n11 y.2.1 (by simp) q hq e.symm⟩
 have nex:∀ q∈low h x.2.2,q≠x.2.1/\q≠y.2.1:=λ q hq=>⟨λ e=>n7 (e ▸ hq),n6 q (by simp [hq]) _ (by simp)⟩
 have ney:∀ q∈low h y.2.2,q≠x.2.1/\q≠y.2.1:=λ q hq=>⟨λ e=>n6 x.2.1 (by simp) q (by simp [hq]) e.symm,λ e=>n12 (e ▸ hq)⟩
 have onx:On (frS (wrS S1 x.2.1 (nd h (zaN h x.2.2 y.1 y.2.2))) y.2.1) h x.2.1 (zaN h x.2.2 y.1 y.2.2):=by
  refine ze9.2 ⟨⟨?_,?_⟩,zl1 ((ze9.1 kx).2.frame λ q hq=>keep q (nex q hq).1 (nex q hq).2) ((ze9.1 ky).2.frame λ q hq=>keep q (ney q hq).1 (ney q hq).2)⟩
  ·show zbn S1.used y.2.1 x.2.1=true;unfold zbn;rw [if_neg hxy];exact hux
  ·show (if x.2.1=x.2.1 then _ else _)=_;rw [if_pos rfl]
 refine ⟨hux,huy,hxy,⟨⟨λ z hz=>?_,H.wf.2.join x.2.1 _ (zhG h _ _ _) hxp⟩,?_,zdc.mk (k1.frame λ q hq=>keep q (neA q hq).1 (neA q hq).2) onx (k3.frame λ q hq=>keep q (neB q hq).1 (neB q hq).2),?_,by rw [(keep p hpx hpy).1];exact H.use,?_,?_,λ n c hc=>((H.spr n c hc).write.freeS huy),by have:=H.lenD;rw [zaq,zaq] at this ⊢;simp at this ⊢;omega,by have:=H.wtD;rw [zel,zdU] at this;rw [zel];show wt (h+1) A+(max (2 ^ h) (wt h (zaN h x.2.2 y.1 y.2.2))+wt (h+1) B)<=_;rw [zpY];generalize 2 ^ h=P at *;omega⟩⟩
 ·rcases List.mem_append.1 hz with hz|hz
  ·exact H.wf.1 z (by simp [hz])
  ·rcases List.mem_cons.1 hz with rfl|hz
   ·exact ⟨hx.1,hx.2.1,hlj,hs,hwj⟩
   ·exact H.wf.1 z (by simp [hz])
 ·refine Nat.le_trans ?_ H.siz
  have e1:nd (h+1) (A++(x.1,x.2.1,zaN h x.2.2 y.1 y.2.2)::B:List (Kid h))=nd (h+1) ((A++[x])++B:List (Kid h)):=by simp [nd]
  have e2:nd (h+1) (A++x::y::B:List (Kid h))=nd (h+1) ((A++[x])++y::B:List (Kid h)):=by simp [nd]
  rw [e1,e2];exact zhF
 ·rw [ej]
  refine List.nodup_cons.2 ⟨λ e=>np ?_,List.nodup_append.2 ⟨n1,List.nodup_append.2 ⟨List.nodup_cons.2 ⟨λ e=>?_,List.nodup_append.2 ⟨n8,n13,λ a ha b hb=>n6 a (by simp [ha]) b (by simp [hb])⟩⟩,n10,λ a ha b hb=>?_⟩,λ a ha b hb=>?_⟩⟩
  ·simp only [List.mem_append,List.mem_cons] at e ⊢
   rcases e with e|(e|e|e)|e <;> simp [e]
  ·rcases List.mem_append.1 e with e|e
   ·exact n7 e
   ·exact (ney _ e).1 rfl
  ·simp only [List.mem_cons,List.mem_append] at ha
   rcases ha with rfl|ha|ha
   ·exact n6 x.2.1 (by simp) b (by simp [hb])
   ·exact n6 a (by simp [ha]) b (by simp [hb])
   ·exact n11 a (by simp [ha]) b hb
  ·refine n3 a ha b ?_
   simp only [List.mem_cons,List.mem_append] at hb ⊢
   rcases hb with (hb|hb|hb)|hb <;> simp [hb]
 ·have hd:=H.del
  have e1:ents (h+1) (A++(x.1,x.2.1,zaN h x.2.2 y.1 y.2.2)::B:List (Kid h))=ents (h+1) (A++x::y::B:List (Kid h)):=by
   rw [zb4];show _++(ents h (zaN h x.2.2 y.1 y.2.2)++_)=_;rw [zhG];simp [ents]
  rw [e1];exact hd
 ·have f1:=H.frm
  rw [el] at f1
  have f2:=f1.trans (Frm.write _ S1 x.2.1 (nd h (zaN h x.2.2 y.1 y.2.2)) (by simp))
  rw [ej]
  refine f2.trans (Frm.free _ _ _ y.2.1 huy (λ q=>?_) (λ e=>?_))
  ·simp only [List.mem_cons,List.mem_append]
   constructor
   ·rintro (a|a|(a|a)|(a|a)|a) <;> simp [a]
   ·rintro (a|a|a|(a|a|a)|a) <;> simp [a]
  ·simp only [List.mem_cons,List.mem_append] at e
   rcases e with e|e|(e|e|e)|e
   ·exact hpy e.symm
   ·exact (neA _ e).2 rfl
   ·exact hxy e.symm
   ·exact (nex _ e).2 rfl
   ·exact n12 e
   ·exact (neB _ e).2 rfl
end
theorem zkF {d1 d2:Nd} (f:ByteArray) (hk:d1.isLeaf=d2.isLeaf) (hp:0<d2.len):(d1.join f d2).isLeaf=d1.isLeaf/\(d1.join f d2).keys=d1.keys++(if d1.isLeaf then d2.keys else f::d2.keys.tail)/\(d1.join f d2).vals=d1.vals++d2.vals/\(d1.join f d2).kids=d1.kids++d2.kids:=by
 cases d1 with
 | leaf l =>
   cases d2 with
   | leaf r=>simp [Nd.join,Nd.isLeaf,Nd.keys,Nd.vals,Nd.kids]
   | inner r=>cases hk
 | inner l =>
   cases d2 with
   | leaf r=>cases hk
   | inner r =>
     cases r with
     | nil=>simp [Nd.len,Nd.keys] at hp
     | cons z r=>simp [Nd.join,Nd.isLeaf,Nd.keys,Nd.vals,Nd.kids]
theorem Nd.Ok.lens {d:Nd} (h:d.Ok):d.keys.length<=90000/\d.vals.length<=90000/\d.kids.length<=90000:=by
 have:=h.few
 cases d with
 | leaf l=>simp [Nd.len,Nd.keys,Nd.vals,Nd.kids] at *;omega
 | inner l=>simp [Nd.len,Nd.keys,Nd.vals,Nd.kids] at *;omega
theorem zpZ (F1 F2:Nat->Prop) (p q:Nat) (d1 d2:Nd) (f:ByteArray) (w:World) (h1:zc8 w F1 p d1) (h2:zc8 w F2 q d2) (hd:∀ k,F2 k->¬F1 k) (hk:d1.isLeaf=d2.isLeaf) (o1:d1.Ok) (o2:d2.Ok) :
 Calls Tryz.prog 259 #[.pointer (some ⟨p,0,none⟩),.pointer (some ⟨q,0,none⟩),.string f] w λ e w'=>e=.returned (.tuple #[])/\Hid (zo5 w w' F1 p (d1.join f d2)):=by
 obtain ⟨vk,vv,vi,a⟩:=h1
 obtain ⟨vk2,vv2,vi2,b⟩:=h2
 have hb:=b.read.oth
 rw [<-hk] at hb
 refine (zrs p q d1.isLeaf d1.keys d1.vals d1.kids vk vv vi d2.keys d2.vals d2.kids vk2 vv2 vi2 f w a.parts hb (λ k hk=>⟨b.lt k ((b.own k).2 hk),λ e=>hd k ((b.own k).2 hk) ((a.own k).2 e)⟩) o2.pos o1.lens o2.lens).mono ?_
 rintro e w' ⟨rfl,vk',vv',vi',hs⟩
 obtain ⟨e1,e2,e3,e4⟩:=zkF f hk o2.pos
 refine ⟨rfl,?_⟩
 have hs2:NdS w w' F1 p (d1.join f d2).isLeaf (d1.join f d2).keys (d1.join f d2).vals (d1.join f d2).kids vk' vv' vi':=by
  rw [e1,e2,e3,e4]
  exact ⟨hs.nd,λ k hk=>(hs.sub k hk).imp (λ e=>(a.own k).2 e) id,hs.upd.mono λ k _ e=>(a.own k).2 e⟩
 exact hs2.go
def zp0 (base:Nat) (W:World) (p:Nat) (d1:Nd) (q:Nat) (d2:Nd):Prop:=∃ F1 F2,zc8 W F1 p d1/\zc8 W F2 q d2/\(∀ k,F1 k->base<=k)/\(∀ k,F2 k->base<=k)/\∀ k,F2 k->¬F1 k
def zgM (W W':World) (p:Nat) (d:Nd):Prop:=∃ F,zc8 W' F p d/\(∀ k,F k->W.heap.size<=k)/\Below W.heap.size W W'
theorem zo6 {W0 W W' W'':World} {p:Nat} {d1:Nd} {q:Nat} {d2:Nd} (hb:Below W0.heap.size W0 W) (h1:zgM W W' p d1) (h2:zgM W' W'' q d2):zp0 W0.heap.size W'' p d1 q d2/\zp0 W0.heap.size W'' q d2 p d1/\Below W0.heap.size W0 W'':=by
 obtain ⟨F1,a1,b1,c1⟩:=h1
 obtain ⟨F2,a2,b2,c2⟩:=h2
 have a1':=a1.below c2 (zNr _)
 have s1:=hb.size
 have s2:=c1.size
 have hd:∀ k,F2 k->¬F1 k:=λ k e e'=>by have:=a1.lt k e';have:=b2 k e;omega
 have hB:Below W0.heap.size W0 W'':=(hb.trans (c1.mono s1)).trans (c2.mono (Nat.le_trans s1 s2))
 exact ⟨⟨F1,F2,a1',a2,λ k e=>Nat.le_trans s1 (b1 k e),λ k e=>Nat.le_trans (Nat.le_trans s1 s2) (b2 k e),hd⟩,⟨F2,F1,a2,a1',λ k e=>Nat.le_trans (Nat.le_trans s1 s2) (b2 k e),λ k e=>Nat.le_trans s1 (b1 k e),λ k e e'=>hd k e' e⟩,hB⟩
section
variable {w0 W:World} {G0 G:Nat->Prop} {tb rb place n m:Nat} {S:RS}
theorem zcf {h p:Nat} {t:PT h} (hB:zak w0 W G0 G tb rb place n m S) (hm:m<=3999000) (hT:On S h p t) (hf:(nd h t).size<=512) (ho:(nd h t).Ok) :
 Calls Tryz.prog 133 #[.pointer (some ⟨tb,0,none⟩),.int .i64 (p:Int)] W λ e w'=>∃ q,e=.returned (.pointer (some ⟨q,0,none⟩))/\Hid (zgM W w' q (nd h t)):=by
 refine (zek G tb rb place n m S p (nd h t) W hB.room hB.blk (by omega) ho hf hT.top.1 hT.top.2).mono ?_
 rintro e w' ⟨q,rfl,F,a,b,c⟩
 exact ⟨q,rfl,F,a,b,c⟩
theorem zeq (hB:zak w0 W G0 G tb rb place n m S) (hm:m<=3999000) {p:Nat} (hu:S.used p=true) :
 Calls Tryz.prog 132 #[.pointer (some ⟨rb,0,none⟩),.int .i64 (p:Int)] W λ e w'=>e=.returned (.int .i64 0)/\Hid (∃ G',zak w0 w' G0 G' tb rb place n (m+1) (frS S p)/\zdb G G' W w'):=by
 obtain ⟨puts,h1,h2,h3⟩:=hB.room
 refine (zoZ G rb n puts S p W h2 h3 (by omega) hu).mono ?_
 rintro e w' ⟨rfl,hg⟩
 exact ⟨rfl,hB.step (zb1.of_room hg h1)⟩
end
theorem RdN.at {w0 W:World} {G:Nat->Prop} {q:Nat} {l:List (ByteArray × Nat)} (h:RdN w0 W G q (.inner l)) (hp:0<l.length) :
 ∃ g1 o1 c1 g2 o2 c2,W.cell? ⟨q,1,none⟩=some (.slice (some ⟨g1,o1,none⟩) l.length c1)/\W.cell? ⟨q,3,none⟩=some (.slice (some ⟨g2,o2,none⟩) l.length c2)/\∀ i (hi:i<l.length),W.cell? ⟨g1,o1+i,none⟩=some (.string l[i].1)/\W.cell? ⟨g2,o2+i,none⟩=some (.int .i64 (l[i].2:Int)):=by
 obtain ⟨vk,vv,vi,a⟩:=h.view
 obtain ⟨g1,o1,c1,e1,h1,k1⟩:=a.ks.lit (by simpa [Nd.keys] using hp)
 obtain ⟨g2,o2,c2,e2,h2,k2⟩:=a.is.lit (by simpa [Nd.kids] using hp)
 subst e1 e2
 refine ⟨g1,o1,c1,g2,o2,c2,?_,?_,λ i hi=>⟨?_,?_⟩⟩
 ·have:=zaa (i:=1) a.blk rfl
  simpa [Nd.keys] using this
 ·have:=zaa (i:=3) a.blk rfl
  simpa [Nd.kids] using this
 ·have:=k1 i (by simpa [Nd.keys] using hi)
  rw [this];simp [Nd.keys]
 ·have:=k2 i (by simpa [Nd.kids] using hi)
  rw [this];simp [Nd.kids]
def zl3 (w0 w':World) (G0 G:Nat->Prop) (tb rb place n m:Nat) (S1:RS) (q:Nat) {h:Nat} (A B:List (Kid h)) (x y:Kid h) (b:Bool):Prop :=
 if b then (nd h (zaN h x.2.2 y.1 y.2.2)).size<=512/\∃ G',zak w0 w' G0 G' tb rb place n (m+2) (frS (wrS S1 x.2.1 (nd h (zaN h x.2.2 y.1 y.2.2))) y.2.1)/\Nod w0 w' G' q (nd (h+1) (A++(x.1,x.2.1,zaN h x.2.2 y.1 y.2.2)::B:List (Kid h)))
 else zak w0 w' G0 G tb rb place n m S1/\Nod w0 w' G q (nd (h+1) (A++x::y::B:List (Kid h)))
theorem zl4 (h:Nat) (a:PT h) (f:ByteArray) (b:PT h):(nd h (zaN h a f b)).size<=(nd h a).size+(nd h b).size+f.size:=by
 cases h with
 | zero =>
   show (Nd.leaf (a++b)).size<=(Nd.leaf a).size+(Nd.leaf b).size+_
   rw [zaE,zaE,zaE];simp;omega
 | succ h =>
   cases b with
   | nil=>simp [nd,zaN];omega
   | cons z r =>
     simp only [nd,zaN,zaM,List.map_append,List.map_cons,List.sum_append,List.sum_cons,esI]
     omega
theorem Nod.other {w0 W W':World} {G F1:Nat->Prop} {q base:Nat} {d:Nd} (h:Nod w0 W G q d) (hb:Below W.heap.size W W') (hbase:W.heap.size<=base) {W'':World} (hu:Upd F1 W' W'') (hF:∀ k,F1 k->base<=k):Nod w0 W'' G q d:=by
 obtain ⟨F,a,b⟩:=h
 have a':=a.below hb (zNr _)
 exact ⟨F,a'.upd hu λ k hk e=>by have:=a.lt k hk;have:=hF k e;omega,b⟩
theorem zp1 {h:Nat} (A B:List (Kid h)) (x y:Kid h):nd (h+1) (A++x::y::B:List (Kid h))=.inner (A.map (λ x:Kid h=>(x.1,x.2.1))++(x.1,x.2.1)::(y.1,y.2.1)::B.map (λ x:Kid h=>(x.1,x.2.1))):=by simp [nd]
theorem znW (w0 W:World) (G0 G:Nat->Prop) (tb rb place n m:Nat) (S S1:RS) (q:Nat) {h p:Nat} {t:PT (h+1)} {key:ByteArray} (A B:List (Kid h)) (x y:Kid h) (hB:zak w0 W G0 G tb rb place n m S1) (hN:Nod w0 W G q (nd (h+1) (A++x::y::B:List (Kid h)))) (hO:Opn S S1 (h+1) p t key (A++x::y::B:List (Kid h))) (hm:m<=3998000) :
 Calls Tryz.prog 219 #[.pointer (some ⟨tb,0,none⟩),.pointer (some ⟨q,0,none⟩),.int .i64 (A.length:Nat)] W λ e w'=>∃ b:Bool,e=.returned (.bool b)/\Hid (zl3 w0 w' G0 G tb rb place n m S1 q A B x y b):=by
 have hx:=hO.wf.1 x (by simp)
 have hy:=hO.wf.1 y (by simp)
 have okx:(nd h x.2.2).Ok:=hx.2.2.2.2.ok hx.2.2.1 (Nat.le_trans hx.2.2.2.1 (by decide))
 have oky:(nd h y.2.2).Ok:=hy.2.2.2.2.ok hy.2.2.1 (Nat.le_trans hy.2.2.2.1 (by decide))
 have onx:On S1 h x.2.1 x.2.2:=hO.kid x (by simp)
 have ony:On S1 h y.2.1 y.2.2:=hO.kid y (by simp)
 obtain ⟨s1,s2,s3,s4,s5⟩:=za4.1 hO.wf.2.1
 obtain ⟨s6,s7,s8⟩:=zaX.1 hO.wf.2.2
 have HWJ:Hid (Wf h (zaN h x.2.2 y.1 y.2.2)):=Hd (zl2 hx.2.2.2.2 hy.2.2.2.2 hy.1 (s4 y (by simp)) (s8 y (by simp)) hx.2.2.1)
 have HLJ:Hid (0<(nd h (zaN h x.2.2 y.1 y.2.2)).len):=Hd (Nat.lt_of_lt_of_le hx.2.2.1 (zjD h _ _ _))
 have hNr:=hN.rd
 rw [zp1] at hNr
 obtain ⟨g1,o1,c1,g2,o2,c2,k1,k3,kc⟩:=hNr.at (by simp;omega)
 have hlen:(A.map (λ x:Kid h=>(x.1,x.2.1))++(x.1,x.2.1)::(y.1,y.2.1)::B.map (λ x:Kid h=>(x.1,x.2.1))).length=A.length+2+B.length:=by simp;omega
 have kx:=(kc A.length (by rw [hlen];omega)).2
 have ky:=(kc (A.length+1) (by rw [hlen];omega)).2
 have kk:=(kc (A.length+1) (by rw [hlen];omega)).1
 rw [List.getElem_append_right (by simp)] at kx ky kk
 simp only [zLm,Nat.sub_self,List.getElem_cons_zero,Nat.add_sub_cancel_left,List.getElem_cons_succ] at kx ky kk
 rw [hlen] at k1 k3
 have hAl:A.length<=65536:=by
  have h1:=hO.siz
  have h2:=zfp (nd (h+1) (A++x::y::B:List (Kid h)))
  rw [zaq,zLa] at h2;omega
 have RX:Hid (∀ W',Hid (Below W.heap.size W W')->Calls Tryz.prog 133 #[.pointer (some ⟨tb,0,none⟩),.int .i64 (x.2.1:Int)] W' λ e w'=>∃ q1,e=.returned (.pointer (some ⟨q1,0,none⟩))/\(w'.cell? ⟨q,3,none⟩=some (.slice (some ⟨g2,o2,none⟩) (A.length+2+B.length) c2)/\w'.cell? ⟨g2,o2+A.length,none⟩=some (.int .i64 (x.2.1:Int))/\w'.cell? ⟨g2,o2+(A.length+1),none⟩=some (.int .i64 (y.2.1:Int)))/\Hid (Below W.heap.size W w')/\Hid (zgM W' w' q1 (nd h x.2.2))):=Hd λ W' hW=>by
  refine (zcf (hB.below hW.out) (by omega) onx hx.2.2.2.1 okx).mono ?_
  rintro e w' ⟨q1,rfl,ho⟩
  have hb':Below W.heap.size W w':=by obtain ⟨F,a,b,c⟩:=ho.out;exact hW.out.trans (c.mono hW.out.size)
  exact ⟨q1,rfl,⟨(zCb (hb'.block _ (World.block_lt_of_cell? W _ k3))).trans k3,(zCb (hb'.block _ (World.block_lt_of_cell? W _ kx))).trans kx,(zCb (hb'.block _ (World.block_lt_of_cell? W _ ky))).trans ky⟩,hb',ho⟩
 have RY:Hid (∀ W',Hid (Below W.heap.size W W')->Calls Tryz.prog 133 #[.pointer (some ⟨tb,0,none⟩),.int .i64 (y.2.1:Int)] W' λ e w'=>∃ q1,e=.returned (.pointer (some ⟨q1,0,none⟩))/\(w'.cell? ⟨q,3,none⟩=some (.slice (some ⟨g2,o2,none⟩) (A.length+2+B.length) c2)/\w'.cell? ⟨g2,o2+A.length,none⟩=some (.int .i64 (x.2.1:Int))/\w'.cell? ⟨g2,o2+(A.length+1),none⟩=some (.int .i64 (y.2.1:Int)))/\Hid (Below W.heap.size W w')/\Hid (zgM W' w' q1 (nd h y.2.2))):=Hd λ W' hW=>by
  refine (zcf (hB.below hW.out) (by omega) ony hy.2.2.2.1 oky).mono ?_
  rintro e w' ⟨q1,rfl,ho⟩
  have hb':Below W.heap.size W w':=by obtain ⟨F,a,b,c⟩:=ho.out;exact hW.out.trans (c.mono hW.out.size)
  exact ⟨q1,rfl,⟨(zCb (hb'.block _ (World.block_lt_of_cell? W _ k3))).trans k3,(zCb (hb'.block _ (World.block_lt_of_cell? W _ kx))).trans kx,(zCb (hb'.block _ (World.block_lt_of_cell? W _ ky))).trans ky⟩,hb',ho⟩
 have KC:Hid (∀ W',Below W.heap.size W W'->W'.cell? ⟨q,1,none⟩=some (.slice (some ⟨g1,o1,none⟩) (A.length+2+B.length) c1)/\W'.cell? ⟨g1,o1+(A.length+1),none⟩=some (.string y.1)):=Hd λ W' hb'=>⟨(zCb (hb'.block _ (World.block_lt_of_cell? W _ k1))).trans k1,(zCb (hb'.block _ (World.block_lt_of_cell? W _ kk))).trans kk⟩
 have w1:IntKind.i64.wrap ((A.length:Int)+1)=(A.length:Int)+1:=zaz (by omega) (by omega)
 have w2:((A.length:Int)+1).toNat=A.length+1:=by omega
 have w3':(A.length:Int)+1<((A.length+2+B.length:Nat):Int):=by omega
 have w4:(A.length:Int)<((A.length+2+B.length:Nat):Int):=by omega
 have w5:(0:Int)<=(A.length:Int)+1:=by omega
 generalize A.length+2+B.length=N at *
 have HB0:=Hd (zBr W.heap.size W).drew
 have HB:=Hd hB
 have HN:=Hd hN
 have HO:=Hd hO
 have HOX:=Hd okx
 have HOY:=Hd oky
 have HM:=Hd hm
 clear hB hN hO okx oky onx ony s1 s2 s3 s4 s5 s6 s7 s8 hNr kc hlen hx hy hm
 go_enter Tryz.func219,Tryz.ntmps219
 go_wp2_with fail
 go_region_held3 (λ w'=>w'.cell? ⟨q,3,none⟩=some (.slice (some ⟨g2,o2,none⟩) N c2)/\w'.cell? ⟨g2,o2+A.length,none⟩=some (.int .i64 (x.2.1:Int))/\w'.cell? ⟨g2,o2+(A.length+1),none⟩=some (.int .i64 (y.2.1:Int))) (go_keep) ((first
  | (go_at_call 133
     refine Calls.at_args (RX.out _ (by first|exact HBB|exact HB0)) (by with_reducible rfl) ?_
     rintro e w3 ⟨qx,rfl,hkk,HBB,HX⟩)
  | (go_at_call 133
     refine Calls.at_args (RY.out _ (by first|exact HBB|exact HB0)) (by with_reducible rfl) ?_
     rintro e w3 ⟨qy,rfl,hkk,HBB,HY⟩)))
 all_goals (
  have TW:zp0 W.heap.size w3 qx (nd h x.2.2) qy (nd h y.2.2):=by first|exact (zo6 HB0.out HX.out HY.out).1|exact (zo6 HB0.out HY.out HX.out).2.1
  obtain ⟨F1,F2,i1,i2,f1,f2,fd⟩:=TW
  have hF1:∀ k,F1 k->w0.heap.size<=k/\¬G k:=λ k hk=>⟨Nat.le_trans HB.out.up.size (f1 k hk),λ e=>by have:=HB.out.room.lt k e;have:=f1 k hk;omega⟩
  have hjn:=zpZ F1 F2 qx qy _ _ y.1 w3 i1 i2 fd (by cases h <;> rfl) HOX.out HOY.out
  rw [<-zpX] at hjn
  have JN:=Hd hjn
  have HF1:=Hd hF1
  have HFB:=Hd f1
  obtain ⟨kq1,kq2⟩:=KC.out w3 HBB.out
  clear i1 i2 f1 f2 fd hF1 hjn HX HY RX RY hkk kx ky kk k1 k3
  go_wp2_with fail
  refine JN.out.mono ?_
  rintro e w5 ⟨rfl,HG⟩
  have hu5:Upd F1 w3 w5:=by obtain ⟨F',a,b,c⟩:=HG.out;exact c
  have B5:=Hd ((HB.out.below HBB.out).node hu5 HF1.out)
  have N5:=Hd (HN.out.other HBB.out (zNr _) hu5 HFB.out)
  have NX:=Hd (Nod.go (w0:=w0) (G:=G) HF1.out HG.out (HB.out.below HBB.out).room.lt (HB.out.below HBB.out).up.size)
  have hsj:=zl4 h x.2.2 y.1 y.2.2
  have okJ:(nd h (zaN h x.2.2 y.1 y.2.2)).Ok:=HWJ.out.ok HLJ.out (by
   have hx:=HO.out.wf.1 x (by simp)
   have hy:=HO.out.wf.1 y (by simp)
   have:=hx.2.2.2.1;have:=hy.2.2.2.1;have:=hy.1;omega)
  have TS:=Hd (zbH NX.out okJ)
  have OKJ:=Hd okJ
  clear okJ hsj hu5 HG JN HF1 HFB kq1 kq2 KC HBB HWJ HLJ
  go_wp2_with fail
  refine TS.out.mono ?_
  rintro e w6 ⟨rfl,rfl⟩
  clear TS
  have hN5:=N5.out.rd
  rw [zp1] at hN5
  obtain ⟨g1,o1,c1,g2,o2,c2,k1,k3,kc⟩:=hN5.at (by simp;omega)
  have hlen:(A.map (λ x:Kid h=>(x.1,x.2.1))++(x.1,x.2.1)::(y.1,y.2.1)::B.map (λ x:Kid h=>(x.1,x.2.1))).length=A.length+2+B.length:=by simp;omega
  have kx:=(kc A.length (by rw [hlen];omega)).2
  rw [List.getElem_append_right (by simp)] at kx
  simp only [zLm,Nat.sub_self,List.getElem_cons_zero] at kx
  rw [hlen] at k3
  have v4:(A.length:Int)<((A.length+2+B.length:Nat):Int):=by omega
  clear kc hlen k1 hN5
  by_cases hs:(nd h (zaN h x.2.2 y.1 y.2.2)).size<=512
  ·obtain ⟨hux,huy,hxy,hop⟩:=HO.out.join hs
   have hI:¬(((nd h (zaN h x.2.2 y.1 y.2.2)).size:Nat):Int) > 512:=by omega
   have hI2:¬(512:Int)<(((nd h (zaN h x.2.2 y.1 y.2.2)).size:Nat):Int):=by omega
   have TWr:=Hd (zaA B5.out x.2.1 NX.out.rd OKJ.out hs hux (by have:=HM.out;omega))
   have HUY:=Hd huy
   have HS:=Hd hs
   generalize A.length+2+B.length=N5' at *
   clear hux huy hxy hop hs NX OKJ
   go_wp2_with fail
   refine TWr.out.mono ?_
   rintro e w7 ⟨rfl,HW⟩
   obtain ⟨G7,b7,tn7⟩:=HW.out
   have B7:=Hd b7
   have N7:=Hd (N5.out.turn tn7)
   clear hI hI2 TWr HW b7 tn7 N5 B5 k3 kx v4
   obtain ⟨t0,t1⟩:=B7.out.blk.cells
   have hN7:=N7.out.rd
   rw [zp1] at hN7
   obtain ⟨g1,o1,c1,g2,o2,c2,k1,k3,kc⟩:=hN7.at (by simp;omega)
   have hlen:(A.map (λ x:Kid h=>(x.1,x.2.1))++(x.1,x.2.1)::(y.1,y.2.1)::B.map (λ x:Kid h=>(x.1,x.2.1))).length=A.length+2+B.length:=by simp;omega
   have ky:=(kc (A.length+1) (by rw [hlen];omega)).2
   rw [List.getElem_append_right (by simp)] at ky
   simp only [zLm,Nat.add_sub_cancel_left,List.getElem_cons_succ,List.getElem_cons_zero] at ky
   rw [hlen] at k3
   have v3:(A.length:Int)+1<((A.length+2+B.length:Nat):Int):=by omega
   have FREE:Hid (Calls Tryz.prog 132 #[.pointer (some ⟨rb,0,none⟩),.int .i64 (y.2.1:Int)] w7.drew λ e w'=>e=.returned (.int .i64 0)/\(w'.cell? ⟨tb,0,none⟩=some (.pointer (some ⟨rb,0,none⟩))/\w'.cell? ⟨q,3,none⟩=some (.slice (some ⟨g2,o2,none⟩) (A.length+2+B.length) c2)/\w'.cell? ⟨g2,o2+(A.length+1),none⟩=some (.int .i64 (y.2.1:Int)))/\Hid (∃ G',zak w0 w' G0 G' tb rb place n (m+2) (frS (wrS S1 x.2.1 (nd h (zaN h x.2.2 y.1 y.2.2))) y.2.1)/\zdb G7 G' w7 w')):=Hd (by
    have hd:=(zBr w7.heap.size w7).drew
    refine (zeq (B7.out.below hd) (by have:=HM.out;omega) HUY.out).mono ?_
    rintro e w' ⟨rfl,G8,b8,tn8⟩
    have tn:zdb G7 G8 w7 w':=tn8.below_left hd
    refine ⟨rfl,⟨b8.blk.cells.1,?_,?_⟩,G8,b8,tn⟩
    ·obtain ⟨F,⟨vk,vv,vi,a⟩,b⟩:=N7.out
     exact (zCb (tn.upd.block q (zab a.blk) (b q ((a.own q).2 (.inl rfl))).2)).trans k3
    ·obtain ⟨F,⟨vk,vv,vi,a⟩,b⟩:=N7.out
     have e3:=zaa (i:=3) a.blk rfl
     rw [k3] at e3
     have e4:vi.ownBlock=some g2:=by cases e3;rfl
     exact (zCb (tn.upd.block g2 (World.block_lt_of_cell? _ _ ky) (b g2 ((a.own g2).2 (.inr (.inr (.inr e4))))).2)).trans ky)
   generalize A.length+2+B.length=N7' at *
   have MU:=zej
   clear kc hlen k1 hN7
   go_wp2_with fail
   go_region_held3 (λ w'=>w'.cell? ⟨tb,0,none⟩=some (.pointer (some ⟨rb,0,none⟩))/\w'.cell? ⟨q,3,none⟩=some (.slice (some ⟨g2,o2,none⟩) N7' c2)/\w'.cell? ⟨g2,o2+(A.length+1),none⟩=some (.int .i64 (y.2.1:Int))) (go_keep) ((first
    | (go_at_call 132
       refine Calls.at_args FREE.out (by with_reducible rfl) ?_
       rintro e w8 ⟨rfl,hkf,HFR⟩)
    | (go_at_call 131;refine (MU _).mono ?_;rintro e w9 ⟨rfl,rfl⟩)))
   all_goals (
    obtain ⟨G8,b8,tn8⟩:=HFR.out
    have B8:=Hd b8
    have hn8:=N7.out.turn tn8
    rw [show nd (h+1) (A++x::y::B:List (Kid h))=.inner ((A++[x]).map (λ x:Kid h=>(x.1,x.2.1))++(y.1,y.2.1)::B.map (λ x:Kid h=>(x.1,x.2.1))) by simp [nd]] at hn8
    obtain ⟨F8,y1,y2⟩:=hn8
    have RM:=ze8 F8 q ((A++[x]).map (λ x:Kid h=>(x.1,x.2.1))) (B.map (λ x:Kid h=>(x.1,x.2.1))) (y.1,y.2.1) _ y1 (by simp;omega)
    rw [show ((((A++[x]).map (λ x:Kid h=>(x.1,x.2.1))).length:Nat):Int)=(A.length:Int)+1 by simp] at RM
    have RM2:=Hd RM
    have Y2:=Hd y2
    clear y1 y2 b8 tn8 RM HFR FREE N7 B7 hkf t0 t1 k3 ky v3
    go_wp2_with fail
    refine RM2.out.mono ?_
    rintro e w10 ⟨rfl,HG10⟩
    obtain ⟨F10,z1,z2,hu10⟩:=HG10.out
    have B10:=Hd (B8.out.node hu10 Y2.out)
    have N10:=Hd (Nod.go (w0:=w0) (G:=G8) Y2.out HG10.out B8.out.room.lt B8.out.up.size)
    clear RM2 HG10 hu10 z1 z2 Y2 B8
    go_wp2_with fail
    go_ret
    refine ⟨true,rfl,?_⟩
    show Hid (if true=true then _ else _)
    rw [if_pos rfl]
    refine Hd ⟨HS.out,G8,B10.out,?_⟩
    have e10:nd (h+1) (A++(x.1,x.2.1,zaN h x.2.2 y.1 y.2.2)::B:List (Kid h))=.inner ((A++[x]).map (λ x:Kid h=>(x.1,x.2.1))++B.map (λ x:Kid h=>(x.1,x.2.1))):=by simp [nd]
    rw [e10];exact N10.out)
  ·have hI:(((nd h (zaN h x.2.2 y.1 y.2.2)).size:Nat):Int) > 512:=by omega
   have hI2:(512:Int)<(((nd h (zaN h x.2.2 y.1 y.2.2)).size:Nat):Int):=by omega
   clear hs k3 kx v4
   go_wp2_with fail
   go_ret
   refine ⟨false,rfl,?_⟩
   show Hid (if false=true then _ else _)
   rw [if_neg (by simp)]
   exact Hd ⟨B5.out,N5.out⟩)
def zcg (w0 w':World) (G0:Nat->Prop) (tb rb place n m:Nat) (S:RS) (q:Nat) (h p:Nat) (t:PT (h+1)) (key:ByteArray):Prop :=
 ∃ S2 G' u,zak w0 w' G0 G' tb rb place n (m+4) S2/\Nod w0 w' G' q (nd (h+1) u)/\Opn S S2 (h+1) p t key u
theorem RdN.keys {w0 W:World} {G:Nat->Prop} {q:Nat} {d:Nd} (h:RdN w0 W G q d):∃ a c,W.cell? ⟨q,1,none⟩=some (.slice a d.len c):=by
 obtain ⟨vk,vv,vi,a⟩:=h.view
 obtain ⟨x,c,rfl⟩:=a.ks.form
 have:=zaa (i:=1) a.blk rfl
 rw [zLm] at this
 exact ⟨x,c,this⟩
theorem zgN (w0 W:World) (G0 G:Nat->Prop) (tb rb place n m:Nat) (S S1:RS) (q:Nat) {h p:Nat} {t:PT (h+1)} {key:ByteArray} (A B:List (Kid h)) (x y:Kid h) (hB:zak w0 W G0 G tb rb place n m S1) (hN:Nod w0 W G q (nd (h+1) (A++x::y::B:List (Kid h)))) (hO:Opn S S1 (h+1) p t key (A++x::y::B:List (Kid h))) (hm:m<=3998000) (i:Int) (hi:(A.length:Int)=i) :
 Calls Tryz.prog 219 #[.pointer (some ⟨tb,0,none⟩),.pointer (some ⟨q,0,none⟩),.int .i64 i] W λ e w'=>∃ b:Bool,e=.returned (.bool b)/\Hid (if b then zcg w0 w' G0 tb rb place n m S q h p t key else zak w0 w' G0 G tb rb place n m S1/\Nod w0 w' G q (nd (h+1) (A++x::y::B:List (Kid h)))):=by
 subst hi
 refine (znW w0 W G0 G tb rb place n m S S1 q A B x y hB hN hO hm).mono ?_
 rintro e w' ⟨b,rfl,hj⟩
 refine ⟨b,rfl,?_⟩
 have hj2:=hj.out
 unfold zl3 at hj2
 cases b with
 | false=>rw [if_neg (by simp)] at hj2 ⊢;exact hj2
 | true =>
   rw [if_pos rfl] at hj2 ⊢
   obtain ⟨hs,G',b',n'⟩:=hj2
   exact ⟨_,G',_,b'.more (by omega),n',(hO.join hs).2.2.2⟩
theorem zfF {α:Type} (A:List α):A=[]\/∃ A' z,A=A'++[z]:=by
 rcases List.eq_nil_or_concat A with h|⟨B,z,h⟩
 ·exact .inl h
 ·exact .inr ⟨B,z,by rw [h,List.concat_eq_append]⟩
theorem zdw {α:Type} (A:List α) (z x:α) (B:List α):(A++[z])++x::B=A++z::x::B:=by simp
theorem zcg.of {w0 w':World} {G0 G':Nat->Prop} {tb rb place n m:Nat} {S S2:RS} {q h p:Nat} {t u:PT (h+1)} {key:ByteArray} (hB:zak w0 w' G0 G' tb rb place n m S2) (hN:Nod w0 w' G' q (nd (h+1) u)) (hO:Opn S S2 (h+1) p t key u):zcg w0 w' G0 tb rb place n m S q h p t key:=⟨S2,G',u,hB.more (by omega),hN,hO⟩
theorem zl5 (w0 W:World) (G0 G:Nat->Prop) (tb rb place n m:Nat) (S S1:RS) (q qk:Nat) {h p:Nat} {key:ByteArray} (A B:List (Kid h)) (x:Kid h) (t':PT h) (i:Nat) (hi:A.length=i) (hB:zak w0 W G0 G tb rb place n m S1) (hN:Nod w0 W G q (nd (h+1) (A++x::B:List (Kid h)))) (hK:Nod w0 W G qk (nd h t')) (t:PT (h+1)) (htt:t=(A++x::B:List (Kid h))) (hT:Tr S (h+1) p t) (hR:zfa S S1 h x.2.1 x.2.2 key t') (hpos:0<(nd h t').len) (hm:m<=3998000) :
 Calls Tryz.prog 181 #[.pointer (some ⟨tb,0,none⟩),.pointer (some ⟨q,0,none⟩),.int .i64 (i:Int),.pointer (some ⟨qk,0,none⟩)] W λ e w'=>e=.returned (.tuple #[])/\Hid (zcg w0 w' G0 tb rb place n m S q h p t key):=by
 have hO:Opn S S1 (h+1) p t key (A++(x.1,x.2.1,t')::B:List (Kid h)):=by subst htt;exact Opn.kidOne hT hR hpos
 have okk:(nd h t').Ok:=hR.op.wf.ok hpos (Nat.le_trans hR.op.siz (by decide))
 have TS:=Hd (zbH hK okk)
 obtain ⟨ka,kc,k1⟩:=hK.rd.keys
 have hNx:=hN
 rw [show nd (h+1) (A++x::B:List (Kid h))=nd (h+1) (A++(x.1,x.2.1,t')::B:List (Kid h)) by simp [nd]] at hNx
 have hsz:=hR.op.siz
 have hAl:i<=65536:=by
  have h1:=hT.fit
  rw [htt] at h1
  have h2:=zfp (nd (h+1) (A++x::B:List (Kid h)))
  rw [zaq,zLa] at h2;omega
 have k3:∃ a c,W.cell? ⟨q,3,none⟩=some (.slice a (A.length+1+B.length) c):=by
  have:=hN.rd
  rw [zem] at this
  obtain ⟨g1,o1,c1,g2,o2,c2,e1,e3,-⟩:=this.at (by simp;omega)
  refine ⟨some ⟨g2,o2,none⟩,c2,?_⟩
  rw [e3];simp;omega
 obtain ⟨a3,c3,k3⟩:=k3
 have HO:=Hd hO
 have HNX:=Hd hNx
 have HB:=Hd hB
 have HM:=Hd hm
 have HI:=Hd hi
 have hln:¬(((nd h t').len:Nat):Int)=0:=by omega
 have hln2:((((nd h t').len:Nat):Int) == 0)=false:=by simpa using hln
 have hln3:¬(nd h t').len=0:=by omega
 clear hO okk hN hK hT hR hNx hB hm hi hpos htt
 generalize (nd h t').len=kl at *
 go_enter Tryz.func181,Tryz.ntmps181
 go_wp2_with fail
 refine TS.out.mono ?_
 rintro e w1 ⟨rfl,rfl⟩
 clear TS hln hln2 hln3 k1
 by_cases h128:128<=(nd h t').size
 ·have hS1:(128:Int)<=(((nd h t').size:Nat):Int):=by omega
  clear k3
  go_wp2_with fail
  first|go_end0|refine bodyPost_ret (results_none rfl _ _ _) rfl ?_
  exact ⟨rfl,zcg.of HB.out HNX.out HO.out⟩
 ·have hS1:¬(128:Int)<=(((nd h t').size:Nat):Int):=by omega
  have w1x:IntKind.i64.wrap ((i:Int)+1)=(i:Int)+1:=zaz (by omega) (by omega)
  cases B with
  | nil =>
    have hc1:¬((i:Int)+1<((A.length+1+([]:List (Kid h)).length:Nat):Int)):=by have:=HI.out;simp;omega
    generalize A.length+1+([]:List (Kid h)).length=NN at *
    clear h128 hsz
    by_cases hi0:0<i
    ·rcases zfF A with hA0|⟨A',z,hA0⟩
     ·subst hA0;have:=HI.out;simp at this;omega
     ·subst hA0
      have hI1:(0:Int)<(i:Int):=by omega
      have hI2:IntKind.i64.wrap ((i:Int)-1)=(i:Int)-1:=zaz (by omega) (by omega)
      have J2:Hid (Calls Tryz.prog 219 #[.pointer (some ⟨tb,0,none⟩),.pointer (some ⟨q,0,none⟩),.int .i64 ((i:Int)-1)] _ _):=Hd (zgN w0 _ G0 G tb rb place n m S S1 q A' [] z (x.1,x.2.1,t') (HB.out) (by have:=HNX.out;rw [zdw] at this;exact this) (by have:=HO.out;rw [zdw] at this;exact this) HM.out ((i:Int)-1) (by have:=HI.out;simp at this;omega))
      go_wp2_with fail
      refine J2.out.mono ?_
      rintro e w9 ⟨b2,rfl,HJ2⟩
      clear J2 hI1 hI2
      go_wp2_with fail
      first|go_end0|refine bodyPost_ret (results_none rfl _ _ _) rfl ?_
      refine ⟨rfl,?_⟩
      have hj:=HJ2.out
      cases b2 with
      | true =>
        first|rw [if_pos rfl] at hj|rw [if_pos trivial] at hj
        exact hj
      | false =>
        rw [if_neg (by simp)] at hj
        exact zcg.of hj.1 hj.2 (by have:=HO.out;rw [zdw] at this;exact this)
    ·have hI1:¬(0:Int)<(i:Int):=by omega
     go_wp2_with fail
     first|go_end0|refine bodyPost_ret (results_none rfl _ _ _) rfl ?_
     exact ⟨rfl,zcg.of (HB.out) (HNX.out) HO.out⟩
  | cons y B' =>
    have hc1:((i:Int)+1<((A.length+1+(y::B').length:Nat):Int)):=by have:=HI.out;simp;omega
    generalize A.length+1+(y::B').length=NN at *
    have J1:=Hd (zgN w0 w1 G0 G tb rb place n m S S1 q A B' (x.1,x.2.1,t') y HB.out HNX.out HO.out HM.out (i:Int) (by rw [HI.out]))
    clear h128 hsz
    go_wp2_with fail
    refine J1.out.mono ?_
    rintro e w7 ⟨b1,rfl,HJ1⟩
    clear J1
    cases b1 with
    | true =>
      clear k3
      go_wp2_with fail
      first|go_end0|refine bodyPost_ret (results_none rfl _ _ _) rfl ?_
      refine ⟨rfl,?_⟩
      have hj:=HJ1.out
      first|rw [if_pos rfl] at hj|rw [if_pos trivial] at hj
      exact hj
    | false =>
      have hj:=HJ1.out
      rw [if_neg (by simp)] at hj
      have HBJ:=Hd hj.1
      have HNJ:=Hd hj.2
      clear hj HJ1 k3 hc1 HB HNX
      by_cases hi0:0<i
      ·rcases zfF A with hA0|⟨A',z,hA0⟩
       ·subst hA0;have:=HI.out;simp at this;omega
       ·subst hA0
        have hI1:(0:Int)<(i:Int):=by omega
        have hI2:IntKind.i64.wrap ((i:Int)-1)=(i:Int)-1:=zaz (by omega) (by omega)
        have J2:Hid (Calls Tryz.prog 219 #[.pointer (some ⟨tb,0,none⟩),.pointer (some ⟨q,0,none⟩),.int .i64 ((i:Int)-1)] _ _):=Hd (zgN w0 _ G0 G tb rb place n m S S1 q A' (y::B') z (x.1,x.2.1,t') (HBJ.out) (by have:=HNJ.out;rw [zdw] at this;exact this) (by have:=HO.out;rw [zdw] at this;exact this) HM.out ((i:Int)-1) (by have:=HI.out;simp at this;omega))
        go_wp2_with fail
        refine J2.out.mono ?_
        rintro e w9 ⟨b2,rfl,HJ2⟩
        clear J2 hI1 hI2
        go_wp2_with fail
        first|go_end0|refine bodyPost_ret (results_none rfl _ _ _) rfl ?_
        refine ⟨rfl,?_⟩
        have hj:=HJ2.out
        cases b2 with
        | true =>
          first|rw [if_pos rfl] at hj|rw [if_pos trivial] at hj
          exact hj
        | false =>
          rw [if_neg (by simp)] at hj
          exact zcg.of hj.1 hj.2 (by have:=HO.out;rw [zdw] at this;exact this)
      ·have hI1:¬(0:Int)<(i:Int):=by omega
       go_wp2_with fail
       first|go_end0|refine bodyPost_ret (results_none rfl _ _ _) rfl ?_
       exact ⟨rfl,zcg.of (HBJ.out) (HNJ.out) HO.out⟩
theorem zak.trans {w0 W W':World} {G0 G G':Nat->Prop} {tb rb place n m m':Nat} {S S':RS} (a:zak w0 W G0 G tb rb place n m S) (b:zak W W' G G' tb rb place n m' S'):zak w0 W' G0 G' tb rb place n m' S':=by
 have hs:=a.up.size
 refine ⟨b.room,a.up.trans' b.up λ j hj e=>(a.sub j e).resolve_right (by omega),λ k hk=>?_,b.blk,b.gt,a.tl⟩
 rcases b.sub k hk with e|e
 ·exact a.sub k e
 ·exact .inr (by omega)
theorem zak.turn {w0 W:World} {G0 G:Nat->Prop} {tb rb place n m:Nat} {S:RS} (a:zak w0 W G0 G tb rb place n m S):zdb G0 G w0 W:=⟨a.up,a.sub⟩
theorem Nod.base {w0 W W':World} {G:Nat->Prop} {q:Nat} {d:Nd} (h:Nod W W' G q d) (hs:w0.heap.size<=W.heap.size):Nod w0 W' G q d:=by
 obtain ⟨F,a,b⟩:=h;exact ⟨F,a,λ k hk=>⟨Nat.le_trans hs (b k hk).1,(b k hk).2⟩⟩
theorem Opn.written {S S1:RS} {h p:Nat} {t u:PT h} {key:ByteArray} (H:Opn S S1 h p t key u) (hz:0<(nd h u).len):zfa S (wrS S1 p (nd h u)) h p t key u:=by
 have T:=Tr.write H.wf hz H.siz H.kid (by rw [zaF];exact H.nod) H.use
 exact ⟨⟨H.wf,H.siz,T.kids,H.nod,H.use,H.del,H.frm.trans (Frm.write _ _ _ _ (by simp)),λ n c hc=>(H.spr n c hc).write,H.lenD,H.wtD⟩,λ _=>T.on⟩
theorem zl6 (w0 W:World) (G0 G:Nat->Prop) (tb rb place n m:Nat) (S S1:RS) (q qk:Nat) {h p:Nat} {key:ByteArray} (A B:List (Kid h)) (x:Kid h) (t':PT h) (i:Nat) (hi:A.length=i) (hB:zak w0 W G0 G tb rb place n m S1) (hN:Nod w0 W G q (nd (h+1) (A++x::B:List (Kid h)))) (hK:Nod w0 W G qk (nd h t')) (t:PT (h+1)) (htt:t=(A++x::B:List (Kid h))) (hT:Tr S (h+1) p t) (hR:zfa S S1 h x.2.1 x.2.2 key t') (hz:(nd h t').len=0) (hm:m<=3998000) :
 Calls Tryz.prog 181 #[.pointer (some ⟨tb,0,none⟩),.pointer (some ⟨q,0,none⟩),.int .i64 (i:Int),.pointer (some ⟨qk,0,none⟩)] W λ e w'=>e=.returned (.tuple #[])/\Hid (zcg w0 w' G0 tb rb place n m S q h p t key):=by
 have hO:S1.used x.2.1=true/\Opn S (frS S1 x.2.1) (h+1) p t key (A++B:List (Kid h)):=by subst htt;exact Opn.kidNone hT hR hz
 obtain ⟨ka,kc,k1⟩:=hK.rd.keys
 rw [hz] at k1
 obtain ⟨t0,t1⟩:=hB.blk.cells
 have hAl:i<=65536:=by
  have h1:=hT.fit
  rw [htt] at h1
  have h2:=zfp (nd (h+1) (A++x::B:List (Kid h)))
  rw [zaq,zLa] at h2;omega
 have hNx:=hN
 rw [show nd (h+1) (A++x::B:List (Kid h))=.inner (A.map (λ x:Kid h=>(x.1,x.2.1))++(x.1,x.2.1)::B.map (λ x:Kid h=>(x.1,x.2.1))) by simp [nd]] at hNx
 obtain ⟨g3,off,cap3,k3,k2⟩:=zeN hNx.rd
 rw [zLm,zLm] at k3
 rw [zLm] at k2
 have hlt:(i:Int)<((A.length+1+B.length:Nat):Int):=by omega
 rw [hi] at k2
 have FREE:Hid (Calls Tryz.prog 132 #[.pointer (some ⟨rb,0,none⟩),.int .i64 (x.2.1:Int)] W.drew λ e w'=>e=.returned (.int .i64 0)/\(w'.cell? ⟨tb,0,none⟩=some (.pointer (some ⟨rb,0,none⟩))/\w'.cell? ⟨q,3,none⟩=some (.slice (some ⟨g3,off,none⟩) (A.length+1+B.length) cap3)/\w'.cell? ⟨g3,off+i,none⟩=some (.int .i64 (x.2.1:Int)))/\Hid (∃ G',zak w0 w' G0 G' tb rb place n (m+1) (frS S1 x.2.1)/\zdb G G' W w')):=Hd (by
  have hd:=(zBr W.heap.size W).drew
  refine (zeq (hB.below hd) (by omega) hO.1).mono ?_
  rintro e w' ⟨rfl,G8,b8,tn8⟩
  have tn:zdb G G8 W w':=tn8.below_left hd
  refine ⟨rfl,⟨b8.blk.cells.1,?_,?_⟩,G8,b8,tn⟩
  ·obtain ⟨F,⟨vk,vv,vi,a⟩,b⟩:=hN
   exact (zCb (tn.upd.block q (zab a.blk) (b q ((a.own q).2 (.inl rfl))).2)).trans k3
  ·obtain ⟨F,⟨vk,vv,vi,a⟩,b⟩:=hN
   have e3:=zaa (i:=3) a.blk rfl
   rw [k3] at e3
   have e4:vi.ownBlock=some g3:=by cases e3;rfl
   exact (zCb (tn.upd.block g3 (World.block_lt_of_cell? _ _ k2) (b g3 ((a.own g3).2 (.inr (.inr (.inr e4))))).2)).trans k2)
 have HO:=Hd hO.2
 have HNX:=Hd hNx
 have HB:=Hd hB
 have HI:=Hd hi
 have MU:=zej
 generalize A.length+1+B.length=NN at *
 clear hO hN hNx hB hi hT hR hz hK htt hm
 go_enter Tryz.func181,Tryz.ntmps181
 go_wp2_with fail
 go_region_held3 (λ w'=>w'.cell? ⟨tb,0,none⟩=some (.pointer (some ⟨rb,0,none⟩))/\w'.cell? ⟨q,3,none⟩=some (.slice (some ⟨g3,off,none⟩) NN cap3)/\w'.cell? ⟨g3,off+i,none⟩=some (.int .i64 (x.2.1:Int))) (go_keep) ((first
  | (go_at_call 132
     refine Calls.at_args FREE.out (by with_reducible rfl) ?_
     rintro e w8 ⟨rfl,hkf,HFR⟩)
  | (go_at_call 131;refine (MU _).mono ?_;rintro e w9 ⟨rfl,rfl⟩)))
 all_goals (
  obtain ⟨G8,b8,tn8⟩:=HFR.out
  have B8:=Hd b8
  have hn8:=HNX.out.turn tn8
  obtain ⟨F8,y1,y2⟩:=hn8
  have RM:=ze8 F8 q (A.map (λ x:Kid h=>(x.1,x.2.1))) (B.map (λ x:Kid h=>(x.1,x.2.1))) (x.1,x.2.1) _ y1 (by have:=HI.out;simp;omega)
  rw [zLm,HI.out] at RM
  have RM2:=Hd RM
  have Y2:=Hd y2
  clear y1 y2 b8 tn8 RM HFR FREE hkf t0 t1 k3 k2 hlt k1
  go_wp2_with fail
  refine RM2.out.mono ?_
  rintro e w10 ⟨rfl,HG10⟩
  obtain ⟨F10,z1,z2,hu10⟩:=HG10.out
  have B10:=Hd (B8.out.node hu10 Y2.out)
  have N10:=Hd (Nod.go (w0:=w0) (G:=G8) Y2.out HG10.out B8.out.room.lt B8.out.up.size)
  clear RM2 HG10 hu10 z1 z2 Y2 B8
  go_wp2_with fail
  first|go_end0|refine bodyPost_ret (results_none rfl _ _ _) rfl ?_
  exact ⟨rfl,_,_,(A++B:List (Kid h)),B10.out.more (by omega),(by rw [zpW];exact N10.out),HO.out⟩)
theorem zrB (w0 W:World) (G0 G:Nat->Prop) (tb rb place n m:Nat) (S S1:RS) (q qk:Nat) {h p:Nat} {key:ByteArray} (A B:List (Kid h)) (x:Kid h) (t':PT h) (hB:zak w0 W G0 G tb rb place n m S1) (hN:Nod w0 W G q (nd (h+1) (A++x::B:List (Kid h)))) (hK:Nod w0 W G qk (nd h t')) (hT:Tr S (h+1) p (A++x::B:List (Kid h))) (hR:zfa S S1 h x.2.1 x.2.2 key t') (hm:m<=3998000) :
 Calls Tryz.prog 181 #[.pointer (some ⟨tb,0,none⟩),.pointer (some ⟨q,0,none⟩),.int .i64 (A.length:Nat),.pointer (some ⟨qk,0,none⟩)] W λ e w'=>e=.returned (.tuple #[])/\Hid (zcg w0 w' G0 tb rb place n m S q h p (A++x::B:List (Kid h)) key):=by
 by_cases hz:0<(nd h t').len
 ·exact zl5 w0 W G0 G tb rb place n m S S1 q qk A B x t' A.length rfl hB hN hK _ rfl hT hR hz hm
 ·exact zl6 w0 W G0 G tb rb place n m S S1 q qk A B x t' A.length rfl hB hN hK _ rfl hT hR (by omega) hm
def zhH (w w':World) (G:Nat->Prop) (tb rb place n m m':Nat) (S:RS) (h p:Nat) (t:PT h) (key:ByteArray) (q:Nat) (was:Bool):Prop :=
 if was then ∃ S' G' u,zak w w' G G' tb rb place n m' S'/\Nod w w' G' q (nd h u)/\zfa S S' h p t key u
 else zak w w' G G tb rb place n m S/\∀ e∈ents h t,e.1≠key
theorem zjE:∀ (h:Nat) (G:Nat->Prop) (tb rb place n m:Nat) (S:RS) (p:Nat) (t:PT h) (key:ByteArray) (deep:Nat) (w:World) (_:RmS w G rb n m S) (_:TB w tb rb place) (_:¬G tb) (_:Tr S h p t) (_:deep+h<=20) (_:m+8*(h+1)<=3998000),
 Calls Tryz.prog 130 #[.pointer (some ⟨tb,0,none⟩),.int .i64 (p:Int),.string key,.int .i64 (deep:Int)] w λ e w'=>∃ (was:Bool) (q:Nat),e=.returned (.tuple #[.bool was,.pointer (some ⟨q,0,none⟩)])/\Hid (zhH w w' G tb rb place n m (m+8*(h+1)) S h p t key q was)
 | 0,G,tb,rb,place,n,m,S,p,t,key,deep,w,h,ht,hg,hT,hdp,hm=>by
   have hnot:∀ (x:Bool) (w:World),(Op.unary .not (.bool x)).run Tryz.prog w=.ok (.bool (!x)) w:=λ _ _=>rfl
   have RD:=Hd (zek G tb rb place n m S p (nd 0 t) w h ht (by omega) hT.ok hT.fit hT.on.top.1 hT.on.top.2)
   have B0:=Hd (zak.start h ht hg)
   have HM1:Hid (m<=3999000):=Hd (by omega)
   have HM2:Hid (m+1<=m+8*(0+1)):=Hd (by omega)
   have HM3:Hid (m<=m+8*(0+1)):=Hd (by omega)
   have HG:=Hd h.lt
   have hd1:¬(20:Int)<(deep:Int):=by omega
   obtain ⟨A,B,rfl,hA,hB,hor⟩:=zcP t key hT.wf.srt
   have HT:=Hd hT
   have HL:Hid ((Nd.leaf (A++B)).len<=1000000):=Hd (Nat.le_of_lt (Nat.lt_trans hT.ok.few (by decide)))
   have HPOS:Hid (0<(Nd.leaf (A++B)).len):=Hd hT.pos
   have HA:=Hd hA
   have HB:=Hd hB
   have hAl:A.length<=65536:=by have:=hT.ok.few;rw [zaP,zLa] at this;omega
   clear h ht hg hT hm hA hB hdp
   rcases hor with ⟨v,B',rfl,hB'⟩|hB'
   ·have OP:=Hd (Opn.leaf HT.out)
    clear hB'
    go_enter Tryz.func130,Tryz.ntmps130
    go_wp2_with fail
    refine RD.out.mono ?_
    rintro e w1 ⟨q,rfl,HQ⟩
    obtain ⟨F,x1,x2,x3⟩:=HQ.out
    have N1:=Hd (Nod.start (w0:=w) (G:=G) x1 x2 HG.out)
    have B1:=Hd (B0.out.below x3)
    obtain ⟨vk,vv,vi,hv1⟩:=N1.out.rd.view
    have c0:w1.cell? ⟨q,0,none⟩=some (.bool true):=zaa hv1.blk rfl
    have FD:=Hd (zdh true q (.leaf (A++(key,v)::B')) vk vv vi (A.map Prod.fst) (key::B'.map Prod.fst) key w1 hv1 (by simp [Nd.keys]) HPOS.out HL.out (λ a ha=>by obtain ⟨e,he,rfl⟩:=List.mem_map.1 ha;exact HA.out e he) (λ b hb=>by
     rcases List.mem_cons.1 hb with rfl|hb
     ·exact zal _
     ·obtain ⟨e,he,rfl⟩:=List.mem_map.1 hb;exact HB.out e (by simp [he])) ⟨λ _=>⟨_,rfl⟩,λ _=>rfl⟩)
    rw [zLm] at FD
    clear x1 x2 x3 HQ hv1 RD B0
    go_wp2_with fail
    refine FD.out.mono ?_
    rintro e w2 ⟨rfl,qn,rfl⟩
    have N2:=N1.out.below (zar w1 qn)
    have B2:=B1.out.below (zar w1 qn)
    generalize w1.drewN qn=w2 at *
    obtain ⟨F2,y1,y2⟩:=N2
    have RM:=Hd (ziC F2 q A B' (key,v) w2 y1 (by omega))
    have Y2:=Hd y2
    have B2':=Hd B2
    clear y1 y2 B2 N1 B1 FD c0
    go_wp2_with fail
    refine RM.out.mono ?_
    rintro e w3 ⟨rfl,HI⟩
    have NT:Hid (Nod w w3 G q (nd 0 (A++B'))):=Hd (Nod.go Y2.out HI.out B2'.out.room.lt B2'.out.up.size)
    have BT:=Hd (B2'.out.node (by obtain ⟨F',a,b,c⟩:=HI.out;exact c) Y2.out)
    clear RM Y2 B2' HI
    obtain ⟨ka,kc,k1⟩:=NT.out.rd.keys
    by_cases hz:0<(nd 0 (A++B')).len
    ·have hI:(0:Int)<(((nd 0 (A++B')).len:Nat):Int):=by omega
     have okU:(nd 0 (A++B')).Ok:=OP.out.wf.ok hz (Nat.le_trans OP.out.siz (by decide))
     have TW:=Hd (zaA BT.out p NT.out.rd okU OP.out.siz OP.out.use HM1.out)
     have HZ:=Hd hz
     clear hz okU
     go_wp2_with fail
     refine TW.out.mono ?_
     rintro e w8 ⟨rfl,HW⟩
     obtain ⟨G8,b8,tn8⟩:=HW.out
     have HB8:=Hd (b8.more HM2.out)
     have HN8:=Hd (NT.out.turn tn8)
     clear TW HW b8 tn8 k1 hI
     go_wp2_with fail
     go_ret2
     refine ⟨true,q,rfl,?_⟩
     show Hid (if true=true then _ else _)
     rw [if_pos rfl]
     exact Hd ⟨_,G8,_,HB8.out,HN8.out,OP.out.written HZ.out⟩
    ·have hI:¬(0:Int)<(((nd 0 (A++B')).len:Nat):Int):=by omega
     have HZ:=Hd hz
     clear hz
     go_wp2_with fail
     go_ret2
     refine ⟨true,q,rfl,?_⟩
     show Hid (if true=true then _ else _)
     rw [if_pos rfl]
     exact Hd ⟨_,_,_,BT.out.more HM3.out,NT.out,OP.out,λ h=>absurd h HZ.out⟩
   ·have HB2:=Hd hB'
    clear hB'
    go_enter Tryz.func130,Tryz.ntmps130
    go_wp2_with fail
    refine RD.out.mono ?_
    rintro e w1 ⟨q,rfl,HQ⟩
    obtain ⟨F,x1,x2,x3⟩:=HQ.out
    have N1:=Hd (Nod.start (w0:=w) (G:=G) x1 x2 HG.out)
    have B1:=Hd (B0.out.below x3)
    obtain ⟨vk,vv,vi,hv1⟩:=N1.out.rd.view
    have c0:w1.cell? ⟨q,0,none⟩=some (.bool true):=zaa hv1.blk rfl
    have FD:=Hd (zdh false q (.leaf (A++B)) vk vv vi (A.map Prod.fst) (B.map Prod.fst) key w1 hv1 (by simp [Nd.keys]) HPOS.out HL.out (λ a ha=>by obtain ⟨e,he,rfl⟩:=List.mem_map.1 ha;exact HA.out e he) (λ b hb=>by obtain ⟨e,he,rfl⟩:=List.mem_map.1 hb;exact HB.out e he) ⟨(λ e=>by cases e),(λ ⟨B',e⟩=>by
     have hm:key∈B.map Prod.fst:=by rw [e];simp
     obtain ⟨e',he,he2⟩:=List.mem_map.1 hm
     have:=HB2.out e' he
     rw [he2,zal] at this;cases this)⟩)
    rw [zLm] at FD
    clear x1 x2 x3 HQ hv1 RD B0
    go_wp2_with fail
    refine FD.out.mono ?_
    rintro e w2 ⟨rfl,qn,rfl⟩
    have B2:=Hd (B1.out.below (zar w1 qn))
    generalize w1.drewN qn=w2 at *
    clear N1 B1 FD c0
    go_wp2_with fail
    go_ret2
    refine ⟨false,q,rfl,?_⟩
    show Hid (if false=true then _ else _)
    rw [if_neg (by simp)]
    refine Hd ⟨B2.out,λ e he=>?_⟩
    rcases List.mem_append.1 (show e∈A++B from he) with he|he
    ·exact zaW (HA.out e he)
    ·exact λ e'=>zaW (HB2.out e he) e'.symm
 | hh+1,G,tb,rb,place,n,m,S,p,t,key,deep,w,h,ht,hg,hT,hdp,hm=>by
   have hnot:∀ (x:Bool) (w:World),(Op.unary .not (.bool x)).run Tryz.prog w=.ok (.bool (!x)) w:=λ _ _=>rfl
   have RD:=Hd (zek G tb rb place n m S p (nd (hh+1) t) w h ht (by omega) hT.ok hT.fit hT.on.top.1 hT.on.top.2)
   have B0:=Hd (zak.start h ht hg)
   have HM1:Hid (m+8*(hh+1)+4<=3999000):=Hd (by omega)
   have HM2:Hid (m+8*(hh+1)+4+1<=m+8*(hh+1+1)):=Hd (by omega)
   have HM3:Hid (m+8*(hh+1)+4<=m+8*(hh+1+1)):=Hd (by omega)
   have HM4:Hid (m+8*(hh+1)<=3998000):=Hd (by omega)
   have HG:=Hd h.lt
   have hd1:¬(20:Int)<(deep:Int):=by omega
   have hd2:deep<=20:=by omega
   have hlenO:=hT.ok.few
   have hpos:=hT.pos
   rw [zaq] at hpos
   obtain ⟨A,x,B,rfl,hW,hA⟩:=zcA t key (hT.wf.2.keys λ x hx=>zbG (hT.wf.1 x hx).2.2.2.2 (hT.wf.1 x hx).2.2.1) hpos
   have hk:=hT.kid (x:=x) (by simp)
   have IH:Hid (∀ W G2,zak w W G G2 tb rb place n m S->Calls Tryz.prog 130 #[.pointer (some ⟨tb,0,none⟩),.int .i64 (x.2.1:Int),.string key,.int .i64 ((deep:Int)+1)] W λ e w'=>∃ (was:Bool) (q:Nat),e=.returned (.tuple #[.bool was,.pointer (some ⟨q,0,none⟩)])/\Hid (zhH W w' G2 tb rb place n m (m+8*(hh+1)) S hh x.2.1 x.2.2 key q was)):=Hd λ W G2 hB=>by
    have:=zjE hh G2 tb rb place n m S x.2.1 x.2.2 key (deep+1) W hB.room hB.blk hB.gt hk (by omega) (by omega)
    rw [show ((deep+1:Nat):Int)=(deep:Int)+1 by omega] at this
    exact this
   have HT:=Hd hT
   have HW:=Hd hW
   have HA:=Hd hA
   have HLEN:=Hd hlenO
   clear h ht hg hT hm hW hA hdp hk hpos hlenO
   go_enter Tryz.func130,Tryz.ntmps130
   go_wp2_with fail
   refine RD.out.mono ?_
   rintro e w1 ⟨q,rfl,HQ⟩
   obtain ⟨F,x1,x2,x3⟩:=HQ.out
   have N1:=Hd (Nod.start (w0:=w) (G:=G) x1 x2 HG.out)
   have B1:=Hd (B0.out.below x3)
   obtain ⟨vk,vv,vi,hv1⟩:=N1.out.rd.view
   have c0:w1.cell? ⟨q,0,none⟩=some (.bool false):=zaa hv1.blk rfl
   have WN:=Hd (zgg N1.out.rd (Nat.le_of_lt (Nat.lt_trans HLEN.out (by decide))) HW.out HA.out)
   clear x1 x2 x3 HQ hv1 RD B0
   go_wp2_with fail
   refine WN.out.mono ?_
   rintro e w2 ⟨rfl,hb⟩
   have N2:=Hd (N1.out.below hb.out)
   have B2:=Hd (B1.out.below hb.out)
   have hN2:=N2.out.rd
   rw [show nd (hh+1) (A++x::B:List (Kid hh))=.inner (A.map (λ x:Kid hh=>(x.1,x.2.1))++(x.1,x.2.1)::B.map (λ x:Kid hh=>(x.1,x.2.1))) by simp [nd]] at hN2
   obtain ⟨g3,off,cap3,k1,k2⟩:=zeN hN2
   rw [zLm,zLm] at k1
   rw [zLm] at k2
   have hlt:(A.length:Int)<((A.length+1+B.length:Nat):Int):=by omega
   have hlA:A.length<=65536:=by have:=HLEN.out;rw [zaq,zLa,zLc] at this;omega
   have IH2:=Hd (IH.out w2 G B2.out)
   clear hN2 IH N1 B1 WN c0 hb
   go_wp2_with fail
   refine IH2.out.mono ?_
   rintro e w3 ⟨was,qk,rfl,HP⟩
   clear IH2 k1 k2
   cases was with
   | false =>
     have hif:=HP.out
     unfold zhH at hif
     rw [if_neg (by simp)] at hif
     have HB3:=Hd (B2.out.trans hif.1)
     have HNO:=Hd hif.2
     clear hif HP
     go_wp2_with fail
     go_ret2
     refine ⟨false,q,rfl,?_⟩
     show Hid (if false=true then _ else _)
     rw [if_neg (by simp)]
     refine Hd ⟨HB3.out,λ e he=>?_⟩
     obtain ⟨w1,w2⟩:=HT.out.wf.2.way HW.out
     rw [zb4] at he
     rcases List.mem_append.1 he with he|he
     ·obtain ⟨y,hy,he⟩:=(zbq hh A e).1 he
      exact zaW (w1 y hy e he)
     ·rcases List.mem_append.1 he with he|he
      ·exact HNO.out e he
      ·obtain ⟨y,hy,he⟩:=(zbq hh B e).1 he
       exact λ e'=>zaW (w2 y hy e he) e'.symm
   | true =>
     have hif:=HP.out
     unfold zhH at hif
     rw [if_pos rfl] at hif
     obtain ⟨S3,G3,u3,b3,n3,r3⟩:=hif
     have TD:=Hd (zrB w w3 G G3 tb rb place n (m+8*(hh+1)) S S3 q qk A B x u3 (B2.out.trans b3) (N2.out.turn b3.turn) (n3.base B2.out.up.size) HT.out r3 HM4.out)
     clear b3 n3 r3 HP N2 B2
     go_wp2_with fail
     refine TD.out.mono ?_
     rintro e w4 ⟨rfl,HTD⟩
     obtain ⟨S4,G4,u4,b4,n4,o4⟩:=HTD.out
     have BT:=Hd b4
     have NT:=Hd n4
     have OP:=Hd o4
     clear TD HTD b4 n4 o4
     obtain ⟨ka,kc,k1⟩:=NT.out.rd.keys
     by_cases hz:0<(nd (hh+1) u4).len
     ·have hI:(0:Int)<(((nd (hh+1) u4).len:Nat):Int):=by omega
      have okU:(nd (hh+1) u4).Ok:=OP.out.wf.ok hz (Nat.le_trans OP.out.siz (by decide))
      have TW:=Hd (zaA BT.out p NT.out.rd okU OP.out.siz OP.out.use HM1.out)
      have HZ:=Hd hz
      clear hz okU
      go_wp2_with fail
      refine TW.out.mono ?_
      rintro e w8 ⟨rfl,HW⟩
      obtain ⟨G8,b8,tn8⟩:=HW.out
      have HB8:=Hd (b8.more HM2.out)
      have HN8:=Hd (NT.out.turn tn8)
      clear TW HW b8 tn8 k1 hI
      go_wp2_with fail
      go_ret2
      refine ⟨true,q,rfl,?_⟩
      show Hid (if true=true then _ else _)
      rw [if_pos rfl]
      exact Hd ⟨_,G8,_,HB8.out,HN8.out,OP.out.written HZ.out⟩
     ·have hI:¬(0:Int)<(((nd (hh+1) u4).len:Nat):Int):=by omega
      have HZ:=Hd hz
      clear hz
      go_wp2_with fail
      go_ret2
      refine ⟨true,q,rfl,?_⟩
      show Hid (if true=true then _ else _)
      rw [if_pos rfl]
      exact Hd ⟨_,_,_,BT.out.more HM3.out,NT.out,OP.out,λ h=>absurd h HZ.out⟩
theorem zld.then {place:Nat} {P P1 P2:List Nat} {S S1 S2:RS} (a:zld place P P1 S S1) (b:Frm P1 P2 S1 S2):zld place P P2 S S2:=by
 refine ⟨λ q h u=>?_,λ q u=>?_,λ k hk=>(congrFun b.root k).trans (a.root k hk),b.base.trans a.base⟩
 ·obtain ⟨h1,u1,c1⟩:=a.keep q h u
  obtain ⟨h2,u2,c2⟩:=b.keep q h1 u1
  exact ⟨h2,u2,c2.trans c1⟩
 ·rcases b.back q u with h|⟨u1,h1⟩
  ·exact .inl h
  ·rcases a.back q u1 with h|h
   ·exact absurd h h1
   ·exact .inr h
theorem zld.root' {place:Nat} {P P1:List Nat} {S S1:RS} (a:zld place P P1 S S1) (v:Nat):zld place P P1 S (zay S1 place v) :=
 ⟨a.keep,a.back,λ k hk=>by show upd S1.root place v k=_;unfold upd;rw [if_neg hk];exact a.root k hk,a.base⟩
structure zdl (place n cr wr:Nat) (S S':RS) (P:List Nat) (E:List (ByteArray × ByteArray)) (h p:Nat) (u:PT h):Prop where
 wf:Wf h u
 siz:(nd h u).size<=512
 kid:zdc S' h u
 nod:(p::low h u).Nodup
 use:S'.used p=true
 cont:0<(nd h u).len->S'.cont p=pad (ofL (nd h u).bytes)
 root:S'.root place=p+1
 frm:zld place P (p::low h u) S S'
 ents:ents h u=E
 spr:∀ c,zaR S n c->zaR S' n c
 crd:4*h+6<=cr+1\/(1<=h/\4*h+min 6 (nd h u).len<=cr)
 crp:5<=cr
 wtl:wt h u<=wr
theorem zdl.start {place n:Nat} {S S':RS} {h p:Nat} {t u:PT h} {key:ByteArray} (H:zfa S S' h p t key u) (hr:S.root place=p+1) (hp:0<(nd h t).len):zdl place n (crO (some ⟨h,p,t⟩)) (wtO (some ⟨h,p,t⟩)) S S' (pgs h p t) (Go.Proofs.YtdcjhpafipbpkaaGreatDoor.ents h u) h p u :=
 ⟨H.op.wf,H.op.siz,H.op.kid,H.op.nod,H.op.use,λ hz=>(H.on hz).top.2,by rw [H.op.frm.root];exact hr,H.op.frm.toT' place,rfl,H.op.spr n,by
  have:=H.op.lenD
  show 4*h+6<=(if h=0 then 6 else 4*h+min 6 (nd h t).len)+1\/(1<=h/\4*h+min 6 (nd h u).len<=(if h=0 then 6 else 4*h+min 6 (nd h t).len))
  by_cases h0:h=0
  ·left;rw [if_pos h0];omega
  ·right;rw [if_neg h0];omega,by
  show 5<=(if h=0 then 6 else 4*h+min 6 (nd h t).len)
  split <;> omega,H.op.wtD⟩
theorem zdl.none {place n:Nat} {S S':RS} {o:Option TT} {E:List (ByteArray × ByteArray)} {h p:Nat} {u:PT h} {cr wr:Nat} (H:zdl place n cr wr S S' (zd4 o) E h p u) (hz:(nd h u).len=0):zkE place n S (zay (frS S' p) place 0) o Option.none/\E=[]:=by
 refine ⟨⟨zdv _ _ _,?_⟩,by rw [<-H.ents];exact zjC hz⟩
 have hl:=ziG hz
 have f:=H.frm
 rw [hl] at f
 exact (f.then (Frm.free [p] [] S' p H.use (λ q=>by simp) (by simp))).root' 0
theorem zdl.done {place n:Nat} {S S':RS} {o:Option TT} {E:List (ByteArray × ByteArray)} {h p:Nat} {u:PT h} {cr wr:Nat} (H:zdl place n cr wr S S' (zd4 o) E h p u) (hz:0<(nd h u).len):zkE place n S S' o (some ⟨h,p,u⟩)/\crO (some ⟨h,p,u⟩)<=cr+1:=by
 refine ⟨⟨⟨H.root,H.wf,hz,H.siz,ze9.2 ⟨⟨H.use,H.cont hz⟩,H.kid⟩,by rw [zaF];exact H.nod⟩,?_⟩,?_⟩
 ·show zld place (zd4 o) (pgs h p u) S S'
  rw [zaF];exact H.frm
 ·show (if h=0 then 6 else 4*h+min 6 (nd h u).len)<=cr+1
  rcases H.crd with e|e <;> split <;> omega
theorem zdl.down {place n:Nat} {S S':RS} {P:List Nat} {E:List (ByteArray × ByteArray)} {h p:Nat} {x:Kid h} {cr wr:Nat} (H:zdl place n cr wr S S' P E (h+1) p ([x]:List (Kid h))):S'.used x.2.1=true/\x.2.1<65536/\zdl place n cr wr S (zay (frS S' p) place (x.2.1+1)) P E h x.2.1 x.2.2:=by
 have hx:=H.wf.1 x (by simp)
 have ox:On S' h x.2.1 x.2.2:=H.kid x (by simp)
 have hl:low (h+1) ([x]:List (Kid h))=x.2.1::low h x.2.2:=by
  rw [<-zaF];simp [low]
 have hn:=H.nod
 rw [hl] at hn
 obtain ⟨n1,n2⟩:=List.nodup_cons.1 hn
 have keep:∀ q∈x.2.1::low h x.2.2,(zay (frS S' p) place (x.2.1+1)).used q=S'.used q/\(zay (frS S' p) place (x.2.1+1)).cont q=S'.cont q:=λ q hq=>by
  refine ⟨?_,rfl⟩
  show zbn S'.used p q=_
  unfold zbn;rw [if_neg (λ e:q=p=>n1 (by rw [<-e];exact hq))]
 have ox':On (zay (frS S' p) place (x.2.1+1)) h x.2.1 x.2.2:=ox.frame λ q hq=>keep q (by rw [<-zaF];exact hq)
 refine ⟨ox.top.1,hx.2.1,hx.2.2.2.2,hx.2.2.2.1,(ze9.1 ox').2,n2,ox'.top.1,λ _=>ox'.top.2,zdv _ _ _,?_,by rw [<-H.ents];simp [Go.Proofs.YtdcjhpafipbpkaaGreatDoor.ents],λ c hc=>(H.spr c hc).freeS H.use,by
  have e1:(nd (h+1) ([x]:List (Kid h))).len=1:=by rw [zaq];rfl
  have:=H.crd
  rw [e1] at this
  left;omega,H.crp,by
  have:=H.wtl
  rw [zdU] at this
  have h2:=Nat.le_max_right (2 ^ h) (wt h x.2.2)
  omega⟩
 have f:=H.frm
 rw [hl] at f
 exact (f.then (Frm.free _ (x.2.1::low h x.2.2) S' p H.use (λ q=>by simp) n1)).root' _
def zp2 (place n:Nat) (S S':RS) (o o':Option TT) (key:ByteArray):Prop :=
 zkE place n S S' o o'/\Del key (zbh o) (zbh o')/\zeP o'<=zeP o/\(∀ c,zaR S n c->zaR S' n c)/\crO o'<=crO o+1/\wtO o'<=wtO o
def zcD (w w':World) (G:Nat->Prop) (rb n m place:Nat) (S:RS) (o:Option TT) (key:ByteArray) (was:Bool):Prop :=
 if was then ∃ S' o',zb1 w w' G rb n (m+300) S'/\zp2 place n S S' o o' key else zb1 w w' G rb n (m+300) S/\∀ e∈zbh o,e.1≠key
structure zch (W:World) (b tb:Nat) (x:Bool):Prop where
 b0:W.heap[b]?=some (.cells #[.pointer (some ⟨tb,0,none⟩)] 103 (0,0))
 b1:W.heap[b+1]?=some (.cells #[.bool x] 4 (0,0))
 b2:W.heap[b+1+1]?=some (.cells #[.int .i64 0] 34 (0,0))
theorem zch.upd {W W':World} {b tb:Nat} {x:Bool} {G:Nat->Prop} (h:zch W b tb x) (hu:Upd G W W') (hn:∀ k,b<=k->k<b+4->¬G k):zch W' b tb x :=
 ⟨hu.at h.b0 (hn _ (by omega) (by omega)),hu.at h.b1 (hn _ (by omega) (by omega)),hu.at h.b2 (hn _ (by omega) (by omega))⟩
theorem zch.below {W W':World} {b tb:Nat} {x:Bool} (h:zch W b tb x) (hb:Below W.heap.size W W'):zch W' b tb x:=h.upd (hb.upd' (zNr _)) (λ _ _ _ e=>e)
theorem zch.cells {W:World} {b tb:Nat} {x:Bool} (h:zch W b tb x):W.cell? ⟨b,0,none⟩=some (.pointer (some ⟨tb,0,none⟩))/\W.cell? ⟨b+1,0,none⟩=some (.bool x)/\W.cell? ⟨b+1+1,0,none⟩=some (.int .i64 0)/\W.frozen? ⟨b+1,0,none⟩=false/\W.frozen? ⟨b+1+1,0,none⟩=false/\b<W.heap.size :=
 ⟨zaa h.b0 rfl,zaa h.b1 rfl,zaa h.b2 rfl,zad h.b1 0,zad h.b2 0,zab h.b0⟩
theorem zch.setW {W:World} {b tb:Nat} {x:Bool} (h:zch W b tb x) (y:Bool):zch (W.setCell ⟨b+1,0,none⟩ (.bool y)) b tb y :=
 ⟨(zae _ (by omega)).trans h.b0,zac h.b1 _,(zae _ (by omega)).trans h.b2⟩
theorem zch.setE {W:World} {b tb:Nat} {x:Bool} (h:zch W b tb x):zch (W.setCell ⟨b+1+1,0,none⟩ (.int .i64 0)) b tb x :=
 ⟨(zae _ (by omega)).trans h.b0,(zae _ (by omega)).trans h.b1,zac h.b2 _⟩
def ziH (w:World) (tb:Nat) (k:Int):World:=(((w.alloc (.cells #[.pointer (some ⟨tb,0,none⟩)] 103)).alloc (.cells #[.bool false] 4)).alloc (.cells #[.int .i64 0] 34)).alloc (.cells #[.int .i64 k] 3)
theorem zdx (w:World) (tb:Nat) (k:Int):Below w.heap.size w (ziH w tb k):=((((zBr w.heap.size w).alloc (zNr _) _).alloc (by simp) _).alloc (by simp;omega) _).alloc (by simp;omega) _
theorem zhI (w:World) (tb:Nat) (k:Int):(ziH w tb k).heap.size=w.heap.size+4:=by unfold ziH;simp
theorem zjF (w:World) (tb:Nat) (k:Int):zch (ziH w tb k) w.heap.size tb false:=by
 refine ⟨?_,?_,?_⟩
 ·unfold ziH;rw [zam,if_neg (by simp;omega),zam,if_neg (by simp;omega),zam,if_neg (by simp),heap_alloc_new]
 ·unfold ziH;rw [zam,if_neg (by first|(simp;done)|(simp;omega)),zam,if_neg (by first|(simp;done)|(simp;omega)),zam,if_pos (by simp)]
 ·unfold ziH;rw [zam,if_neg (by simp),zam,if_pos (by simp)]
structure StG (w W:World) (G G':Nat->Prop) (rb n m:Nat) (S:RS):Prop where
 room:RmS W G' rb n m S
 up:Upd G w W
 sub:∀ k,G' k->G k\/w.heap.size<=k
theorem StG.go {w W:World} {G G':Nat->Prop} {rb n m:Nat} {S:RS} (h:StG w W G G' rb n m S):zb1 w W G rb n m S:=⟨G',h.room,h.up,h.sub⟩
theorem StG.of {w W0 W:World} {G G':Nat->Prop} {tb rb place n m:Nat} {S:RS} (h:zak W0 W G G' tb rb place n m S) (hb:Below w.heap.size w W0):StG w W G G' rb n m S:=by
 refine ⟨h.room,((hb.upd' (zNr _)).mono (S':=G) λ _ _ e=>False.elim e).trans h.up,λ k hk=>?_⟩
 rcases h.sub k hk with e|e
 ·exact .inl e
 ·have:=hb.size;exact .inr (by omega)
theorem StG.loc {w W:World} {G G':Nat->Prop} {rb n m:Nat} {S:RS} (h:StG w W G G' rb n m S) {x:Nat} (hx:w.heap.size<=x) (hn:¬G' x) (i:Nat) (v:Value):StG w (W.setCell ⟨x,i,none⟩ v) G G' rb n m S:=by
 have hu:Upd (λ k=>k=x) W (W.setCell ⟨x,i,none⟩ v):=Upd.setCell (S:=λ k=>k=x) (Upd.refl _ _) (p:=⟨x,i,none⟩) (.inl rfl) v
 exact ⟨h.room.frame hu λ k hk e=>hn (e ▸ hk),h.up.trans' hu λ j hj e=>absurd e (by omega),h.sub⟩
theorem StG.then {w W W':World} {G G' G'':Nat->Prop} {tb rb place n m m':Nat} {S S':RS} (h:StG w W G G' rb n m S) (b:zak W W' G' G'' tb rb place n m' S'):StG w W' G G'' rb n m' S':=by
 have hs:=h.up.size
 refine ⟨b.room,h.up.trans' b.up λ j hj e=>(h.sub j e).resolve_right (by omega),λ k hk=>?_⟩
 rcases b.sub k hk with e|e
 ·exact h.sub k e
 ·exact .inr (by omega)
theorem StG.more {w W:World} {G G':Nat->Prop} {rb n m m':Nat} {S:RS} (h:StG w W G G' rb n m S) (hm:m<=m'):StG w W G G' rb n m' S:=⟨h.room.more hm,h.up,h.sub⟩
theorem RdN.loc {w0 W:World} {G:Nat->Prop} {q:Nat} {d:Nd} (h:RdN w0 W G q d) {x:Nat} (hx:x<w0.heap.size) (i:Nat) (v:Value):RdN w0 (W.setCell ⟨x,i,none⟩ v) G q d:=by
 obtain ⟨F,a,b⟩:=h
 exact ⟨F,a.upd (S:=λ k=>k=x) (Upd.setCell (S:=λ k=>k=x) (Upd.refl _ _) (p:=⟨x,i,none⟩) (.inl rfl) v) λ k hk _ e=>by have:=(b k hk).1;omega,b⟩
end Go.Proofs.YtdcjhpafipbpkaaGreatDoor
