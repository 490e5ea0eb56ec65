/- Parts of the proof of ChunksRuns,joined: TreeO,TreeS,TreeT,TreeU,TreeV,TreeW,TreeX,TreeY. No condition. -/
import Derived.Test.YtdcjhpafipbpkaaGreatDoorCx5
import Derived.Defers
import Derived.Recover
set_option linter.unusedSimpArgs false
set_option linter.unusedVariables false
set_option linter.unusedSectionVars false
namespace Go.Proofs.YtdcjhpafipbpkaaGreatDoor
set_option maxRecDepth 100000
set_option maxHeartbeats 1000000
open Go.RowKit
def RdIn (w:World) (p:Nat) (d:Nd) (F:Nat -> Prop):Prop:=∃ vk vv vi,NdV w p d vk vv vi /\ ∀ k,NdF p vk vv vi k -> k < w.heap.size /\ F k
theorem RdIn.upd {w W:World} {p:Nat} {d:Nd} {F S:Nat -> Prop} (h:RdIn w p d F) (hu:Upd S w W) (hn:∀ k,F k -> k < w.heap.size -> ¬ S k):RdIn W p d F:=by
 obtain ⟨vk,vv,vi,a,b⟩:=h
 have c:=a.oth.upd hu fun k hk=>⟨(b k hk).1,hn k (b k hk).2 (b k hk).1⟩
 exact ⟨vk,vv,vi,⟨c.blk,c.ks,c.vs,c.is⟩,fun k hk=>⟨Nat.lt_of_lt_of_le (b k hk).1 hu.size,(b k hk).2⟩⟩
theorem wrap_small {x:Int} (h0:0 <= x) (h1:x < 9223372036854775808):IntKind.i64.wrap x=x:=by
 simp only [IntKind.wrap,IntKind.bits,IntKind.signed]; simp; omega
theorem wrap_half {a b i n:Nat} (h1:b <= 154) (h2:a <= 3 + 154 * i) (h3:i < n) (h4:n <= 65536):wrap64 ((a:Int) + (3 + (b:Int) - 3))=((a + b:Nat):Int):=by
 rw [show ((a:Int) + (3 + (b:Int) - 3))=((a + b:Nat):Int) by omega]
 unfold wrap64; omega
theorem szUp_one (leaf:Bool) (K V:List ByteArray) (i:Nat):szUp leaf [K.getD i ByteArray.empty] [V.getD i ByteArray.empty] 1=3 + esz leaf K V i:=by
 cases leaf <;> simp [szUp,esz]
theorem RRow.drop {w:World} {g off n cap i:Nat} {xs:List Value} (h:RRow w (.slice (some ⟨g,off,none⟩) n cap) xs) (hl:xs.length=n) (hi:i < n):RRow w (.slice (some ⟨g,off + i,none⟩) (n - i) (cap - i)) (xs.drop i):=by
 obtain ⟨g',off',cap',e,hc,hx⟩:=h.lit (by omega)
 simp only [Value.slice.injEq,Option.some.injEq,Addr.mk.injEq,and_true] at e
 obtain ⟨⟨rfl,rfl⟩,-,rfl⟩:=e
 refine .inr ⟨g,off + i,cap - i,by rw [List.length_drop,hl],by rw [List.length_drop]; omega,fun j hj=>?_⟩
 rw [List.length_drop] at hj
 have:=hx (i + j) (by omega)
 rw [List.getElem_drop,Nat.add_assoc]; exact this
theorem RRow.one {w:World} {g off n cap i:Nat} {xs:List Value} (h:RRow w (.slice (some ⟨g,off,none⟩) n cap) xs) (hl:xs.length=n) (hi:i < n):RRow w (.slice (some ⟨g,off + i,none⟩) 1 (cap - i)) [xs[i]'(by omega)]:=by
 obtain ⟨g',off',cap',e,hc,hx⟩:=h.lit (by omega)
 simp only [Value.slice.injEq,Option.some.injEq,Addr.mk.injEq,and_true] at e
 obtain ⟨⟨rfl,rfl⟩,-,rfl⟩:=e
 refine .inr ⟨g,off + i,cap - i,rfl,by simp; omega,fun j hj=>?_⟩
 have:j=0:=by simpa using hj
 subst this
 exact hx i (by omega)
theorem RRow.take {w:World} {g off n cap i:Nat} {xs:List Value} (h:RRow w (.slice (some ⟨g,off,none⟩) n cap) xs) (hl:xs.length=n) (hi:i < n):RRow w (.slice (some ⟨g,off,none⟩) i i) (xs.take i):=by
 obtain ⟨g',off',cap',e,hc,hx⟩:=h.lit (by omega)
 simp only [Value.slice.injEq,Option.some.injEq,Addr.mk.injEq,and_true] at e
 obtain ⟨⟨rfl,rfl⟩,-,rfl⟩:=e
 have e:(xs.take i).length=i:=by rw [List.length_take]; omega
 refine .inr ⟨g,off,i,by rw [e],by rw [e]; exact Nat.le_refl _,fun j hj=>?_⟩
 rw [e] at hj
 rw [List.getElem_take]; exact hx j (by omega)
structure Spl (w W:World) (p q:Nat) (leaf:Bool) (a1 a2 a3:Value) (K V:List ByteArray) (C:List Nat) (b1 b2 b3:Value):Prop where
 up:Upd (fun k=>k=p) w W
 pl:p < w.heap.size
 bp:W.heap[p]?=some (.cells #[.bool leaf,a1,a2,a3] 222 (0,0))
 rq:NdP W q leaf K V C b1 b2 b3
 nw:∀ k,NdF q b1 b2 b3 k -> w.heap.size <= k
section
variable {w W W':World} {p q:Nat} {leaf:Bool} {a1 a2 a3:Value} {K V:List ByteArray} {C:List Nat} {b1 b2 b3:Value}
theorem NdP.upd (h:NdP W q leaf K V C b1 b2 b3) {S:Nat -> Prop} (hu:Upd S W W') (hn:∀ k,NdF q b1 b2 b3 k -> ¬ S k):NdP W' q leaf K V C b1 b2 b3:=by
 have hk:∀ k,NdF q b1 b2 b3 k -> W'.heap[k]?=W.heap[k]?:=fun k e=>hu.block k (h.lt k e) (hn k e)
 exact ⟨(hk q (.inl rfl)).trans h.blk,ownsRow_of h.ks fun k e=>hk k (.inr (.inl e)),ownsRow_of h.vs fun k e=>hk k (.inr (.inr (.inl e))),ownsRow_of h.is fun k e=>hk k (.inr (.inr (.inr e))),h.pk,h.pv,h.pi,h.kv,h.ki,h.vi'⟩
theorem Spl.setP (h:Spl w W p q leaf a1 a2 a3 K V C b1 b2 b3) (i:Nat) (x:Value) (y1 y2 y3:Value) (hy:(#[Value.bool leaf,a1,a2,a3]:Array Value).setIfInBounds i x=#[Value.bool leaf,y1,y2,y3]):Spl w (W.setCell ⟨p,i,none⟩ x) p q leaf y1 y2 y3 K V C b1 b2 b3:=by
 refine ⟨h.up.setCell (p:=⟨p,i,none⟩) (.inl rfl) x,h.pl,by rw [heap_set_lit h.bp x,hy],h.rq.upd (S:=fun k=>k=p) (Upd.setCell (S:=fun k=>k=p) (Upd.refl _ _) (p:=⟨p,i,none⟩) (.inl rfl) x) fun k hk e=>?_,h.nw⟩
 have:=h.nw k hk; have:=h.pl; omega
theorem Spl.below (h:Spl w W p q leaf a1 a2 a3 K V C b1 b2 b3) (hb:Below W.heap.size W W'):Spl w W' p q leaf a1 a2 a3 K V C b1 b2 b3 :=
 ⟨h.up.trans' (hb.upd' (Nat.le_refl _)) (fun _ _ e=>False.elim e),h.pl,(hb.block p (lt_of_heap h.bp)).trans h.bp,h.rq.below hb,h.nw⟩
theorem Spl.setV (h:Spl w W p q leaf a1 a2 a3 K [] C b1 (.slice none 0 0) b3) {v':Value} {V':List ByteArray} (hb:Below W.heap.size W W') (ho:W'.ownsRow W.heap.size 9 1 v' V'.length (V'.map Value.string)):Spl w (W'.setCell ⟨q,2,none⟩ v') p q leaf a1 a2 a3 K V' C b1 v' b3:=by
 obtain ⟨x,y,z⟩:=h.rq.setV (hb.upd' (Nat.le_refl _) |>.mono fun _ _ e=>False.elim e) (ownsRow_mono ho (Nat.zero_le _)) (fun k hk=>.inr (ho.lt k hk).1)
 refine ⟨h.up.trans' y fun j hj e=>?_,h.pl,?_,x,fun k hk=>?_⟩
 ·have:=h.nw j e; omega
 ·have hne:p ≠ q:=fun e=>by have:=h.nw q (.inl rfl); have:=h.pl; omega
  rw [heap_set_ne v' hne]
  exact (hb.block p (lt_of_heap h.bp)).trans h.bp
 ·rcases z k hk with e | e
  ·exact h.nw k e
  ·have:=h.up.size; omega
theorem Spl.setI (h:Spl w W p q leaf a1 a2 a3 K V [] b1 b2 (.slice none 0 0)) {v':Value} {C':List Nat} (hb:Below W.heap.size W W') (ho:W'.ownsRow W.heap.size 3 1 v' C'.length (C'.map encN)):Spl w (W'.setCell ⟨q,3,none⟩ v') p q leaf a1 a2 a3 K V C' b1 b2 v':=by
 obtain ⟨x,y,z⟩:=h.rq.setI (hb.upd' (Nat.le_refl _) |>.mono fun _ _ e=>False.elim e) (ownsRow_mono ho (Nat.zero_le _)) (fun k hk=>.inr (ho.lt k hk).1)
 refine ⟨h.up.trans' y fun j hj e=>?_,h.pl,?_,x,fun k hk=>?_⟩
 ·have:=h.nw j e; omega
 ·have hne:p ≠ q:=fun e=>by have:=h.nw q (.inl rfl); have:=h.pl; omega
  rw [heap_set_ne v' hne]
  exact (hb.block p (lt_of_heap h.bp)).trans h.bp
 ·rcases z k hk with e | e
  ·exact h.nw k e
  ·have:=h.up.size; omega
theorem Spl.start (hb:Below w.heap.size w W) (hp:w.heap[p]?=some (.cells #[.bool leaf,a1,a2,a3] 222 (0,0))) (ho:W.ownsRow w.heap.size 9 1 b1 K.length (K.map Value.string)):Spl w (W.alloc (.cells #[.bool leaf,b1,.slice none 0 0,.slice none 0 0] 222)) p W.heap.size leaf a1 a2 a3 K [] [] b1 (.slice none 0 0) (.slice none 0 0):=by
 have hb':=hb.alloc hb.size (.cells #[.bool leaf,b1,.slice none 0 0,.slice none 0 0] 222)
 refine ⟨(hb'.upd' (Nat.le_refl _)).mono fun _ _ e=>False.elim e,lt_of_heap hp,(hb'.block p (lt_of_heap hp)).trans hp,⟨heap_alloc_new _ _,(ownsRow_mono ho (Nat.zero_le _)).alloc _,World.ownsRow_nil _ _ _ _,World.ownsRow_nil _ _ _ _,fun e=>by have:=(ho.lt _ e).2; omega,by simp [Value.ownBlock],by simp [Value.ownBlock],by simp [Value.ownBlock],by simp [Value.ownBlock],by simp [Value.ownBlock]⟩,fun k hk=>?_⟩
 rcases hk with e | e | e | e
 ·rw [e]; exact hb.size
 ·exact (ho.lt k e).1
 ·simp [Value.ownBlock] at e
 ·simp [Value.ownBlock] at e
theorem Spl.cells (h:Spl w W p q leaf a1 a2 a3 K V C b1 b2 b3):W.cell? ⟨p,0,none⟩=some (.bool leaf) /\ W.cell? ⟨p,1,none⟩=some a1 /\ W.cell? ⟨p,2,none⟩=some a2 /\ W.cell? ⟨p,3,none⟩=some a3 /\ (∀ i,W.frozen? ⟨p,i,none⟩=false) /\ p < W.heap.size /\ W.cell? ⟨q,2,none⟩=some b2 /\ W.cell? ⟨q,3,none⟩=some b3 /\ (∀ i,W.frozen? ⟨q,i,none⟩=false) /\ q < W.heap.size /\ ¬ p=q /\ ¬ q=p :=
 ⟨cell_lit h.bp rfl,cell_lit h.bp rfl,cell_lit h.bp rfl,cell_lit h.bp rfl,fun i=>frozen_lit h.bp i,lt_of_heap h.bp,cell_lit h.rq.blk rfl,cell_lit h.rq.blk rfl,fun i=>frozen_lit h.rq.blk i,lt_of_heap h.rq.blk,fun e=>by have:=h.nw q (.inl rfl); have:=h.pl; omega,fun e=>by have:=h.nw q (.inl rfl); have:=h.pl; omega⟩
end
theorem clone_i {w:World} {v:Value} {K:List Nat} (h:RRow w v (K.map encN)) (hp:0 < K.length) (hl:K.length <= 90000) :
 Calls Tryz.prog 216 #[v] w fun e w'=>∃ g cap,e=.returned (.slice (some ⟨g,0,none⟩) K.length cap) /\ Hid (w'.ownsRow w.heap.size 3 1 (.slice (some ⟨g,0,none⟩) K.length cap) K.length (K.map encN) /\ Below w.heap.size w w'):=by
 obtain ⟨g,off,cap,rfl,hcap,hc⟩:=h.lit (by simpa using hp)
 rw [List.length_map]
 have e:∀ L:List Nat,(L.map fun c:Nat=>(c:Int)).map (Value.int .i64)=L.map encN:=fun L=>by rw [List.map_map]; rfl
 refine (Tryz.slices_Clone_int g off K.length cap (K.map fun c:Nat=>(c:Int)) w (by simp) (by omega) fun j hj=>?_).mono ?_
 ·have hj':j < K.length:=by simpa using hj
  rw [hc j (by simpa using hj'),getD_at _ _ hj]; simp [encN]
 ·rintro e' w' ⟨v',rfl,ho,hne,hb⟩
  rw [List.take_of_length_le (by simp),e] at ho
  rcases ho.2 with ⟨rfl,-⟩ | ⟨g',cap',cur,rfl,-⟩
  ·exact absurd rfl hne
  ·exact ⟨g',cap',rfl,ho,hb⟩
theorem split_leaf (p:Nat) (K:List ByteArray) (V:List ByteArray) (vk vv vi:Value) (w:World) (h:NdP w p true K V [] vk vv vi) (hv:V.length=K.length) (hK:∀ k ∈ K,k.size <= 96) (hV:∀ v ∈ V,v.size <= 56) (hn:K.length <= 65536)
 (hcut:∀ i,i <= K.length -> szUp true K V K.length / 2 <= szUp true K V i -> (0 < i -> szUp true K V (i - 1) < szUp true K V K.length / 2) -> 0 < i /\ i < K.length) (hp:0 < K.length) :
 Calls Tryz.prog 179 #[.pointer (some ⟨p,0,none⟩)] w fun e w'=>∃ q,e=.returned (.pointer (some ⟨q,0,none⟩)) /\ Hid (∃ i g cap g2 cap2 b1 b2 b3,0 < i /\ i < K.length /\ szUp true K V K.length / 2 <= szUp true K V i /\ szUp true K V (i - 1) < szUp true K V K.length / 2 /\ vk=.slice (some ⟨g,0,none⟩) K.length cap /\ vv=.slice (some ⟨g2,0,none⟩) K.length cap2 /\
  Spl w w' p q true (.slice (some ⟨g,0,none⟩) i i) (.slice (some ⟨g2,0,none⟩) i i) vi (K.drop i) (V.drop i) [] b1 b2 b3):=by
 have hr:=h.ks
 have hr2:=h.vs
 have hgp:vk.ownBlock ≠ some p:=h.pk
 have hgp2:vv.ownBlock ≠ some p:=h.pv
 rcases hr.2 with ⟨rfl,h0⟩ | ⟨g,cap,cur0,rfl,-⟩
 ·omega
 rcases hr2.2 with ⟨rfl,h0⟩ | ⟨g2,cap2,cur2,rfl,-⟩
 ·omega
 rw [hv] at h hr2
 obtain ⟨c0,c1,c2,c3,cf,cl⟩:=h.cells
 have hcap:K.length <= cap:=by obtain ⟨cur,g1,g2,g3,-⟩:=row_lit hr; exact g3
 have hcap2:K.length <= cap2:=by obtain ⟨cur,g1,g2,g3,-⟩:=row_lit hr2; exact g3
 have SZ:Hid (∀ W,Below w.heap.size w W -> Calls Tryz.prog 178 #[.pointer (some ⟨p,0,none⟩)] W fun e w'=>e=.returned (.int .i64 (szUp true K V K.length:Nat)) /\ w'=W):=Hd fun W hW=>by
  have h':=h.below hW
  exact size_c p true K V _ _ _ (0,0) W h'.blk (.of_own h'.ks) hp (fun _=>⟨by have:=h'.vs; rw [<- hv] at this; have:=RRow.of_own this; rw [hv] at this; exact this,hv⟩) hK hV hn
 have hgB:Hid (g < w.heap.size /\ ¬ g=p):=Hd ⟨(hr.lt g rfl).2,fun e=>hgp (by rw [<- e]; rfl)⟩
 have hgB2:Hid (g2 < w.heap.size /\ ¬ g2=p):=Hd ⟨(hr2.lt g2 rfl).2,fun e=>hgp2 (by rw [<- e]; rfl)⟩
 have RK:Hid (∀ W,Upd (fun k=>k=p) w W -> RRow W (.slice (some ⟨g,0,none⟩) K.length cap) (K.map Value.string)):=Hd fun W hW=>(RRow.of_own hr).kept fun k e=>by
  simp [Value.ownBlock] at e; subst e; exact hW.block _ hgB.out.1 hgB.out.2
 have RX:Hid (∀ W,Upd (fun k=>k=p) w W -> RRow W (.slice (some ⟨g2,0,none⟩) K.length cap2) (V.map Value.string)):=Hd fun W hW=>(RRow.of_own hr2).kept fun k e=>by
  simp [Value.ownBlock] at e; subst e; exact hW.block _ hgB2.out.1 hgB2.out.2
 have SZ1:Hid (∀ W b i,i < K.length -> Below w.heap.size w W -> W.heap[b]?=some (.cells #[.bool true,.slice (some ⟨g,i,none⟩) 1 (cap - i),.slice (some ⟨g2,i,none⟩) 1 (cap2 - i),.slice none 0 0] 222 (0,0)) -> Calls Tryz.prog 178 #[.pointer (some ⟨b,0,none⟩)] W fun e w'=>e=.returned (.int .i64 ((3 + esz true K V i:Nat):Int)) /\ w'=W):=Hd fun W b i hi hW hb=>by
  have hU:Upd (fun k=>k=p) w W:=(hW.upd' (Nat.le_refl _)).mono fun _ _ e=>False.elim e
  have r1:=(RK.out W hU).one (i:=i) (by simp) hi
  have r2:=(RX.out W hU).one (i:=i) (by simp [hv]) hi
  rw [Nat.zero_add] at r1 r2
  have e:=szUp_one true K V i
  rw [<- e]
  refine size_c b true [K.getD i ByteArray.empty] [V.getD i ByteArray.empty] _ _ _ (0,0) W hb ?_ (by simp) ?_ ?_ ?_ (by simp)
  ·rw [getD_at _ _ hi]; simpa using r1
  ·intro _
   have hi':i < V.length:=by omega
   rw [getD_at _ _ hi']; exact ⟨by simpa using r2,rfl⟩
  ·intro k hk; simp at hk; rw [hk]; have:=hK _ (List.getElem_mem hi); simpa [hi] using this
  ·have hi':i < V.length:=by omega
   intro k hk; simp at hk; rw [hk]; have:=hV _ (List.getElem_mem hi'); simpa [hi'] using this
 have CK:Hid (∀ W i,0 < i -> i < K.length -> Upd (fun k=>k=p) w W -> Calls Tryz.prog 215 #[.slice (some ⟨g,i,none⟩) (K.length - i) (cap - i)] W fun e w'=>∃ g' cap',e=.returned (.slice (some ⟨g',0,none⟩) (K.length - i) cap') /\ Hid (w'.ownsRow W.heap.size 9 1 (.slice (some ⟨g',0,none⟩) (K.length - i) cap') (K.drop i).length ((K.drop i).map Value.string) /\ Below W.heap.size W w')):=Hd fun W i h0 hi hU=>by
  have r1:=(RK.out W hU).drop (i:=i) (by simp) hi
  rw [Nat.zero_add,<- List.map_drop] at r1
  have:=clone_s r1 (by rw [List.length_drop]; omega) (by rw [List.length_drop]; omega)
  rw [List.length_drop] at this ⊢
  exact this
 have CX:Hid (∀ W i,0 < i -> i < K.length -> Upd (fun k=>k=p) w W -> Calls Tryz.prog 215 #[.slice (some ⟨g2,i,none⟩) (K.length - i) (cap2 - i)] W fun e w'=>∃ g' cap',e=.returned (.slice (some ⟨g',0,none⟩) (K.length - i) cap') /\ Hid (w'.ownsRow W.heap.size 9 1 (.slice (some ⟨g',0,none⟩) (K.length - i) cap') (V.drop i).length ((V.drop i).map Value.string) /\ Below W.heap.size W w')):=Hd fun W i h0 hi hU=>by
  have r1:=(RX.out W hU).drop (i:=i) (by simp [hv]) hi
  rw [Nat.zero_add,<- List.map_drop] at r1
  have:=clone_s r1 (by rw [List.length_drop]; omega) (by rw [List.length_drop]; omega)
  rw [List.length_drop,hv] at this
  rw [List.length_drop,hv]
  exact this
 have hsz:=Hd (szUp_le true K V hK hV)
 have hes:=Hd (esz_le true K V hK hV)
 have HH:=Hd h
 have HP:=Hd h.blk
 have HCUT:=Hd hcut
 have HN:=Hd hn
 have HVL:=Hd hv
 have hstep:Hid (∀ i,szUp true K V (i + 1)=szUp true K V i + esz true K V i):=Hd fun i=>rfl
 clear h hr hr2 hcut hK hV hgp hgp2 hv
 go_enter Tryz.func179,Tryz.ntmps179
 go_wp2_with fail
 go_loopg [3,4] K.length (fun gg s3 s4 wr=>∃ i:Nat,gg=K.length - i /\ i <= K.length /\ s3=.int .i64 (szUp true K V i:Nat) /\ s4=.int .i64 (i:Int) /\ Hid (0 < i -> szUp true K V (i - 1) < szUp true K V K.length / 2) /\ Hid (Below w.heap.size w wr))
 case atStart=>exact ⟨0,rfl,Nat.zero_le _,rfl,rfl,Hd fun e=>absurd e (by omega),Hd (Below.refl _ _)⟩
 case round =>
  obtain ⟨i,rfl,hi,rfl,rfl,hf,HB⟩:=hrel
  have S1:=Hd (SZ.out wr HB.out)
  have e1:=hes.out i
  have e2:=hsz.out i
  have e3:=hsz.out K.length
  have e4:=hstep.out i
  obtain ⟨d0,d1,d2,d3,df,dl⟩:=(HH.out.below HB.out).cells
  clear c0 c1 c2 c3 cf cl
  by_cases hlt:szUp true K V i < szUp true K V K.length / 2
  ·have hik:i < K.length:=by
    by_cases h:i < K.length
    ·exact h
    ·obtain rfl:i=K.length:=by omega
     omega
   go_wp2_with (go_at_call 178; refine S1.out.mono ?_; rintro e W1 ⟨rfl,rfl⟩)
   have w1:IntKind.i64.wrap ((i:Int) + 1)=(i:Int) + 1:=wrap_small (by omega) (by omega)
   have w2:((0:Int) <= (i:Int) + 1)=True:=by simp <;> omega
   have w3:((i:Int) + 1 <= (cap:Int))=True:=by simp <;> omega
   have w4:((i:Int) < (cap:Int))=True:=by simp <;> omega
   have w5:(i <= ((i:Int) + 1).toNat)=True:=by simp <;> omega
   have w6:(cap=i)=False:=by simp <;> omega
   have w7:((i:Int) + 1).toNat - i=1:=by omega
   have w8:((i:Int) + 1 <= (cap2:Int))=True:=by simp <;> omega
   have w9:((i:Int) < (cap2:Int))=True:=by simp <;> omega
   have w10:(cap2=i)=False:=by simp <;> omega
   have SZ2:=Hd (fun W b=>SZ1.out W b i hik)
   have HF:=Hd hlt
   have HI:=Hd hik
   have E1:=Hd e1
   have E2:=Hd e2
   have E4:=Hd e4
   clear e1 e2 e3 e4 hi hlt hik hp df hcap hcap2 hn hf SZ1
   go_region_held3 (fun w'=>w'.cell? ⟨p,0,none⟩=some (.bool true) /\ w'.cell? ⟨p,1,none⟩=some (.slice (some ⟨g,0,none⟩) K.length cap)) (go_keep) (fail)
   all_goals (
    have HB1:=Hd ((HB.out.alloc HB.out.size (.cells #[.bool true,.slice (some ⟨g,i,none⟩) 1 (cap - i),.slice none 0 0,.slice none 0 0] 222)).drew)
    have hone:Hid (((W1.alloc (.cells #[.bool true,.slice (some ⟨g,i,none⟩) 1 (cap - i),.slice none 0 0,.slice none 0 0] 222)).drew).heap[W1.heap.size]?=some (.cells #[.bool true,.slice (some ⟨g,i,none⟩) 1 (cap - i),.slice none 0 0,.slice none 0 0] 222 (0,0))):=Hd (heap_alloc_new _ _)
    have hbs:=Hd HB.out.size
    generalize ((W1.alloc (.cells #[.bool true,.slice (some ⟨g,i,none⟩) 1 (cap - i),.slice none 0 0,.slice none 0 0] 222)).drew)=W2 at *
    obtain ⟨x0,x1,x2,x3,xf,xl⟩:=(HH.out.below HB1.out).cells
    have y2:=cell_lit (i:=2) hone.out rfl
    have yf:=frozen_lit hone.out 2
    clear xf d0 d1 d2 d3
    have HB3:=Hd (HB1.out.setCell (p:=⟨W1.heap.size,2,none⟩) hbs.out (.slice (some ⟨g2,i,none⟩) 1 (cap2 - i)))
    have SZ3:=Hd (SZ2.out _ _ HB3.out (heap_set_lit hone.out _))
    have E1':=E1.out
    have E2':=E2.out
    go_wp2_with (go_at_call 178; refine SZ3.out.mono ?_; rintro e W5 ⟨rfl,rfl⟩)
    go_roundg (K.length - (i + 1)))
   all_goals (first
    | (case measure=>have:=HI.out; omega)
    | (case rel=>exact ⟨i + 1,rfl,HI.out,by rw [E4.out]; congr 1; exact wrap_half E1.out E2.out HI.out HN.out,rfl,Hd fun _=>HF.out,HB3⟩))
  ·have hle:szUp true K V K.length / 2 <= szUp true K V i:=by omega
   obtain ⟨k0,k1⟩:=HCUT.out i hi hle hf.out
   go_wp2_with (go_at_call 178; refine S1.out.mono ?_; rintro e W1 ⟨rfl,rfl⟩)
   have w1:(i <= K.length)=True:=by simp <;> omega
   have w3:((i:Int) <= (cap:Int))=True:=by simp <;> omega
   have w4:(i <= cap)=True:=by simp <;> omega
   have w6:(cap=i)=False:=by simp <;> omega
   have w7:(i=0)=False:=by simp <;> omega
   have w8:((i:Int) <= (cap2:Int))=True:=by simp <;> omega
   have w9:(i <= cap2)=True:=by simp <;> omega
   have w10:(cap2=i)=False:=by simp <;> omega
   have HK0:=Hd k0
   have HK1:=Hd k1
   have HLE:=Hd hle
   have CK2:=Hd (fun W=>CK.out W i k0 k1)
   have CX2:=Hd (fun W=>CX.out W i k0 k1)
   have HU:=Hd (((HB.out.drew).upd' (Nat.le_refl _)).mono (S':=fun k=>k=p) fun _ _ e=>False.elim e)
   clear e1 e2 e3 e4 hi hle k0 k1 hlt hp df hcap hcap2 hn SZ1 CK CX S1 SZ
   go_region_law ((go_simp; go_at_call 215; refine (CK2.out _ HU.out).mono ?_; rintro e Wc ⟨g3,cap3,rfl,HR⟩
                   have HR2:=Hd HR.out.2
                   have D0:Wc.cell? ⟨p,0,none⟩=some (.bool true):=(World.cell?_of_block (HR2.out.block p dl)).trans d0))
   all_goals (
    have HBc:=Hd (HB.out.drew.trans (HR2.out.mono HB.out.size))
    have SP1:=Hd (Spl.start HBc.out HP.out (ownsRow_mono HR.out.1 HB.out.size))
    generalize (Wc.alloc (.cells #[.bool true,.slice (some ⟨g3,0,none⟩) (K.length - i) cap3,.slice none 0 0,.slice none 0 0] 222))=W2 at *
    generalize Wc.heap.size=q at *
    clear HR HR2 D0 d0 d1 d2 d3 dl HBc HU HB CK2
    obtain ⟨x0,x1,x2,x3,xf,xl,y2,y3,yf,yl,n1,n2⟩:=SP1.out.cells
    have xf1:=xf 1
    have SP2:=Hd (SP1.out.setP 1 (.slice (some ⟨g,0,none⟩) i i) _ _ _ rfl)
    clear xf yf
    go_wp2_with fail
    refine (CX2.out _ SP2.out.up).mono ?_
    rintro e W4 ⟨g4,cap4,rfl,HR4⟩
    have SP3:=Hd (SP2.out.below HR4.out.2)
    obtain ⟨z0,z1,z2,z3,zf,zl,u2,u3,uf,ul,m1,m2⟩:=SP3.out.cells
    have zfx:=zf 2
    have ufx:=uf 2
    have SP4:=Hd (SP2.out.setV HR4.out.2 HR4.out.1)
    have SP5:=Hd (SP4.out.setP 2 (.slice (some ⟨g2,0,none⟩) i i) _ _ _ rfl)
    clear zf uf SP1 SP2 SP3 SP4 HR4 CX2 x0 x1 x2 x3 xl y2 y3 yl xf1 n1 n2
    go_wp2_with fail
    go_ret
    exact ⟨q,rfl,i,g,cap,g2,cap2,_,_,_,HK0.out,HK1.out,HLE.out,hf.out HK0.out,rfl,by rw [HVL.out],SP5.out⟩)
theorem split_inner (p:Nat) (K:List ByteArray) (C:List Nat) (vk vv vi:Value) (w:World) (h:NdP w p false K [] C vk vv vi) (hv:C.length=K.length) (hK:∀ k ∈ K,k.size <= 96) (hn:K.length <= 65536)
 (hcut:∀ i,i <= K.length -> szUp false K [] K.length / 2 <= szUp false K [] i -> (0 < i -> szUp false K [] (i - 1) < szUp false K [] K.length / 2) -> 0 < i /\ i < K.length) (hp:0 < K.length) :
 Calls Tryz.prog 179 #[.pointer (some ⟨p,0,none⟩)] w fun e w'=>∃ q,e=.returned (.pointer (some ⟨q,0,none⟩)) /\ Hid (∃ i g cap g2 cap2 b1 b2 b3,0 < i /\ i < K.length /\ szUp false K [] K.length / 2 <= szUp false K [] i /\ szUp false K [] (i - 1) < szUp false K [] K.length / 2 /\ vk=.slice (some ⟨g,0,none⟩) K.length cap /\ vi=.slice (some ⟨g2,0,none⟩) K.length cap2 /\
  Spl w w' p q false (.slice (some ⟨g,0,none⟩) i i) vv (.slice (some ⟨g2,0,none⟩) i i) (K.drop i) [] (C.drop i) b1 b2 b3):=by
 have hV:∀ v ∈ ([]:List ByteArray),v.size <= 56:=by simp
 have hr:=h.ks
 have hr2:=h.is
 have hgp:vk.ownBlock ≠ some p:=h.pk
 have hgp2:vi.ownBlock ≠ some p:=h.pi
 rcases hr.2 with ⟨rfl,h0⟩ | ⟨g,cap,cur0,rfl,-⟩
 ·omega
 rcases hr2.2 with ⟨rfl,h0⟩ | ⟨g2,cap2,cur2,rfl,-⟩
 ·omega
 rw [hv] at h hr2
 obtain ⟨c0,c1,c2,c3,cf,cl⟩:=h.cells
 have hcap:K.length <= cap:=by obtain ⟨cur,g1,g2,g3,-⟩:=row_lit hr; exact g3
 have hcap2:K.length <= cap2:=by obtain ⟨cur,g1,g2,g3,-⟩:=row_lit hr2; exact g3
 have SZ:Hid (∀ W,Below w.heap.size w W -> Calls Tryz.prog 178 #[.pointer (some ⟨p,0,none⟩)] W fun e w'=>e=.returned (.int .i64 (szUp false K [] K.length:Nat)) /\ w'=W):=Hd fun W hW=>by
  have h':=h.below hW
  exact size_c p false K [] _ _ _ (0,0) W h'.blk (.of_own h'.ks) hp (fun e=>by cases e) hK hV hn
 have hgB:Hid (g < w.heap.size /\ ¬ g=p):=Hd ⟨(hr.lt g rfl).2,fun e=>hgp (by rw [<- e]; rfl)⟩
 have hgB2:Hid (g2 < w.heap.size /\ ¬ g2=p):=Hd ⟨(hr2.lt g2 rfl).2,fun e=>hgp2 (by rw [<- e]; rfl)⟩
 have RK:Hid (∀ W,Upd (fun k=>k=p) w W -> RRow W (.slice (some ⟨g,0,none⟩) K.length cap) (K.map Value.string)):=Hd fun W hW=>(RRow.of_own hr).kept fun k e=>by
  simp [Value.ownBlock] at e; subst e; exact hW.block _ hgB.out.1 hgB.out.2
 have RX:Hid (∀ W,Upd (fun k=>k=p) w W -> RRow W (.slice (some ⟨g2,0,none⟩) K.length cap2) (C.map encN)):=Hd fun W hW=>(RRow.of_own hr2).kept fun k e=>by
  simp [Value.ownBlock] at e; subst e; exact hW.block _ hgB2.out.1 hgB2.out.2
 have SZ1:Hid (∀ W b i,i < K.length -> Below w.heap.size w W -> W.heap[b]?=some (.cells #[.bool false,.slice (some ⟨g,i,none⟩) 1 (cap - i),.slice none 0 0,.slice none 0 0] 222 (0,0)) -> Calls Tryz.prog 178 #[.pointer (some ⟨b,0,none⟩)] W fun e w'=>e=.returned (.int .i64 ((3 + esz false K [] i:Nat):Int)) /\ w'=W):=Hd fun W b i hi hW hb=>by
  have hU:Upd (fun k=>k=p) w W:=(hW.upd' (Nat.le_refl _)).mono fun _ _ e=>False.elim e
  have r1:=(RK.out W hU).one (i:=i) (by simp) hi
  have r2:=(RX.out W hU).one (i:=i) (by simp [hv]) hi
  rw [Nat.zero_add] at r1 r2
  have e:=szUp_one false K [] i
  rw [<- e]
  refine size_c b false [K.getD i ByteArray.empty] [([]:List ByteArray).getD i ByteArray.empty] _ _ _ (0,0) W hb ?_ (by simp) ?_ ?_ ?_ (by simp)
  ·rw [getD_at _ _ hi]; simpa using r1
  ·intro e; cases e
  ·intro k hk; simp at hk; rw [hk]; have:=hK _ (List.getElem_mem hi); simpa [hi] using this
  ·intro k hk; simp at hk; rw [hk]; decide
 have CK:Hid (∀ W i,0 < i -> i < K.length -> Upd (fun k=>k=p) w W -> Calls Tryz.prog 215 #[.slice (some ⟨g,i,none⟩) (K.length - i) (cap - i)] W fun e w'=>∃ g' cap',e=.returned (.slice (some ⟨g',0,none⟩) (K.length - i) cap') /\ Hid (w'.ownsRow W.heap.size 9 1 (.slice (some ⟨g',0,none⟩) (K.length - i) cap') (K.drop i).length ((K.drop i).map Value.string) /\ Below W.heap.size W w')):=Hd fun W i h0 hi hU=>by
  have r1:=(RK.out W hU).drop (i:=i) (by simp) hi
  rw [Nat.zero_add,<- List.map_drop] at r1
  have:=clone_s r1 (by rw [List.length_drop]; omega) (by rw [List.length_drop]; omega)
  rw [List.length_drop] at this ⊢
  exact this
 have CX:Hid (∀ W i,0 < i -> i < K.length -> Upd (fun k=>k=p) w W -> Calls Tryz.prog 216 #[.slice (some ⟨g2,i,none⟩) (K.length - i) (cap2 - i)] W fun e w'=>∃ g' cap',e=.returned (.slice (some ⟨g',0,none⟩) (K.length - i) cap') /\ Hid (w'.ownsRow W.heap.size 3 1 (.slice (some ⟨g',0,none⟩) (K.length - i) cap') (C.drop i).length ((C.drop i).map encN) /\ Below W.heap.size W w')):=Hd fun W i h0 hi hU=>by
  have r1:=(RX.out W hU).drop (i:=i) (by simp [hv]) hi
  rw [Nat.zero_add,<- List.map_drop] at r1
  have:=clone_i r1 (by rw [List.length_drop]; omega) (by rw [List.length_drop]; omega)
  rw [List.length_drop,hv] at this
  rw [List.length_drop,hv]
  exact this
 have hsz:=Hd (szUp_le false K [] hK hV)
 have hes:=Hd (esz_le false K [] hK hV)
 have HH:=Hd h
 have HP:=Hd h.blk
 have HCUT:=Hd hcut
 have HN:=Hd hn
 have HVL:=Hd hv
 have hstep:Hid (∀ i,szUp false K [] (i + 1)=szUp false K [] i + esz false K [] i):=Hd fun i=>rfl
 clear h hr hr2 hcut hK hV hgp hgp2 hv
 go_enter Tryz.func179,Tryz.ntmps179
 go_wp2_with fail
 go_loopg [3,4] K.length (fun gg s3 s4 wr=>∃ i:Nat,gg=K.length - i /\ i <= K.length /\ s3=.int .i64 (szUp false K [] i:Nat) /\ s4=.int .i64 (i:Int) /\ Hid (0 < i -> szUp false K [] (i - 1) < szUp false K [] K.length / 2) /\ Hid (Below w.heap.size w wr))
 case atStart=>exact ⟨0,rfl,Nat.zero_le _,rfl,rfl,Hd fun e=>absurd e (by omega),Hd (Below.refl _ _)⟩
 case round =>
  obtain ⟨i,rfl,hi,rfl,rfl,hf,HB⟩:=hrel
  have S1:=Hd (SZ.out wr HB.out)
  have e1:=hes.out i
  have e2:=hsz.out i
  have e3:=hsz.out K.length
  have e4:=hstep.out i
  obtain ⟨d0,d1,d2,d3,df,dl⟩:=(HH.out.below HB.out).cells
  clear c0 c1 c2 c3 cf cl
  by_cases hlt:szUp false K [] i < szUp false K [] K.length / 2
  ·have hik:i < K.length:=by
    by_cases h:i < K.length
    ·exact h
    ·obtain rfl:i=K.length:=by omega
     omega
   go_wp2_with (go_at_call 178; refine S1.out.mono ?_; rintro e W1 ⟨rfl,rfl⟩)
   have w1:IntKind.i64.wrap ((i:Int) + 1)=(i:Int) + 1:=wrap_small (by omega) (by omega)
   have w2:((0:Int) <= (i:Int) + 1)=True:=by simp <;> omega
   have w3:((i:Int) + 1 <= (cap:Int))=True:=by simp <;> omega
   have w4:((i:Int) < (cap:Int))=True:=by simp <;> omega
   have w5:(i <= ((i:Int) + 1).toNat)=True:=by simp <;> omega
   have w6:(cap=i)=False:=by simp <;> omega
   have w7:((i:Int) + 1).toNat - i=1:=by omega
   have w8:((i:Int) + 1 <= (cap2:Int))=True:=by simp <;> omega
   have w9:((i:Int) < (cap2:Int))=True:=by simp <;> omega
   have w10:(cap2=i)=False:=by simp <;> omega
   have SZ2:=Hd (fun W b=>SZ1.out W b i hik)
   have HF:=Hd hlt
   have HI:=Hd hik
   have E1:=Hd e1
   have E2:=Hd e2
   have E4:=Hd e4
   clear e1 e2 e3 e4 hi hlt hik hp df hcap hcap2 hn hf SZ1
   go_region_held3 (fun w'=>w'.cell? ⟨p,0,none⟩=some (.bool false) /\ w'.cell? ⟨p,1,none⟩=some (.slice (some ⟨g,0,none⟩) K.length cap)) (go_keep) (fail)
   all_goals (
    have HB1:=Hd ((HB.out.alloc HB.out.size (.cells #[.bool false,.slice (some ⟨g,i,none⟩) 1 (cap - i),.slice none 0 0,.slice none 0 0] 222)).drew)
    have hone:Hid (((W1.alloc (.cells #[.bool false,.slice (some ⟨g,i,none⟩) 1 (cap - i),.slice none 0 0,.slice none 0 0] 222)).drew).heap[W1.heap.size]?=some (.cells #[.bool false,.slice (some ⟨g,i,none⟩) 1 (cap - i),.slice none 0 0,.slice none 0 0] 222 (0,0))):=Hd (heap_alloc_new _ _)
    have hbs:=Hd HB.out.size
    generalize ((W1.alloc (.cells #[.bool false,.slice (some ⟨g,i,none⟩) 1 (cap - i),.slice none 0 0,.slice none 0 0] 222)).drew)=W2 at *
    obtain ⟨x0,x1,x2,x3,xf,xl⟩:=(HH.out.below HB1.out).cells
    have y2:=cell_lit (i:=2) hone.out rfl
    have yf:=frozen_lit hone.out 2
    clear xf d0 d1 d2 d3
    have HB3:=HB1
    have SZ3:=Hd (SZ2.out _ _ HB3.out hone.out)
    have E1':=E1.out
    have E2':=E2.out
    go_wp2_with (go_at_call 178; refine SZ3.out.mono ?_; rintro e W5 ⟨rfl,rfl⟩)
    go_roundg (K.length - (i + 1)))
   all_goals (first
    | (case measure=>have:=HI.out; omega)
    | (case rel=>exact ⟨i + 1,rfl,HI.out,by rw [E4.out]; congr 1; exact wrap_half E1.out E2.out HI.out HN.out,rfl,Hd fun _=>HF.out,HB3⟩))
  ·have hle:szUp false K [] K.length / 2 <= szUp false K [] i:=by omega
   obtain ⟨k0,k1⟩:=HCUT.out i hi hle hf.out
   go_wp2_with (go_at_call 178; refine S1.out.mono ?_; rintro e W1 ⟨rfl,rfl⟩)
   have w1:(i <= K.length)=True:=by simp <;> omega
   have w3:((i:Int) <= (cap:Int))=True:=by simp <;> omega
   have w4:(i <= cap)=True:=by simp <;> omega
   have w6:(cap=i)=False:=by simp <;> omega
   have w7:(i=0)=False:=by simp <;> omega
   have w8:((i:Int) <= (cap2:Int))=True:=by simp <;> omega
   have w9:(i <= cap2)=True:=by simp <;> omega
   have w10:(cap2=i)=False:=by simp <;> omega
   have HK0:=Hd k0
   have HK1:=Hd k1
   have HLE:=Hd hle
   have CK2:=Hd (fun W=>CK.out W i k0 k1)
   have CX2:=Hd (fun W=>CX.out W i k0 k1)
   have HU:=Hd (((HB.out.drew).upd' (Nat.le_refl _)).mono (S':=fun k=>k=p) fun _ _ e=>False.elim e)
   clear e1 e2 e3 e4 hi hle k0 k1 hlt hp df hcap hcap2 hn SZ1 CK CX S1 SZ
   go_region_law ((go_simp; go_at_call 215; refine (CK2.out _ HU.out).mono ?_; rintro e Wc ⟨g3,cap3,rfl,HR⟩
                   have HR2:=Hd HR.out.2
                   have D0:Wc.cell? ⟨p,0,none⟩=some (.bool false):=(World.cell?_of_block (HR2.out.block p dl)).trans d0))
   all_goals (
    have HBc:=Hd (HB.out.drew.trans (HR2.out.mono HB.out.size))
    have SP1:=Hd (Spl.start HBc.out HP.out (ownsRow_mono HR.out.1 HB.out.size))
    generalize (Wc.alloc (.cells #[.bool false,.slice (some ⟨g3,0,none⟩) (K.length - i) cap3,.slice none 0 0,.slice none 0 0] 222))=W2 at *
    generalize Wc.heap.size=q at *
    clear HR HR2 D0 d0 d1 d2 d3 dl HBc HU HB CK2
    obtain ⟨x0,x1,x2,x3,xf,xl,y2,y3,yf,yl,n1,n2⟩:=SP1.out.cells
    have xf1:=xf 1
    have SP2:=Hd (SP1.out.setP 1 (.slice (some ⟨g,0,none⟩) i i) _ _ _ rfl)
    clear xf yf
    go_wp2_with fail
    refine (CX2.out _ SP2.out.up).mono ?_
    rintro e W4 ⟨g4,cap4,rfl,HR4⟩
    have SP3:=Hd (SP2.out.below HR4.out.2)
    obtain ⟨z0,z1,z2,z3,zf,zl,u2,u3,uf,ul,m1,m2⟩:=SP3.out.cells
    have zfx:=zf 3
    have ufx:=uf 3
    have SP4:=Hd (SP2.out.setI HR4.out.2 HR4.out.1)
    have SP5:=Hd (SP4.out.setP 3 (.slice (some ⟨g2,0,none⟩) i i) _ _ _ rfl)
    clear zf uf SP1 SP2 SP3 SP4 HR4 CX2 x0 x1 x2 x3 xl y2 y3 yl xf1 n1 n2
    go_wp2_with fail
    go_ret
    exact ⟨q,rfl,i,g,cap,g2,cap2,_,_,_,HK0.out,HK1.out,HLE.out,hf.out HK0.out,rfl,by rw [HVL.out],SP5.out⟩)
def RmS (w:World) (G:Nat -> Prop) (rb n m:Nat) (S:RS):Prop:=∃ puts,puts.length <= m /\ Rm w G rb n puts /\ Rep n puts S
def StGo (w w':World) (G:Nat -> Prop) (rb n m:Nat) (S:RS):Prop:=∃ G',RmS w' G' rb n m S /\ Turn G G' w w'
def TB (w:World) (tb rb place:Nat):Prop:=w.heap[tb]?=some (.cells #[.pointer (some ⟨rb,0,none⟩),.int .i64 (place:Int)] 190 (0,0))
theorem RmS.below {w w':World} {G:Nat -> Prop} {rb n m:Nat} {S:RS} (h:RmS w G rb n m S) (hb:Below w.heap.size w w'):RmS w' G rb n m S:=by
 obtain ⟨puts,a,b,c⟩:=h; exact ⟨puts,a,b.below hb,c⟩
theorem RmS.lt {w:World} {G:Nat -> Prop} {rb n m:Nat} {S:RS} (h:RmS w G rb n m S):∀ k,G k -> k < w.heap.size:=by
 obtain ⟨puts,a,b,c⟩:=h; exact b.lt
theorem RmS.bounds {w:World} {G:Nat -> Prop} {rb n m:Nat} {S:RS} (h:RmS w G rb n m S):1 <= n /\ n <= 65335:=by
 obtain ⟨puts,a,b,c⟩:=h; exact b.bounds
theorem RmS.more {w:World} {G:Nat -> Prop} {rb n m m':Nat} {S:RS} (h:RmS w G rb n m S) (hm:m <= m'):RmS w G rb n m' S:=by
 obtain ⟨puts,a,b,c⟩:=h; exact ⟨puts,by omega,b,c⟩
theorem RmS.lim {w:World} {G:Nat -> Prop} {rb n m:Nat} {S:RS} (h:RmS w G rb n m S):∀ p,S.used p=true -> p < pagesN n:=by
 obtain ⟨puts,a,b,c⟩:=h; exact c.lim
theorem StGo.of_room {w w':World} {G:Nat -> Prop} {rb n m c:Nat} {S:RS} {puts:List (Int × ByteArray)} (h:RoomGo w w' G rb n puts S c) (hm:puts.length <= m):StGo w w' G rb n (m + c) S:=by
 obtain ⟨G',puts',a,b,d,e⟩:=h
 exact ⟨G',⟨puts',by omega,b,d⟩,e⟩
theorem StGo.below_left {w W w':World} {G:Nat -> Prop} {rb n m:Nat} {S:RS} (hb:Below w.heap.size w W) (h:StGo W w' G rb n m S):StGo w w' G rb n m S:=by
 obtain ⟨G',a,b⟩:=h; exact ⟨G',a,b.below_left hb⟩
theorem StGo.upd {w w':World} {G:Nat -> Prop} {rb n m:Nat} {S:RS} (h:StGo w w' G rb n m S):Upd G w w':=by
 obtain ⟨G',a,b⟩:=h; exact b.upd
theorem TB.upd {w w':World} {tb rb place:Nat} {F:Nat -> Prop} (h:TB w tb rb place) (hu:Upd F w w') (hn:¬ F tb):TB w' tb rb place:=hu.at h hn
theorem TB.below {w w':World} {tb rb place:Nat} (h:TB w tb rb place) (hb:Below w.heap.size w w'):TB w' tb rb place:=(hb.block tb (lt_of_heap h)).trans h
theorem TB.cells {w:World} {tb rb place:Nat} (h:TB w tb rb place):w.cell? ⟨tb,0,none⟩=some (.pointer (some ⟨rb,0,none⟩)) /\ w.cell? ⟨tb,1,none⟩=some (.int .i64 (place:Int)):=⟨cell_lit h rfl,cell_lit h rfl⟩
theorem wrap_u64 {v:Nat} (h:v < 18446744073709551616):IntKind.u64.wrap (v:Int)=(v:Int):=by
 simp only [IntKind.wrap,IntKind.bits,IntKind.signed]; simp; omega
theorem must_c (w:World):Calls Tryz.prog 131 #[.int .i64 0] w fun e w'=>e=.returned (.tuple #[]) /\ w'=w:=by
 go_enter Tryz.func131,Tryz.ntmps131
 go_wp2_with fail
 go_end0
 exact ⟨rfl,rfl⟩
theorem root_c (G:Nat -> Prop) (tb rb place n m:Nat) (S:RS) (w:World) (h:RmS w G rb n m S) (ht:TB w tb rb place) (hp:place < 16) (hm:m <= 4000000) (hr:S.root place <= 65536) :
 Calls Tryz.prog 125 #[.pointer (some ⟨tb,0,none⟩)] w fun e w'=>e=.returned (.int .i64 ((S.root place:Int) - 1)) /\ Hid (Below w.heap.size w w'):=by
 obtain ⟨puts,h1,h2,h3⟩:=h
 obtain ⟨c0,c1⟩:=ht.cells
 have MU:=must_c
 have RC:Hid (Calls Tryz.prog 69 #[.pointer (some ⟨rb,0,none⟩),.int .i64 (place:Int)] w.drew fun e w'=>e=.returned (.tuple #[.int .u64 (S.root place:Int),.int .i64 0]) /\ (w'.cell? ⟨tb,0,none⟩=some (.pointer (some ⟨rb,0,none⟩)) /\ w'.cell? ⟨tb,1,none⟩=some (.int .i64 (place:Int))) /\ Hid (Below w.heap.size w w')):=Hd (by
  refine (Root_c G rb n puts S place w.drew (h2.below (Below.refl _ _).drew) h3 (by omega) hp).mono ?_
  rintro e w' ⟨rfl,hb⟩
  have hb':Below w.heap.size w w':=(Below.refl w.heap.size w).drew.trans hb
  exact ⟨rfl,(ht.below hb').cells,hb'⟩)
 have hq:S.root place <= 65536:=hr
 generalize S.root place=v at *
 clear h2 h3 ht hr
 go_enter Tryz.func125,Tryz.ntmps125
 go_wp2_with fail
 go_region_held3 (fun w'=>w'.cell? ⟨tb,0,none⟩=some (.pointer (some ⟨rb,0,none⟩)) /\ w'.cell? ⟨tb,1,none⟩=some (.int .i64 (place:Int))) (go_keep) ((go_at_call 69; refine Calls.at_args RC.out (by with_reducible rfl) ?_; rintro e w1 ⟨rfl,hk,HB⟩))
 go_wp2_with (go_at_call 131; refine (MU _).mono ?_; rintro e w2 ⟨rfl,rfl⟩)
 go_ret
 exact ⟨rfl,HB⟩
theorem setRoot_c (G:Nat -> Prop) (tb rb place n m:Nat) (S:RS) (v:Nat) (w:World) (h:RmS w G rb n m S) (ht:TB w tb rb place) (hg:¬ G tb) (hp:place < 16) (hm:m <= 4000000) (hv:v <= 65536) :
 Calls Tryz.prog 126 #[.pointer (some ⟨tb,0,none⟩),.int .i64 ((v:Int) - 1)] w fun e w'=>e=.returned (.tuple #[]) /\ Hid (StGo w w' G rb n (m + 1) (setRootS S place v)):=by
 obtain ⟨puts,h1,h2,h3⟩:=h
 obtain ⟨c0,c1⟩:=ht.cells
 have MU:=must_c
 have SR:Hid (Calls Tryz.prog 72 #[.pointer (some ⟨rb,0,none⟩),.int .i64 (place:Int),.int .u64 (v:Int)] w.drew fun e w'=>e=.returned (.int .i64 0) /\ (w'.cell? ⟨tb,0,none⟩=some (.pointer (some ⟨rb,0,none⟩)) /\ w'.cell? ⟨tb,1,none⟩=some (.int .i64 (place:Int))) /\ Hid (StGo w w' G rb n (m + 1) (setRootS S place v))):=Hd (by
  refine (SetRoot_c G rb n puts S place v w.drew (h2.below (Below.refl _ _).drew) h3 (by omega) hp (by omega)).mono ?_
  rintro e w' ⟨rfl,hgo⟩
  have hgo':=(StGo.of_room hgo h1).below_left ((Below.refl w.heap.size w).drew)
  exact ⟨rfl,(ht.upd hgo'.upd hg).cells,hgo'⟩)
 have hw:IntKind.i64.wrap (v:Int)=(v:Int):=wrap_small (by omega) (by omega)
 have hw2:IntKind.u64.wrap (v:Int)=(v:Int):=wrap_u64 (by omega)
 clear h2 h3 ht
 go_enter Tryz.func126,Tryz.ntmps126
 go_wp2_with fail
 go_region_held3 (fun w'=>w'.cell? ⟨tb,0,none⟩=some (.pointer (some ⟨rb,0,none⟩)) /\ w'.cell? ⟨tb,1,none⟩=some (.int .i64 (place:Int))) (go_keep) ((first
  | (go_at_call 72; refine Calls.at_args SR.out (by with_reducible rfl) ?_; rintro e w1 ⟨rfl,hk,HG⟩)
  | (go_at_call 131; refine (MU _).mono ?_; rintro e w2 ⟨rfl,rfl⟩)))
 go_end0
 exact ⟨rfl,HG⟩
theorem ntext_c (d:Nd) (q:Nat) (F:Nat -> Prop) (w:World) (hd:d.Ok) (h:RdIn w q d F) :
 Calls Tryz.prog 212 #[.pointer (some ⟨q,0,none⟩)] w fun e w'=>e=.returned (.string (ofL d.bytes)) /\ Below w.heap.size w w':=by
 obtain ⟨vk,vv,vi,h,-⟩:=h
 cases d with
 | leaf l=>exact text_leaf l q vk vv vi w hd h
 | inner l=>exact text_inner l q vk vv vi w hd h
theorem write_c (G F:Nat -> Prop) (tb rb place n m:Nat) (S:RS) (p q:Nat) (d:Nd) (w:World) (h:RmS w G rb n m S) (ht:TB w tb rb place) (hg:¬ G tb) (hm:m <= 4000000) (hd:d.Ok) (hs:d.size <= 512) (hq:RdIn w q d F) (hu:S.used p=true) :
 Calls Tryz.prog 176 #[.pointer (some ⟨tb,0,none⟩),.int .i64 (p:Int),.pointer (some ⟨q,0,none⟩)] w fun e w'=>e=.returned (.tuple #[]) /\ Hid (StGo w w' G rb n (m + 1) (wrS S p d)):=by
 obtain ⟨puts,h1,h2,h3⟩:=h
 obtain ⟨c0,c1⟩:=ht.cells
 have MU:=must_c
 have hql:q < w.heap.size:=by obtain ⟨vk,vv,vi,a,b⟩:=hq; exact lt_of_heap a.blk
 have TX:Hid (Calls Tryz.prog 212 #[.pointer (some ⟨q,0,none⟩)] w.drew fun e w'=>e=.returned (.string (ofL d.bytes)) /\ w'.cell? ⟨tb,0,none⟩=some (.pointer (some ⟨rb,0,none⟩)) /\ Hid (Below w.heap.size w w')):=Hd (by
  refine (ntext_c d q F w.drew hd (hq.upd (S:=fun _=>False) (Upd.refl _ _).drew fun _ _ _ e=>e)).mono ?_
  rintro e w' ⟨rfl,hb⟩
  have hb':Below w.heap.size w w':=(Below.refl w.heap.size w).drew.trans hb
  exact ⟨rfl,(ht.below hb').cells.1,hb'⟩)
 have PW:Hid (∀ W,Below w.heap.size w W -> Calls Tryz.prog 172 #[.pointer (some ⟨rb,0,none⟩),.int .i64 (p:Int),.string (ofL d.bytes)] W fun e w'=>e=.returned (.int .i64 0) /\ w'.cell? ⟨tb,0,none⟩=some (.pointer (some ⟨rb,0,none⟩)) /\ Hid (StGo w w' G rb n (m + 1) (wrS S p d))):=Hd fun W hW=>by
  refine (PWrite_c G rb n puts S p (ofL d.bytes) W (h2.below hW) h3 (by omega) hu (by rw [ofL_size,bytes_len]; exact hs)).mono ?_
  rintro e w' ⟨rfl,hgo⟩
  have hgo':StGo w w' G rb n (m + 1) (wrS S p d):=(StGo.of_room hgo h1).below_left hW
  exact ⟨rfl,(ht.upd hgo'.upd hg).cells.1,hgo'⟩
 generalize ofL d.bytes=s at *
 clear h2 h3 ht hq
 go_enter Tryz.func176,Tryz.ntmps176
 go_wp2_with fail
 go_region_held3 (fun w'=>w'.cell? ⟨tb,0,none⟩=some (.pointer (some ⟨rb,0,none⟩))) (go_keep) ((first
  | (go_at_call 212; refine Calls.at_args TX.out (by with_reducible rfl) ?_; rintro e w1 ⟨rfl,hk,HB⟩)
  | (go_at_call 172; refine Calls.at_args (PW.out _ HB.out) (by with_reducible rfl) ?_; rintro e w3 ⟨rfl,hk3,HG⟩)
  | (go_at_call 131; refine (MU _).mono ?_; rintro e w2 ⟨rfl,rfl⟩)))
 all_goals go_end0
 all_goals exact ⟨rfl,HG⟩
theorem pad_of (l:List UInt8):pad (ofL l)=ofL (l ++ List.replicate (512 - l.length) 0):=by
 unfold pad; rw [ofL_size,toList_ofL]; rfl
theorem read_c (G:Nat -> Prop) (tb rb place n m:Nat) (S:RS) (p:Nat) (d:Nd) (w:World) (h:RmS w G rb n m S) (ht:TB w tb rb place) (hm:m <= 4000000) (hd:d.Ok) (hs:d.size <= 512) (hu:S.used p=true) (hc:S.cont p=pad (ofL d.bytes)) :
 Calls Tryz.prog 133 #[.pointer (some ⟨tb,0,none⟩),.int .i64 (p:Int)] w fun e w'=>∃ q,e=.returned (.pointer (some ⟨q,0,none⟩)) /\ Hid (∃ F,IsNd w' F q d /\ (∀ k,F k -> w.heap.size <= k) /\ Below w.heap.size w w'):=by
 obtain ⟨puts,h1,h2,h3⟩:=h
 obtain ⟨c0,c1⟩:=ht.cells
 have MU:=must_c
 have hnot:∀ (x:Bool) (w:World),(Op.unary .not (.bool x)).run Tryz.prog w=.ok (.bool (!x)) w:=fun _ _=>rfl
 have RD:Hid (Calls Tryz.prog 183 #[.pointer (some ⟨rb,0,none⟩),.int .i64 (p:Int)] w fun e w'=>e=.returned (.tuple #[.string (S.cont p),.int .i64 0]) /\ Below w.heap.size w w'):=Hd (PRead_c G rb n puts S p w h2 h3 (by omega) hu)
 rw [hc,pad_of] at RD
 have PC:Hid (∀ W,Below w.heap.size w W -> Calls Tryz.prog 184 #[.string (ofL (d.bytes ++ List.replicate (512 - d.bytes.length) 0))] W fun e w'=>∃ p,e=.returned (.tuple #[.pointer (some ⟨p,0,none⟩),.bool true]) /\ Hid (∃ F,IsNd w' F p d /\ (∀ k,F k -> w.heap.size <= k) /\ Below w.heap.size w w')):=Hd fun W hW=>by
  have hl:=bytes_len d
  refine (parse_c d (List.replicate (512 - d.bytes.length) 0) W hd (by simp; omega)).mono ?_
  rintro e w' ⟨p,rfl,F,a,b,c⟩
  exact ⟨p,rfl,F,a,fun k hk=>Nat.le_trans hW.size (b k hk),hW.trans (c.mono hW.size)⟩
 generalize ofL (d.bytes ++ List.replicate (512 - d.bytes.length) 0)=s at *
 clear h2 h3 ht hc
 go_enter Tryz.func133,Tryz.ntmps133
 go_wp2_with (first
  | (go_at_call 183; refine RD.out.mono ?_; rintro e w1 ⟨rfl,hb⟩; have HB:=Hd hb; clear hb)
  | (go_at_call 131; refine (MU _).mono ?_; rintro e w2 ⟨rfl,rfl⟩)
  | (go_at_call 184; refine (PC.out _ HB.out).mono ?_; rintro e w3 ⟨q,rfl,HQ⟩))
 go_ret
 exact ⟨q,rfl,HQ⟩
theorem alloc_c (G:Nat -> Prop) (rb n m:Nat) (S:RS) (w:World) (h:RmS w G rb n m S) (hm:m <= 3999990) (hfree:∃ q,q < pagesN n /\ S.used q=false) :
 Calls Tryz.prog 44 #[.pointer (some ⟨rb,0,none⟩)] w fun e w'=>∃ p:Nat,e=.returned (.tuple #[.int .i64 p,.int .i64 0]) /\ Hid (p < pagesN n /\ S.used p=false /\ StGo w w' G rb n (m + 2) (allocS S p)):=by
 obtain ⟨puts,h1,h2,h3⟩:=h
 refine (Alloc_c G rb n puts S w h2 h3 (by omega) hfree).mono ?_
 rintro e w' ⟨p,rfl,a,b,c⟩
 exact ⟨p,rfl,a,b,StGo.of_room c h1⟩
theorem fresh_c (G F:Nat -> Prop) (tb rb place n m:Nat) (S:RS) (q:Nat) (d:Nd) (w:World) (h:RmS w G rb n m S) (ht:TB w tb rb place) (hg:¬ G tb) (hm:m <= 3999980) (hd:d.Ok) (hs:d.size <= 512) (hq:RdIn w q d F) (hF:∀ k,F k -> ¬ G k) (hfree:∃ q,q < pagesN n /\ S.used q=false) :
 Calls Tryz.prog 127 #[.pointer (some ⟨tb,0,none⟩),.pointer (some ⟨q,0,none⟩)] w fun e w'=>∃ p:Nat,e=.returned (.int .i64 p) /\ Hid (p < pagesN n /\ S.used p=false /\ StGo w w' G rb n (m + 3) (wrS (allocS S p) p d)):=by
 obtain ⟨c0,c1⟩:=ht.cells
 have MU:=must_c
 have AL:=Hd (alloc_c G rb n m S w h (by omega) hfree)
 have hql:q < w.heap.size:=by obtain ⟨vk,vv,vi,a,b⟩:=hq; exact lt_of_heap a.blk
 have htl:=lt_of_heap ht
 have WR:Hid (∀ (p:Nat) W,p < pagesN n -> S.used p=false -> StGo w W G rb n (m + 2) (allocS S p) -> Calls Tryz.prog 176 #[.pointer (some ⟨tb,0,none⟩),.int .i64 (p:Int),.pointer (some ⟨q,0,none⟩)] W fun e w'=>e=.returned (.tuple #[]) /\ Hid (StGo w w' G rb n (m + 3) (wrS (allocS S p) p d))):=Hd fun p W hp hu hW=>by
  obtain ⟨G',a,b⟩:=hW
  refine (write_c G' F tb rb place n (m + 2) (allocS S p) p q d W a (ht.upd b.upd hg) (fun e=>?_) (by omega) hd hs (hq.upd b.upd fun k hk _=>hF k hk) ?_).mono ?_
  ·rcases b.sub tb e with x | x
   ·exact hg x
   ·omega
  ·show flip S.used p p=true
   unfold flip; rw [if_pos rfl,hu]; rfl
  ·rintro e w' ⟨rfl,G2,x,y⟩
   exact ⟨rfl,G2,x,b.trans y⟩
 clear h ht hq
 go_enter Tryz.func127,Tryz.ntmps127
 go_wp2_with fail
 refine AL.out.mono ?_
 rintro e w1 ⟨p,rfl,HP⟩
 have WR2:=Hd (WR.out p w1 HP.out.1 HP.out.2.1 HP.out.2.2)
 clear WR AL
 go_wp2_with (first
  | (go_at_call 131; refine (MU _).mono ?_; rintro e w2 ⟨rfl,rfl⟩)
  | (go_at_call 176; refine WR2.out.mono ?_; rintro e w3 ⟨rfl,HW⟩))
 go_ret
 exact ⟨p,rfl,HP.out.1,HP.out.2.1,HW.out⟩
def Spare (S:RS) (n c:Nat):Prop:=∃ U:List Nat,(∀ q,S.used q=true -> q ∈ U) /\ U.length + c <= pagesN n
theorem pigeon:∀ (N:Nat) (U:List Nat),U.length < N -> ∃ q,q < N /\ q ∉ U
 | 0,U,h=>by omega
 | N + 1,U,h=>by
   by_cases hN:N ∈ U
   ·have hl:=List.length_erase_of_mem hN
    have hp:=List.length_pos_of_mem hN
    obtain ⟨q,h1,h2⟩:=pigeon N (U.erase N) (by omega)
    refine ⟨q,by omega,fun hq=>h2 ?_⟩
    exact (List.mem_erase_of_ne (by omega)).2 hq
   ·exact ⟨N,by omega,hN⟩
theorem Spare.free {S:RS} {n c:Nat} (h:Spare S n (c + 1)):∃ q,q < pagesN n /\ S.used q=false:=by
 obtain ⟨U,h1,h2⟩:=h
 obtain ⟨q,h3,h4⟩:=pigeon (pagesN n) U (by omega)
 refine ⟨q,h3,?_⟩
 cases e:S.used q with
 | false=>rfl
 | true=>exact absurd (h1 q e) h4
theorem Spare.alloc {S:RS} {n c p:Nat} (h:Spare S n (c + 1)) (hp:S.used p=false):Spare (allocS S p) n c:=by
 obtain ⟨U,h1,h2⟩:=h
 refine ⟨p :: U,fun q hq=>?_,by simp; omega⟩
 have hq':flip S.used p q=true:=hq
 unfold flip at hq'
 by_cases e:q=p
 ·simp [e]
 ·rw [if_neg e] at hq'; simp [h1 q hq']
theorem Spare.write {S:RS} {n c p:Nat} {d:Nd} (h:Spare S n c):Spare (wrS S p d) n c:=h
theorem Spare.less {S:RS} {n c c':Nat} (h:Spare S n c) (hc:c' <= c):Spare S n c':=by
 obtain ⟨U,h1,h2⟩:=h; exact ⟨U,h1,by omega⟩
def wt:(h:Nat) -> PT h -> Nat
 | 0,l=>List.length l
 | h + 1,l=>(List.map (fun x=>max (2 ^ h) (wt h x.2.2)) l).sum
theorem wt_zero (l:PT 0):wt 0 l=List.length l:=rfl
theorem wt_app {h:Nat} (A B:List (Kid h)):wt (h + 1) (A ++ B:List (Kid h))=wt (h + 1) A + wt (h + 1) B:=by simp [wt]
theorem wt_cons {h:Nat} (x:Kid h) (B:List (Kid h)):wt (h + 1) (x :: B:List (Kid h))=max (2 ^ h) (wt h x.2.2) + wt (h + 1) B:=by simp [wt]
theorem wt_mid {h:Nat} (A B:List (Kid h)) (x:Kid h):wt (h + 1) (A ++ x :: B:List (Kid h))=wt (h + 1) A + (max (2 ^ h) (wt h x.2.2) + wt (h + 1) B):=by rw [wt_app,wt_cons]
theorem wt_lo {h:Nat} (l:List (Kid h)):2 ^ h * l.length <= wt (h + 1) l:=by
 induction l with
 | nil=>simp [wt]
 | cons x l ih =>
   rw [wt_cons,List.length_cons,Nat.mul_add,Nat.mul_one]
   have:=Nat.le_max_left (2 ^ h) (wt h x.2.2)
   omega
theorem wt_cut (h i:Nat) (u:PT h):wt h (tk h i u) + wt h (dr h i u)=wt h u:=by
 cases h with
 | zero=>show (List.take i u).length + (List.drop i u).length=List.length u; rw [<- List.length_append,List.take_append_drop]
 | succ h=>exact (wt_app _ _).symm.trans (by simp [tk,dr])
theorem wt_many {h:Nat} (u:PT h) (h2:(h=0 -> 1 <= (nd h u).len) /\ (1 <= h -> 2 <= (nd h u).len)):2 ^ h <= wt h u:=by
 cases h with
 | zero=>have:=h2.1 rfl; rw [nd_len0] at this; exact this
 | succ h =>
   have:=h2.2 (by omega)
   rw [nd_lenS] at this
   have h3:=wt_lo (h:=h) u
   have h4:2 ^ h * 2 <= 2 ^ h * List.length u:=Nat.mul_le_mul_left _ this
   have h5:2 ^ (h + 1)=2 ^ h * 2:=Nat.pow_succ 2 h
   omega
theorem wt_one {h:Nat} {A B:List (Kid h)} {x y:Kid h} (H:wt h y.2.2 <= wt h x.2.2 + 1):wt (h + 1) (A ++ y :: B:List (Kid h)) <= wt (h + 1) (A ++ x :: B:List (Kid h)) + 1:=by
 rw [wt_mid,wt_mid]
 generalize 2 ^ h=P
 omega
theorem wt_same {h:Nat} {A B:List (Kid h)} {x y:Kid h} (H:wt h y.2.2 <= wt h x.2.2):wt (h + 1) (A ++ y :: B:List (Kid h)) <= wt (h + 1) (A ++ x :: B:List (Kid h)):=by
 rw [wt_mid,wt_mid]
 generalize 2 ^ h=P
 omega
theorem wt_two {h:Nat} {A B:List (Kid h)} {x y z:Kid h} (H:wt h y.2.2 + wt h z.2.2 <= wt h x.2.2 + 1) (h1:2 ^ h <= wt h y.2.2) (h2:2 ^ h <= wt h z.2.2):wt (h + 1) (A ++ y :: z :: B:List (Kid h)) <= wt (h + 1) (A ++ x :: B:List (Kid h)) + 1:=by
 rw [wt_mid,wt_cons,wt_mid]
 generalize 2 ^ h=P at *
 omega
theorem wt_hgt {h k:Nat} {t:PT h} (hp:0 < (nd h t).len) (hw:wt h t < 2 ^ k):h <= k:=by
 cases h with
 | zero=>omega
 | succ h =>
   rw [nd_lenS] at hp
   have h1:=wt_lo (h:=h) t
   have h2:2 ^ h * 1 <= 2 ^ h * List.length t:=Nat.mul_le_mul_left _ hp
   have h3:2 ^ h < 2 ^ k:=by omega
   have:=(Nat.pow_lt_pow_iff_right (by decide:1 < 2)).1 h3
   omega
structure PutOne (S S':RS) (h p:Nat) (t:PT h) (key val:ByteArray) (t':PT h):Prop where
 tr:Tr S' h p t'
 ins:Ins key val (ents h t) (ents h t')
 frm:Frm (pgs h p t) (pgs h p t') S S'
 sng:sing h t' <= sing h t
 len:(nd h t).len <= (nd h t').len
 spr:∀ n c,Spare S n (c + h) -> Spare S' n c
 lenU:(nd h t').len <= (nd h t).len + 1
 wtU:wt h t' <= wt h t + 1
structure PutTwo (S S':RS) (h p:Nat) (t:PT h) (key val:ByteArray) (k:ByteArray) (q:Nat) (t1 t2:PT h):Prop where
 tr1:Tr S' h p t1
 tr2:Tr S' h q t2
 ins:Ins key val (ents h t) (ents h t1 ++ ents h t2)
 frm:Frm (pgs h p t) (pgs h p t1 ++ pgs h q t2) S S'
 nod:(pgs h p t1 ++ pgs h q t2).Nodup
 qlt:q < 65536
 ksz:k.size <= 96
 lo:∀ e ∈ ents h t1,kless e.1 k=true
 hi:∀ e ∈ ents h t2,kless e.1 k=false
 sng:sing h t1 + sing h t2 <= sing h t
 spr:∀ n c,Spare S n (c + h + 1) -> Spare S' n c
 five:1 <= h -> 5 <= (nd h t).len
 six:1 <= h -> 6 <= (nd h t1).len + (nd h t2).len
 wtU:wt h t1 + wt h t2 <= wt h t + 1 /\ 2 ^ h <= wt h t1 /\ 2 ^ h <= wt h t2
structure Over (S S1:RS) (h p:Nat) (t:PT h) (key val:ByteArray) (u:PT h):Prop where
 wf:Wf h u
 pos:0 < (nd h u).len
 siz:(nd h u).size <= 666
 kid:Kids S1 h u
 nod:(p :: low h u).Nodup
 use:S1.used p=true
 ins:Ins key val (ents h t) (ents h u)
 frm:Frm (pgs h p t) (p :: low h u) S S1
 sng:sing h u <= sing h t
 len:(nd h t).len <= (nd h u).len
 spr:∀ n c,Spare S n (c + h) -> Spare S1 n c
 lenU:(nd h u).len <= (nd h t).len + 1
 wtU:wt h u <= wt h t + 1
theorem nodup_swap {X Y:List Nat} {P P':List Nat} {S S':RS} (h:(X ++ (P ++ Y)).Nodup) (hf:Frm P P' S S') (hn:P'.Nodup) (hu:∀ q ∈ X ++ (P ++ Y),S.used q=true):(X ++ (P' ++ Y)).Nodup:=by
 obtain ⟨h1,h2,h3⟩:=List.nodup_append.1 h
 obtain ⟨h4,h5,h6⟩:=List.nodup_append.1 h2
 have hX:∀ q ∈ X,q ∉ P':=fun q hq=>(hf.keep q (fun e=>h3 q hq q (by simp [e]) rfl) (hu q (by simp [hq]))).1
 have hY:∀ q ∈ Y,q ∉ P':=fun q hq=>(hf.keep q (fun e=>h6 q e q hq rfl) (hu q (by simp [hq]))).1
 refine List.nodup_append.2 ⟨h1,List.nodup_append.2 ⟨hn,h5,fun a ha b hb e=>?_⟩,fun a ha b hb e=>?_⟩
 ·subst e; exact hY a hb ha
 ·subst e
  rcases List.mem_append.1 hb with hb | hb
  ·exact hX a ha hb
  ·exact h3 a ha a (by simp [hb]) rfl
section
variable {S S':RS} {h p:Nat} {A B:List (Kid h)} {x:Kid h} {key val:ByteArray}
theorem low_mid (A B:List (Kid h)) (x:Kid h):low (h + 1) (A ++ x :: B:List (Kid h))=low (h + 1) A ++ (pgs h x.2.1 x.2.2 ++ low (h + 1) B):=by
 simp [low]
theorem Kids.mid {S:RS} {A B:List (Kid h)} {x:Kid h} (H:Kids S (h + 1) (A ++ x :: B:List (Kid h))):Kids S (h + 1) A /\ On S h x.2.1 x.2.2 /\ Kids S (h + 1) B :=
 ⟨fun y hy=>H y (by simp [hy]),H x (by simp),fun y hy=>H y (by simp [hy])⟩
theorem Kids.mk {S:RS} {A B:List (Kid h)} {x:Kid h} (h1:Kids S (h + 1) A) (h2:On S h x.2.1 x.2.2) (h3:Kids S (h + 1) B):Kids S (h + 1) (A ++ x :: B:List (Kid h)):=by
 intro y hy
 rcases List.mem_append.1 hy with hy | hy
 ·exact h1 y hy
 ·rcases List.mem_cons.1 hy with rfl | hy
  ·exact h2
  ·exact h3 y hy
theorem Frm.others {P':List Nat} (H:Tr S (h + 1) p (A ++ x :: B:List (Kid h))) (hf:Frm (pgs h x.2.1 x.2.2) P' S S') (hn:P'.Nodup) :
 Kids S' (h + 1) A /\ Kids S' (h + 1) B /\ (S'.used p=true /\ S'.cont p=pad (ofL (nd (h + 1) (A ++ x :: B:List (Kid h))).bytes)) /\ (p :: (low (h + 1) A ++ (P' ++ low (h + 1) B))).Nodup /\ Frm (pgs (h + 1) p (A ++ x :: B:List (Kid h))) (p :: (low (h + 1) A ++ (P' ++ low (h + 1) B))) S S':=by
 have hN:=H.nod
 rw [pgs_low,low_mid] at hN
 obtain ⟨hp,hN2⟩:=List.nodup_cons.1 hN
 obtain ⟨n1,n2,n3⟩:=List.nodup_append.1 hN2
 obtain ⟨n4,n5,n6⟩:=List.nodup_append.1 n2
 obtain ⟨k1,k2,k3⟩:=H.kids.mid
 have hU:=H.on.used
 rw [pgs_low,low_mid] at hU
 have kp:∀ q,q ∉ pgs h x.2.1 x.2.2 -> S.used q=true -> S'.used q=S.used q /\ S'.cont q=S.cont q:=fun q a b=>by
  obtain ⟨c,d,e⟩:=hf.keep q a b
  exact ⟨d.trans b.symm,e⟩
 have hpx:p ∉ pgs h x.2.1 x.2.2:=fun e=>hp (by simp [e])
 have hpu:=H.on.top
 refine ⟨k1.frame fun q hq=>kp q (fun e=>n3 q hq q (by simp [e]) rfl) (k1.used q hq),k3.frame fun q hq=>kp q (fun e=>n6 q e q hq rfl) (k3.used q hq),⟨(kp p hpx hpu.1).1.trans hpu.1,(kp p hpx hpu.1).2.trans hpu.2⟩,?_,?_⟩
 ·have:=nodup_swap (X:=p :: low (h + 1) A) (Y:=low (h + 1) B) (P:=pgs h x.2.1 x.2.2) (by simpa using hN) hf hn (by simpa using hU)
  simpa using this
 ·refine hf.ctx _ _ (p :: (low (h + 1) A ++ low (h + 1) B)) (fun q=>?_) (fun q=>?_)
  ·rw [pgs_low,low_mid]
   simp only [List.mem_cons,List.mem_append]
   constructor
   ·rintro (a | a | a | a) <;> simp [a]
   ·rintro (a | a | a | a) <;> simp [a]
  ·simp only [List.mem_cons,List.mem_append]
   constructor
   ·rintro (a | a | a | a) <;> simp [a]
   ·rintro (a | a | a | a) <;> simp [a]
theorem sing_mid (A B:List (Kid h)) (x:Kid h):sing (h + 1) (A ++ x :: B:List (Kid h))=(if A.length + B.length=0 then 1 else 0) + ((A.map fun x=>sing h x.2.2).sum + (sing h x.2.2 + (B.map fun x=>sing h x.2.2).sum)):=by
 have e:((A ++ x :: B).length=1) ↔ (A.length + B.length=0):=by rw [List.length_append,List.length_cons]; omega
 simp only [sing,e,List.map_append,List.map_cons,List.sum_append,List.sum_cons]
theorem PutOne.inner {t':PT h} (H:Tr S (h + 1) p (A ++ x :: B:List (Kid h))) (W:Way key A x B) (K:PutOne S S' h x.2.1 x.2.2 key val t') :
 PutOne S S' (h + 1) p (A ++ x :: B:List (Kid h)) key val (A ++ (x.1,x.2.1,t') :: B:List (Kid h)):=by
 obtain ⟨k1,k3,kp,hn,hf⟩:=K.frm.others H K.tr.nod
 have e:nd (h + 1) (A ++ (x.1,x.2.1,t') :: B:List (Kid h))=nd (h + 1) (A ++ x :: B:List (Kid h)):=by simp [nd]
 have hx:=H.wf.1 x (by simp)
 refine ⟨⟨⟨fun y hy=>?_,H.wf.2.set W x.2.1 t' K.ins.mem⟩,by rw [e]; exact H.pos,by rw [e]; exact H.fit,⟨by rw [e]; exact kp,Kids.mk k1 K.tr.on k3⟩,by rw [pgs_low,low_mid]; exact hn⟩,?_,by rw [pgs_low (h + 1) p (A ++ (x.1,x.2.1,t') :: B:List (Kid h)),low_mid]; exact hf,?_,by rw [e]; exact Nat.le_refl _,fun n c hc=>K.spr n c (hc.less (by omega)),by rw [e]; exact Nat.le_succ _,wt_one K.wtU⟩
 ·rcases List.mem_append.1 hy with hy | hy
  ·exact H.wf.1 y (by simp [hy])
  ·rcases List.mem_cons.1 hy with rfl | hy
   ·exact ⟨hx.1,hx.2.1,K.tr.pos,K.tr.fit,K.tr.wf⟩
   ·exact H.wf.1 y (by simp [hy])
 ·obtain ⟨w1,w2⟩:=H.wf.2.way W
  rw [ents_mid,ents_mid]
  exact K.ins.lift _ _ (fun a ha=>by obtain ⟨y,hy,he⟩:=(ents_mem h A a).1 ha; exact w1 y hy a he) fun b hb=>by obtain ⟨y,hy,he⟩:=(ents_mem h B b).1 hb; exact w2 y hy b he
 ·rw [sing_mid,sing_mid]
  have:=K.sng
  show _ + (_ + (sing h t' + _)) <= _
  omega
theorem size_mid_inner (l1 l2:List (ByteArray × Nat)) (k:ByteArray) (q:Nat):(Nd.inner (l1 ++ (k,q) :: l2)).size=(Nd.inner (l1 ++ l2)).size + (5 + k.size):=by
 rw [size_inner,size_inner]; simp [esI]; omega
theorem nd_two (t1 t2:PT h) (k:ByteArray) (q:Nat):nd (h + 1) (A ++ (x.1,x.2.1,t1) :: (k,q,t2) :: B:List (Kid h))=.inner ((A ++ [x]).map (fun x:Kid h=>(x.1,x.2.1)) ++ (k,q) :: B.map (fun x:Kid h=>(x.1,x.2.1))):=by simp [nd]
theorem nd_of_mid:nd (h + 1) (A ++ x :: B:List (Kid h))=.inner ((A ++ [x]).map (fun x:Kid h=>(x.1,x.2.1)) ++ B.map (fun x:Kid h=>(x.1,x.2.1))):=by simp [nd]
theorem Over.inner {t1 t2:PT h} {k:ByteArray} {q:Nat} (H:Tr S (h + 1) p (A ++ x :: B:List (Kid h))) (W:Way key A x B) (K:PutTwo S S' h x.2.1 x.2.2 key val k q t1 t2) :
 Over S S' (h + 1) p (A ++ x :: B:List (Kid h)) key val (A ++ (x.1,x.2.1,t1) :: (k,q,t2) :: B:List (Kid h)):=by
 obtain ⟨k1,k3,kp,hn,hf⟩:=K.frm.others H K.nod
 have hx:=H.wf.1 x (by simp)
 have hlow:low (h + 1) (A ++ (x.1,x.2.1,t1) :: (k,q,t2) :: B:List (Kid h))=low (h + 1) A ++ ((pgs h x.2.1 t1 ++ pgs h q t2) ++ low (h + 1) B):=by simp [low]
 have hsz:=H.fit
 rw [nd_of_mid] at hsz
 refine ⟨⟨fun y hy=>?_,?_⟩,?_,?_,Kids.mk k1 K.tr1.on (fun y hy=>?_),by rw [hlow]; exact hn,kp.1,?_,by rw [hlow]; exact hf,?_,?_,fun n c hc=>K.spr n c (hc.less (by omega)),by rw [nd_lenS,nd_lenS]; simp; omega,wt_two K.wtU.1 K.wtU.2.1 K.wtU.2.2⟩
 ·rcases List.mem_append.1 hy with hy | hy
  ·exact H.wf.1 y (by simp [hy])
  ·rcases List.mem_cons.1 hy with rfl | hy
   ·exact ⟨hx.1,hx.2.1,K.tr1.pos,K.tr1.fit,K.tr1.wf⟩
   ·rcases List.mem_cons.1 hy with rfl | hy
    ·exact ⟨K.ksz,K.qlt,K.tr2.pos,K.tr2.fit,K.tr2.wf⟩
    ·exact H.wf.1 y (by simp [hy])
 ·exact H.wf.2.part W x.2.1 q t1 t2 (fun e he=>K.ins.mem e (by simp [he])) (fun e he=>K.ins.mem e (by simp [he])) (ents_pos K.tr1.wf K.tr1.pos) K.lo K.hi
 ·rw [nd_lenS,List.length_append,List.length_cons]; omega
 ·rw [nd_two,size_mid_inner]; have:=K.ksz; omega
 ·rcases List.mem_cons.1 hy with rfl | hy
  ·exact K.tr2.on
  ·exact k3 y hy
 ·obtain ⟨w1,w2⟩:=H.wf.2.way W
  have e:ents (h + 1) (A ++ (x.1,x.2.1,t1) :: (k,q,t2) :: B:List (Kid h))=ents (h + 1) A ++ ((ents h t1 ++ ents h t2) ++ ents (h + 1) B):=by simp [ents]
  rw [ents_mid,e]
  exact K.ins.lift _ _ (fun a ha=>by obtain ⟨y,hy,he⟩:=(ents_mem h A a).1 ha; exact w1 y hy a he) fun b hb=>by obtain ⟨y,hy,he⟩:=(ents_mem h B b).1 hb; exact w2 y hy b he
 ·have:=K.sng
  rw [sing_mid,sing_mid]
  have e:¬ (A.length + ((k,q,t2) :: B).length=0):=by simp
  rw [if_neg e]
  simp only [List.map_cons,List.sum_cons]
  show _ + (_ + (sing h t1 + (sing h t2 + _))) <= _
  omega
 ·rw [nd_lenS,nd_lenS]; simp
end
section
variable {S S1:RS} {h p:Nat} {t u:PT h} {key val:ByteArray}
theorem Over.one (H:Over S S1 h p t key val u) (hs:(nd h u).size <= 512):PutOne S (wrS S1 p (nd h u)) h p t key val u:=by
 refine ⟨Tr.write H.wf H.pos hs H.kid (by rw [pgs_low]; exact H.nod) H.use,H.ins,?_,H.sng,H.len,fun n c hc=>(H.spr n c hc).write,H.lenU,H.wtU⟩
 rw [pgs_low h p u]
 exact H.frm.trans (Frm.write _ _ _ _ (by simp))
theorem big_len:∀ {h:Nat} {u:PT h},Wf h u -> 1 <= h -> 512 < (nd h u).size -> 6 <= (nd h u).len
 | 0,_,_,h,_=>absurd h (by decide)
 | h + 1,u,H,_,hs=>by
   obtain ⟨l,hl⟩:∃ l:List (Kid h),l=u:=⟨u,rfl⟩
   subst hl
   have h1:(List.map esI (List.map (fun x:Kid h=>(x.1,x.2.1)) l)).sum <= 101 * (List.map (fun x:Kid h=>(x.1,x.2.1)) l).length:=sum_le esI 101 _ fun x hx=>by
    obtain ⟨y,hy,rfl⟩:=List.mem_map.1 hx
    have:=(H.1 y hy).1
    show 5 + y.1.size <= 101
    omega
   have h2:512 < 3 + (List.map esI (List.map (fun x:Kid h=>(x.1,x.2.1)) l)).sum:=by
    rw [<- size_inner]; exact hs
   rw [nd_lenS]
   rw [List.length_map] at h1
   omega
theorem Over.ok (H:Over S S1 h p t key val u):(nd h u).Ok:=H.wf.ok H.pos (Nat.le_trans H.siz (by decide))
theorem Over.cut (H:Over S S1 h p t key val u) (hs:512 < (nd h u).size) {i:Nat} (hc:CutAt (nd h u) i):0 < i /\ i < (nd h u).len /\ ((nd h u).take i).size <= 512 /\ ((nd h u).drop i).size <= 512 /\ ((nd h u).isLeaf=false -> 2 <= ((nd h u).take i).len /\ 2 <= ((nd h u).drop i).len) :=
 hc.fit H.ok.key H.ok.val hs H.siz
theorem len_take (d:Nd) (i:Nat) (hi:i <= d.len):(d.take i).len=i /\ (d.drop i).len=d.len - i:=by
 cases d with
 | leaf l=>simp [Nd.take,Nd.drop,Nd.len,Nd.keys] at *; omega
 | inner l=>simp [Nd.take,Nd.drop,Nd.len,Nd.keys] at *; omega
theorem Over.two (H:Over S S1 h p t key val u) (hs:512 < (nd h u).size) {i:Nat} (hc:CutAt (nd h u) i) {q:Nat} (hq:S1.used q=false) (hq2:q < 65536) :
 PutTwo S (wrS (allocS (wrS S1 p (nd h (tk h i u))) q) q (nd h (dr h i u))) h p t key val ((nd h (dr h i u)).keys.getD 0 ByteArray.empty) q (tk h i u) (dr h i u):=by
 obtain ⟨h0,h1,h2,h3,h4⟩:=H.cut hs hc
 obtain ⟨e1,e2⟩:=len_take (nd h u) i (by omega)
 obtain ⟨w1,w2⟩:=H.wf.cut i
 obtain ⟨k1,k2⟩:=H.kid.cut i
 have hlow:=low_cut h i u
 have hN:=H.nod
 rw [<- hlow] at hN
 obtain ⟨n1,n2⟩:=List.nodup_cons.1 hN
 obtain ⟨n3,n4,n5⟩:=List.nodup_append.1 n2
 have hpq:p ≠ q:=fun e=>by have:=H.use; rw [e,hq] at this; cases this
 have hql:q ∉ low h u:=fun e=>by have:=H.kid.used q e; rw [hq] at this; cases this
 rw [<- hlow] at hql
 have T1:Tr (wrS S1 p (nd h (tk h i u))) h p (tk h i u):=Tr.write w1 (by rw [nd_tk,e1]; exact h0) (by rw [nd_tk]; exact h2) k1 (by rw [pgs_low]; exact List.nodup_cons.2 ⟨fun e=>n1 (by simp [e]),n3⟩) H.use
 have hu2:(wrS S1 p (nd h (tk h i u))).used q=false:=hq
 have k2':Kids (wrS S1 p (nd h (tk h i u))) h (dr h i u):=k2.frame fun r hr=>⟨rfl,by
  have:r ≠ p:=fun e=>n1 (by rw [<- e]; simp [hr])
  show (if r=p then _ else _)=_
  rw [if_neg this]⟩
 have T2:=Tr.fresh w2 (by rw [nd_dr,e2]; omega) (by rw [nd_dr]; exact h3) k2' n4 hu2
 have f1:=H.frm.trans (Frm.write (p :: low h u) S1 p (nd h (tk h i u)) (by simp))
 have f2:=f1.trans (Frm.alloc (p :: low h u) _ q hu2)
 have f3:=f2.trans (Frm.write (q :: p :: low h u) _ q (nd h (dr h i u)) (by simp))
 obtain ⟨g1,g2,g3⟩:=H.wf.first i h0 (by rw [nd_dr,e2]; omega)
 have hmem:∀ r,r ∈ pgs h p (tk h i u) ++ pgs h q (dr h i u) ↔ r ∈ q :: p :: low h u:=fun r=>by
  rw [pgs_low,pgs_low,<- hlow]
  simp only [List.mem_append,List.mem_cons]
  constructor
  ·rintro ((a | a) | (a | a)) <;> simp [a]
  ·rintro (a | a | a | a) <;> simp [a]
 refine ⟨T1.frame fun r hr=>?_,T2,by rw [ents_cut]; exact H.ins,?_,?_,hq2,g3,g1,g2,?_,fun n c hc'=>?_,fun hh=>?_,fun hh=>?_,?_⟩
 ·have hr':r ≠ q:=fun e=>by
   rw [pgs_low] at hr
   rcases List.mem_cons.1 hr with e' | e'
   ·exact hpq (by rw [<- e',e])
   ·exact hql (by rw [<- e]; simp [e'])
  refine ⟨?_,?_⟩
  ·show flip _ q r=_
   unfold flip; rw [if_neg hr']
  ·show (if r=q then _ else if r=q then _ else _)=_
   rw [if_neg hr',if_neg hr']
 ·exact ⟨fun r a b=>by obtain ⟨x,y,z⟩:=f3.keep r a b; exact ⟨fun e=>x ((hmem r).1 e),y,z⟩,fun r a=>(f3.back r a).imp (fun e=>(hmem r).2 e) id,f3.root,f3.base⟩
 ·rw [pgs_low,pgs_low]
  refine List.nodup_append.2 ⟨List.nodup_cons.2 ⟨fun e=>n1 (by simp [e]),n3⟩,List.nodup_cons.2 ⟨fun e=>hql (by simp [e]),n4⟩,fun a ha b hb e=>?_⟩
  subst e
  rcases List.mem_cons.1 ha with rfl | ha
  ·rcases List.mem_cons.1 hb with e | hb
   ·exact hpq e
   ·exact n1 (by simp [hb])
  ·rcases List.mem_cons.1 hb with rfl | hb
   ·exact hql (by simp [ha])
   ·exact n5 a ha a hb rfl
 ·refine Nat.le_trans ?_ H.sng
  cases h with
  | zero=>simp [sing]
  | succ h =>
    obtain ⟨a,b⟩:=h4 rfl
    exact sing_cut (h + 1) i u (by rw [nd_tk]; exact a) (by rw [nd_dr]; exact b)
 ·exact ((H.spr n (c + 1) (hc'.less (by omega))).write.alloc hu2).write
 ·have:=H.lenU
  have:=big_len H.wf hh hs
  omega
 ·have:=big_len H.wf hh hs
  rw [nd_tk,nd_dr,e1,e2]
  omega
 ·refine ⟨by rw [wt_cut]; exact H.wtU,wt_many _ ⟨fun _=>by rw [nd_tk,e1]; omega,fun hh=>?_⟩,wt_many _ ⟨fun _=>by rw [nd_dr,e2]; omega,fun hh=>?_⟩⟩
  ·rw [nd_tk]
   cases h with
   | zero=>omega
   | succ h=>exact (h4 rfl).1
  ·rw [nd_dr]
   cases h with
   | zero=>omega
   | succ h=>exact (h4 rfl).2
end
theorem Over.leaf {S:RS} {p:Nat} {A B:List (ByteArray × ByteArray)} {t:List (ByteArray × ByteArray)} {key val:ByteArray} (H:Tr S 0 p t) (ht:t=A ++ B \/ ∃ v,t=A ++ (key,v) :: B) (hA:∀ a ∈ A,kless a.1 key=true) (hB:∀ b ∈ B,kless key b.1=true) (hk:key.size <= 96) (hv:val.size <= 56) :
 Over S S 0 p t key val (A ++ (key,val) :: B):=by
 have hsrt:Srt (A ++ B):=by
  rcases ht with rfl | ⟨v,rfl⟩
  ·exact H.wf.2
  ·exact (srt_of H.wf.2).1
 have hmem:∀ e ∈ A ++ B,e.1.size <= 96 /\ e.2.size <= 56:=fun e he=>by
  rcases ht with rfl | ⟨v,rfl⟩
  ·exact H.wf.1 e he
  ·exact H.wf.1 e (by rcases List.mem_append.1 he with h | h <;> simp [h])
 have hsz:(Nd.leaf (A ++ B)).size <= 512:=by
  have:=H.fit
  rcases ht with rfl | ⟨v,rfl⟩
  ·exact this
  ·rw [nd_leaf,size_leaf] at this
   rw [size_leaf]
   simp at this ⊢; omega
 refine ⟨⟨fun e he=>?_,srt_mid hsrt hA hB⟩,by rw [nd_len0,List.length_append,List.length_cons]; omega,?_,trivial,by simp [low],H.on.1,⟨A,B,rfl,ht,hA,hB⟩,Frm.refl _ _,by simp [sing],?_,fun n c hc=>hc,by rw [nd_len0,nd_len0]; rcases ht with rfl | ⟨v,rfl⟩ <;> simp <;> omega,by rw [wt_zero,wt_zero]; rcases ht with rfl | ⟨v,rfl⟩ <;> simp <;> omega⟩
 ·rcases List.mem_append.1 he with he | he
  ·exact hmem e (by simp [he])
  ·rcases List.mem_cons.1 he with rfl | he
   ·exact ⟨hk,hv⟩
   ·exact hmem e (by simp [he])
 ·rw [nd_leaf,size_leaf]
  rw [size_leaf] at hsz
  simp [esL] at hsz ⊢; omega
 ·rw [nd_len0,nd_len0]
  rcases ht with rfl | ⟨v,rfl⟩ <;> simp
theorem RmS.frame {w w':World} {G F:Nat -> Prop} {rb n m:Nat} {S:RS} (h:RmS w G rb n m S) (hu:Upd F w w') (hn:∀ k,G k -> ¬ F k):RmS w' G rb n m S:=by
 obtain ⟨puts,a,b,c⟩:=h; exact ⟨puts,a,b.frame hu hn,c⟩
structure TBase (w0 W:World) (G0 G:Nat -> Prop) (tb rb place n m:Nat) (S:RS):Prop where
 room:RmS W G rb n m S
 up:Upd G0 w0 W
 sub:∀ k,G k -> G0 k \/ w0.heap.size <= k
 blk:TB W tb rb place
 gt:¬ G tb
 tl:tb < w0.heap.size
section
variable {w0 W W':World} {G0 G G':Nat -> Prop} {tb rb place n m m':Nat} {S S':RS}
theorem TBase.start (h:RmS w0 G rb n m S) (ht:TB w0 tb rb place) (hg:¬ G tb):TBase w0 w0 G G tb rb place n m S:=⟨h,Upd.refl _ _,fun _ e=>.inl e,ht,hg,lt_of_heap ht⟩
theorem TBase.below (h:TBase w0 W G0 G tb rb place n m S) (hb:Below W.heap.size W W'):TBase w0 W' G0 G tb rb place n m S :=
 ⟨h.room.below hb,h.up.trans' (hb.upd' (Nat.le_refl _)) (fun _ _ e=>False.elim e),h.sub,h.blk.below hb,h.gt,h.tl⟩
theorem TBase.step (h:TBase w0 W G0 G tb rb place n m S) (hg:StGo W W' G rb n m' S'):∃ G',TBase w0 W' G0 G' tb rb place n m' S' /\ Turn G G' W W':=by
 obtain ⟨G',a,b⟩:=hg
 have hs:=h.up.size
 have htW:=lt_of_heap h.blk
 refine ⟨G',⟨a,h.up.trans' b.upd fun j hj e=>(h.sub j e).resolve_right (by omega),fun k hk=>?_,h.blk.upd b.upd h.gt,fun e=>?_,h.tl⟩,b⟩
 ·rcases b.sub k hk with e | e
  ·exact h.sub k e
  ·exact .inr (by omega)
 ·rcases b.sub tb e with e | e
  ·exact h.gt e
  ·omega
theorem TBase.node (h:TBase w0 W G0 G tb rb place n m S) {F:Nat -> Prop} (hu:Upd F W W') (hF:∀ k,F k -> w0.heap.size <= k /\ ¬ G k):TBase w0 W' G0 G tb rb place n m S :=
 ⟨h.room.frame hu fun k hk e=>(hF k e).2 hk,h.up.trans' hu fun j hj e=>absurd (hF j e).1 (by omega),h.sub,h.blk.upd hu fun e=>by have:=(hF tb e).1; have:=h.tl; omega,h.gt,h.tl⟩
theorem TBase.go (h:TBase w0 W G0 G tb rb place n m S):StGo w0 W G0 rb n m S:=⟨G,h.room,h.up,h.sub⟩
def Nod (w0 W:World) (G:Nat -> Prop) (q:Nat) (d:Nd):Prop:=∃ F,IsNd W F q d /\ ∀ k,F k -> w0.heap.size <= k /\ ¬ G k
def RdN (w0 W:World) (G:Nat -> Prop) (q:Nat) (d:Nd):Prop:=∃ F,RdIn W q d F /\ ∀ k,F k -> w0.heap.size <= k /\ ¬ G k
theorem IsNd.rdIn {W:World} {F:Nat -> Prop} {q:Nat} {d:Nd} (h:IsNd W F q d):RdIn W q d F:=by
 obtain ⟨vk,vv,vi,a⟩:=h
 exact ⟨vk,vv,vi,a.read,fun k hk=>⟨a.lt k ((a.own k).2 hk),(a.own k).2 hk⟩⟩
variable {q:Nat} {d:Nd}
theorem Nod.rd (h:Nod w0 W G q d):RdN w0 W G q d:=by
 obtain ⟨F,a,b⟩:=h; exact ⟨F,a.rdIn,b⟩
theorem Nod.start {F:Nat -> Prop} (h:IsNd W F q d) (hF:∀ k,F k -> w0.heap.size <= k) (hG:∀ k,G k -> k < w0.heap.size):Nod w0 W G q d:=⟨F,h,fun k hk=>⟨hF k hk,fun e=>by have:=hF k hk; have:=hG k e; omega⟩⟩
theorem Nod.below (h:Nod w0 W G q d) (hb:Below W.heap.size W W'):Nod w0 W' G q d:=by
 obtain ⟨F,a,b⟩:=h; exact ⟨F,a.below hb (Nat.le_refl _),b⟩
theorem Nod.turn (h:Nod w0 W G q d) (ht:Turn G G' W W'):Nod w0 W' G' q d:=by
 obtain ⟨F,a,b⟩:=h
 refine ⟨F,a.upd ht.upd fun k hk=>(b k hk).2,fun k hk=>⟨(b k hk).1,fun e=>?_⟩⟩
 rcases ht.sub k e with e | e
 ·exact (b k hk).2 e
 ·have:=a.lt k hk; omega
theorem Nod.go {d':Nd} {F:Nat -> Prop} (hF:∀ k,F k -> w0.heap.size <= k /\ ¬ G k) (hg:NdGo W W' F q d') (hG:∀ k,G k -> k < W.heap.size) (hs:w0.heap.size <= W.heap.size):Nod w0 W' G q d':=by
 obtain ⟨F',a,b,c⟩:=hg
 refine ⟨F',a,fun k hk=>?_⟩
 rcases b k hk with e | e
 ·exact hF k e
 ·exact ⟨by omega,fun e'=>by have:=hG k e'; omega⟩
theorem RdN.below (h:RdN w0 W G q d) (hb:Below W.heap.size W W'):RdN w0 W' G q d:=by
 obtain ⟨F,a,b⟩:=h; exact ⟨F,a.upd (hb.upd' (Nat.le_refl _)) fun k _ _ e=>e,b⟩
theorem RdN.turn (h:RdN w0 W G q d) (ht:Turn G G' W W'):RdN w0 W' G' q d:=by
 obtain ⟨F,a,b⟩:=h
 have a':=a.upd ht.upd fun k hk _=>(b k hk).2
 obtain ⟨vk,vv,vi,x,y⟩:=a
 obtain ⟨vk',vv',vi',x',y'⟩:=a'
 refine ⟨fun k=>F k /\ k < W.heap.size,⟨vk,vv,vi,?_,fun k hk=>⟨Nat.lt_of_lt_of_le (y k hk).1 ht.upd.size,(y k hk).2,(y k hk).1⟩⟩,fun k hk=>⟨(b k hk.1).1,fun e=>?_⟩⟩
 ·have c:=x.oth.upd ht.upd fun k hk=>⟨(y k hk).1,(b k (y k hk).2).2⟩
  exact ⟨c.blk,c.ks,c.vs,c.is⟩
 ·rcases ht.sub k e with e | e
  ·exact (b k hk.1).2 e
  ·have:=hk.2; omega
theorem RdN.view (h:RdN w0 W G q d):∃ vk vv vi,NdV W q d vk vv vi:=by
 obtain ⟨F,⟨vk,vv,vi,a,-⟩,-⟩:=h; exact ⟨vk,vv,vi,a⟩
end
theorem size_nd (q:Nat) (d:Nd) (vk vv vi:Value) (w:World) (h:NdV w q d vk vv vi) (hd:d.Ok) :
 Calls Tryz.prog 178 #[.pointer (some ⟨q,0,none⟩)] w fun e w'=>e=.returned (.int .i64 (d.size:Nat)) /\ w'=w :=
 size_c q d.isLeaf d.keys d.vals vk vv vi (0,0) w h.blk h.ks hd.pos (fun e=>⟨h.vs,d.vals_len e⟩) hd.key hd.val (Nat.le_of_lt hd.few)
theorem split_nd (F:Nat -> Prop) (q:Nat) (d:Nd) (w:World) (h:IsNd w F q d) (hd:d.Ok) (h1:512 < d.size) (h2:d.size <= 666) :
 Calls Tryz.prog 179 #[.pointer (some ⟨q,0,none⟩)] w fun e w'=>∃ q1,e=.returned (.pointer (some ⟨q1,0,none⟩)) /\ Hid (∃ i,CutAt d i /\ RdIn w' q (d.take i) F /\ RdIn w' q1 (d.drop i) (fun k=>w.heap.size <= k) /\ Upd F w w'):=by
 obtain ⟨vk,vv,vi,h⟩:=h
 have hcut:∀ i,i <= d.len -> d.size / 2 <= szUp d.isLeaf d.keys d.vals i -> (0 < i -> szUp d.isLeaf d.keys d.vals (i - 1) < d.size / 2) -> CutAt d i /\ 0 < i /\ i < d.len:=fun i a b c=>by
  have hc:CutAt d i:=⟨a,b,c⟩
  have:=hc.fit hd.key hd.val h1 h2
  exact ⟨hc,this.1,this.2.1⟩
 cases d with
 | leaf l =>
   refine (split_leaf q (l.map Prod.fst) (l.map Prod.snd) vk vv vi w h.parts (by simp) hd.key hd.val (Nat.le_of_lt hd.few) (fun i a b c=>(hcut i a b c).2) hd.pos).mono ?_
   rintro e w' ⟨q1,rfl,i,g,cap,g2,cap2,b1,b2,b3,c0,c1,c2,c3,rfl,rfl,sp⟩
   refine ⟨q1,rfl,i,(hcut i (Nat.le_of_lt c1) c2 fun _=>c3).1,?_,?_,sp.up.mono fun k _ e=>(h.own k).2 (.inl e)⟩
   ·have hl1:∀ k,(Value.slice (some (⟨g,0,none⟩:Addr)) (l.map Prod.fst).length cap).ownBlock=some k -> k < w.heap.size /\ ¬ k=q:=fun k hk=>⟨(h.ks.lt k hk).2,fun e=>h.pk (by rw [<- e]; exact hk)⟩
    have hl2:∀ k,(Value.slice (some (⟨g2,0,none⟩:Addr)) (l.map Prod.fst).length cap2).ownBlock=some k -> k < w.heap.size /\ ¬ k=q:=fun k hk=>⟨(h.vs.lt k hk).2,fun e=>h.pv (by rw [<- e]; exact hk)⟩
    have hl3:∀ k,vi.ownBlock=some k -> k < w.heap.size /\ ¬ k=q:=fun k hk=>⟨(h.is.lt k hk).2,fun e=>h.pi (by rw [<- e]; exact hk)⟩
    have r1:=((RRow.of_own h.ks).kept fun k hk=>sp.up.block k (hl1 k hk).1 (hl1 k hk).2).take (i:=i) (by simp [Nd.keys]) c1
    have r2:=((RRow.of_own h.vs).kept fun k hk=>sp.up.block k (hl2 k hk).1 (hl2 k hk).2).take (i:=i) (by simp [Nd.vals]) c1
    have r3:=(RRow.of_own h.is).kept fun k hk=>sp.up.block k (hl3 k hk).1 (hl3 k hk).2
    refine ⟨_,_,_,⟨sp.bp,?_,?_,?_⟩,fun k hk=>?_⟩
    ·simpa [Nd.keys,Nd.take,List.map_take] using r1
    ·simpa [Nd.vals,Nd.take,List.map_take] using r2
    ·exact r3
    ·have hs:=sp.up.size
     rcases hk with e | e | e | e
     ·exact ⟨by rw [e]; exact lt_of_heap sp.bp,(h.own k).2 (.inl e)⟩
     ·exact ⟨Nat.lt_of_lt_of_le (hl1 k e).1 hs,(h.own k).2 (.inr (.inl e))⟩
     ·exact ⟨Nat.lt_of_lt_of_le (hl2 k e).1 hs,(h.own k).2 (.inr (.inr (.inl e)))⟩
     ·exact ⟨Nat.lt_of_lt_of_le (hl3 k e).1 hs,(h.own k).2 (.inr (.inr (.inr e)))⟩
   ·refine ⟨_,_,_,⟨sp.rq.blk,?_,?_,?_⟩,fun k hk=>⟨sp.rq.lt k hk,sp.nw k hk⟩⟩
    ·simpa [Nd.keys,Nd.drop,List.map_drop] using RRow.of_own sp.rq.ks
    ·simpa [Nd.vals,Nd.drop,List.map_drop] using RRow.of_own sp.rq.vs
    ·exact RRow.of_own sp.rq.is
 | inner l =>
   refine (split_inner q (l.map Prod.fst) (l.map Prod.snd) vk vv vi w h.parts (by simp) hd.key (Nat.le_of_lt hd.few) (fun i a b c=>(hcut i a b c).2) hd.pos).mono ?_
   rintro e w' ⟨q1,rfl,i,g,cap,g2,cap2,b1,b2,b3,c0,c1,c2,c3,rfl,rfl,sp⟩
   refine ⟨q1,rfl,i,(hcut i (Nat.le_of_lt c1) c2 fun _=>c3).1,?_,?_,sp.up.mono fun k _ e=>(h.own k).2 (.inl e)⟩
   ·have hl1:∀ k,(Value.slice (some (⟨g,0,none⟩:Addr)) (l.map Prod.fst).length cap).ownBlock=some k -> k < w.heap.size /\ ¬ k=q:=fun k hk=>⟨(h.ks.lt k hk).2,fun e=>h.pk (by rw [<- e]; exact hk)⟩
    have hl2:∀ k,vv.ownBlock=some k -> k < w.heap.size /\ ¬ k=q:=fun k hk=>⟨(h.vs.lt k hk).2,fun e=>h.pv (by rw [<- e]; exact hk)⟩
    have hl3:∀ k,(Value.slice (some (⟨g2,0,none⟩:Addr)) (l.map Prod.fst).length cap2).ownBlock=some k -> k < w.heap.size /\ ¬ k=q:=fun k hk=>⟨(h.is.lt k hk).2,fun e=>h.pi (by rw [<- e]; exact hk)⟩
    have r1:=((RRow.of_own h.ks).kept fun k hk=>sp.up.block k (hl1 k hk).1 (hl1 k hk).2).take (i:=i) (by simp [Nd.keys]) c1
    have r2:=(RRow.of_own h.vs).kept fun k hk=>sp.up.block k (hl2 k hk).1 (hl2 k hk).2
    have r3:=((RRow.of_own h.is).kept fun k hk=>sp.up.block k (hl3 k hk).1 (hl3 k hk).2).take (i:=i) (by simp [Nd.kids]) c1
    refine ⟨_,_,_,⟨sp.bp,?_,?_,?_⟩,fun k hk=>?_⟩
    ·simpa [Nd.keys,Nd.take,List.map_take] using r1
    ·exact r2
    ·simpa [Nd.kids,Nd.take,List.map_take] using r3
    ·have hs:=sp.up.size
     rcases hk with e | e | e | e
     ·exact ⟨by rw [e]; exact lt_of_heap sp.bp,(h.own k).2 (.inl e)⟩
     ·exact ⟨Nat.lt_of_lt_of_le (hl1 k e).1 hs,(h.own k).2 (.inr (.inl e))⟩
     ·exact ⟨Nat.lt_of_lt_of_le (hl2 k e).1 hs,(h.own k).2 (.inr (.inr (.inl e)))⟩
     ·exact ⟨Nat.lt_of_lt_of_le (hl3 k e).1 hs,(h.own k).2 (.inr (.inr (.inr e)))⟩
   ·refine ⟨_,_,_,⟨sp.rq.blk,?_,?_,?_⟩,fun k hk=>⟨sp.rq.lt k hk,sp.nw k hk⟩⟩
    ·simpa [Nd.keys,Nd.drop,List.map_drop] using RRow.of_own sp.rq.ks
    ·exact RRow.of_own sp.rq.vs
    ·have:=RRow.of_own sp.rq.is
     simp only [Nd.kids,Nd.drop,List.map_drop] at this ⊢
     exact this
theorem set_val {w:World} {F:Nat -> Prop} {q:Nat} {A B:List (ByteArray × ByteArray)} {key v:ByteArray} (h:IsNd w F q (.leaf (A ++ (key,v) :: B))) (val:ByteArray) :
 ∃ g cap,w.cell? ⟨q,2,none⟩=some (.slice (some ⟨g,0,none⟩) (A.length + 1 + B.length) cap) /\ w.cell? ⟨g,A.length,none⟩=some (.string v) /\ w.frozen? ⟨g,A.length,none⟩=false /\ NdGo w (w.setCell ⟨g,A.length,none⟩ (.string val)) F q (.leaf (A ++ (key,val) :: B)):=by
 obtain ⟨vk,vv,vi,h⟩:=h
 have hl:(Nd.leaf (A ++ (key,v) :: B)).vals.length=A.length + 1 + B.length:=by simp [Nd.vals]; omega
 have hr:=h.vs
 rw [hl] at hr
 rcases hr.2 with ⟨rfl,h0⟩ | ⟨g,cap,cur,rfl,-⟩
 ·omega
 have hgF:F g:=(h.own g).2 (.inr (.inr (.inl rfl)))
 have hgp:g ≠ q:=fun e=>h.pv (by rw [<- e]; rfl)
 obtain ⟨s1,s2⟩:=World.ownsRow.stored hr A.length (.string val)
 have e1:((Nd.leaf (A ++ (key,v) :: B)).vals.map Value.string).set A.length (.string val)=(Nd.leaf (A ++ (key,val) :: B)).vals.map Value.string:=by simp [Nd.vals]
 rw [e1] at s1
 refine ⟨g,cap,cell_lit h.blk rfl,?_,hr.frozenAt _,F,⟨_,_,_,⟨?_,?_,?_,?_,h.pk,h.pv,h.pi,h.kv,h.ki,h.vi',h.own⟩⟩,fun k hk=>.inl hk,(Upd.refl _ _).setCell (p:=⟨g,A.length,none⟩) (.inl hgF) _⟩
 ·rw [hr.cellAt A.length (by omega)]; simp [Nd.vals]
 ·exact (heap_set_ne _ (fun e=>hgp e.symm)).trans h.blk
 ·have:=row_set h.ks A.length (.string val) (p:=g) (fun e=>h.kv g e rfl)
  simpa [Nd.keys,Nd.len] using this
 ·have e2:(Nd.leaf (A ++ (key,val) :: B)).vals.length=A.length + 1 + B.length:=by simp [Nd.vals]; omega
  rw [e2]; exact s1
 ·exact row_set h.is A.length (.string val) (p:=g) (fun e=>h.vi' g rfl e)
section
variable {w0 W:World} {G0 G:Nat -> Prop} {tb rb place n m:Nat} {S:RS} {q:Nat} {d:Nd}
theorem tail_size (hN:Nod w0 W G q d) (hd:d.Ok):Calls Tryz.prog 178 #[.pointer (some ⟨q,0,none⟩)] W fun e w'=>e=.returned (.int .i64 (d.size:Nat)) /\ w'=W:=by
 obtain ⟨vk,vv,vi,a⟩:=hN.rd.view
 exact size_nd q d vk vv vi W a hd
theorem tail_write (hB:TBase w0 W G0 G tb rb place n m S) (p:Nat) (hN:RdN w0 W G q d) (hd:d.Ok) (hs:d.size <= 512) (hu:S.used p=true) (hm:m <= 3999000) :
 Calls Tryz.prog 176 #[.pointer (some ⟨tb,0,none⟩),.int .i64 (p:Int),.pointer (some ⟨q,0,none⟩)] W fun e w'=>e=.returned (.tuple #[]) /\ Hid (∃ G',TBase w0 w' G0 G' tb rb place n (m + 1) (wrS S p d) /\ Turn G G' W w'):=by
 obtain ⟨F,a,b⟩:=hN
 refine (write_c G F tb rb place n m S p q d W hB.room hB.blk hB.gt (by omega) hd hs a hu).mono ?_
 rintro e w' ⟨rfl,hg⟩
 exact ⟨rfl,hB.step hg⟩
theorem tail_split (hB:TBase w0 W G0 G tb rb place n m S) (hN:Nod w0 W G q d) (hd:d.Ok) (h1:512 < d.size) (h2:d.size <= 666) :
 Calls Tryz.prog 179 #[.pointer (some ⟨q,0,none⟩)] W fun e w'=>∃ q1,e=.returned (.pointer (some ⟨q1,0,none⟩)) /\ Hid (∃ i,CutAt d i /\ TBase w0 w' G0 G tb rb place n m S /\ RdN w0 w' G q (d.take i) /\ RdN w0 w' G q1 (d.drop i)):=by
 obtain ⟨F,a,b⟩:=hN
 refine (split_nd F q d W a hd h1 h2).mono ?_
 rintro e w' ⟨q1,rfl,i,c,x,y,z⟩
 refine ⟨q1,rfl,i,c,hB.node z b,⟨F,x,b⟩,⟨_,y,fun k hk=>⟨Nat.le_trans hB.up.size hk,fun e=>?_⟩⟩⟩
 have:=hB.room.lt k e; omega
theorem tail_fresh (hB:TBase w0 W G0 G tb rb place n m S) (hN:RdN w0 W G q d) (hd:d.Ok) (hs:d.size <= 512) (hm:m <= 3999000) (hf:∃ r,r < pagesN n /\ S.used r=false) :
 Calls Tryz.prog 127 #[.pointer (some ⟨tb,0,none⟩),.pointer (some ⟨q,0,none⟩)] W fun e w'=>∃ r:Nat,e=.returned (.int .i64 r) /\ Hid (r < pagesN n /\ S.used r=false /\ ∃ G',TBase w0 w' G0 G' tb rb place n (m + 3) (wrS (allocS S r) r d) /\ Turn G G' W w'):=by
 obtain ⟨F,a,b⟩:=hN
 refine (fresh_c G F tb rb place n m S q d W hB.room hB.blk hB.gt (by omega) hd hs a (fun k hk=>(b k hk).2) hf).mono ?_
 rintro e w' ⟨r,rfl,x,y,hg⟩
 exact ⟨r,rfl,x,y,hB.step hg⟩
end
theorem RdN.key0 {w0 W:World} {G:Nat -> Prop} {q:Nat} {d:Nd} (h:RdN w0 W G q d) (hp:0 < d.len) :
 ∃ g off nn cap,0 < nn /\ W.cell? ⟨q,1,none⟩=some (.slice (some ⟨g,off,none⟩) nn cap) /\ W.cell? ⟨g,off,none⟩=some (.string (d.keys.getD 0 ByteArray.empty)) /\ q < W.heap.size /\ g < W.heap.size /\ ¬ G q /\ ¬ G g:=by
 obtain ⟨F,⟨vk,vv,vi,a,b⟩,c⟩:=h
 obtain ⟨g,off,cap,rfl,hcap,hc⟩:=a.ks.lit (by simpa [Nd.len] using hp)
 have h0:=strs_at hc 0 hp
 refine ⟨g,off,_,cap,by simpa [Nd.len] using hp,cell_lit a.blk rfl,h0,lt_of_heap a.blk,World.block_lt_of_cell? W _ h0,(c q (b q (.inl rfl)).2).2,(c g (b g (.inr (.inl rfl))).2).2⟩
def PutPost (w w':World) (G:Nat -> Prop) (rb n m:Nat) (S:RS) (h p:Nat) (t:PT h) (key val k:ByteArray) (q:Nat) (more:Bool):Prop :=
 ∃ S',StGo w w' G rb n m S' /\ if more then ∃ t1 t2,PutTwo S S' h p t key val k q t1 t2 else k=ByteArray.empty /\ q=0 /\ ∃ t',PutOne S S' h p t key val t'
theorem TBase.more {w0 W:World} {G0 G:Nat -> Prop} {tb rb place n m m':Nat} {S:RS} (h:TBase w0 W G0 G tb rb place n m S) (hm:m <= m'):TBase w0 W G0 G tb rb place n m' S:=⟨h.room.more hm,h.up,h.sub,h.blk,h.gt,h.tl⟩
theorem drewN_below (w:World) (q:Nat):Below w.heap.size w (w.drewN q):=Below.drewN (Below.refl _ _) q
theorem put_leaf (G:Nat -> Prop) (tb rb place n m:Nat) (S:RS) (p:Nat) (t:PT 0) (key val:ByteArray) (deep:Nat) (w:World) (h:RmS w G rb n m S) (ht:TB w tb rb place) (hg:¬ G tb) (hT:Tr S 0 p t) (hks:key.size <= 96) (hvs:val.size <= 56) (hdp:deep <= 20) (hsp:Spare S n 1) (hm:m <= 3998000) :
 Calls Tryz.prog 128 #[.pointer (some ⟨tb,0,none⟩),.int .i64 (p:Int),.string key,.string val,.int .i64 (deep:Int)] w fun e w'=>∃ (k:ByteArray) (q:Nat) (more:Bool),e=.returned (.tuple #[.string k,.int .i64 (q:Int),.bool more]) /\ Hid (PutPost w w' G rb n (m + 4) S 0 p t key val k q more):=by
 have RD:=Hd (read_c G tb rb place n m S p (nd 0 t) w h ht (by omega) hT.ok hT.fit hT.on.top.1 hT.on.top.2)
 have B0:=Hd (TBase.start h ht hg)
 have HM1:Hid (m <= 3999000):=Hd (by omega)
 have HM3:Hid (m + 1 <= 3999000):=Hd (by omega)
 have HM2:Hid (m + 1 <= m + 4):=Hd (by omega)
 have HM4:Hid (m + 1 + 3 <= m + 4):=Hd (by omega)
 have HSP:Hid (Spare S n (0 + 1)):=Hd hsp
 have HG:=Hd h.lt
 have hd1:¬ (20:Int) < (deep:Int):=by omega
 have HT:=Hd hT
 obtain ⟨A,B,rfl,hA,hB,hor⟩:=lb_split t key hT.wf.srt
 have hlen:(Nd.leaf (A ++ B)).len <= 1000000:=Nat.le_of_lt (Nat.lt_trans hT.ok.few (by decide))
 have HL:=Hd hlen
 have HPOS:=Hd hT.pos
 have HA:=Hd hA
 have HB:=Hd hB
 have HKS:=Hd hks
 have HVS:=Hd hvs
 have HN4:Hid ((A ++ B).length <= 90000):=Hd (by have:=hT.ok.few; rw [nd_len0] at this; exact Nat.le_of_lt (Nat.lt_trans this (by decide)))
 clear h ht hg hT hsp hm hlen hA hB hks hvs hdp
 rcases hor with ⟨v,B',rfl,hB'⟩ | hB'
 ·have OV:=Hd (Over.leaf (val:=val) HT.out (.inr ⟨v,rfl⟩) HA.out hB' HKS.out HVS.out)
  clear hB'
  go_enter Tryz.func128,Tryz.ntmps128
  go_wp2_with fail
  refine RD.out.mono ?_
  rintro e w1 ⟨q,rfl,HQ⟩
  obtain ⟨F,x1,x2,x3⟩:=HQ.out
  have N1:=Hd (Nod.start (w0:=w) (G:=G) x1 x2 HG.out)
  have B1:=Hd (B0.out.below x3)
  obtain ⟨vk,vv,vi,hv1⟩:=N1.out.rd.view
  have c0:w1.cell? ⟨q,0,none⟩=some (.bool true):=cell_lit hv1.blk rfl
  have FD:=Hd (find_c true q (.leaf (A ++ (key,v) :: B')) vk vv vi (A.map Prod.fst) (key :: B'.map Prod.fst) key w1 hv1 (by simp [Nd.keys]) HPOS.out HL.out (fun a ha=>by obtain ⟨e,he,rfl⟩:=List.mem_map.1 ha; exact HA.out e he) (fun b hb=>by
   rcases List.mem_cons.1 hb with rfl | hb
   ·exact kless_irrefl _
   ·obtain ⟨e,he,rfl⟩:=List.mem_map.1 hb; exact HB.out e (by simp [he])) ⟨fun _=>⟨_,rfl⟩,fun _=>rfl⟩)
  rw [List.length_map] at FD
  clear x1 x2 x3 HQ hv1 RD B0
  go_wp2_with fail
  refine FD.out.mono ?_
  rintro e w2 ⟨rfl,qn,rfl⟩
  have N2:=N1.out.below (drewN_below w1 qn)
  have B2:=B1.out.below (drewN_below w1 qn)
  generalize w1.drewN qn=w2 at *
  obtain ⟨F2,y1,y2⟩:=N2
  obtain ⟨g2,cap2,s1,s2,s3,s4⟩:=set_val y1 val
  have NT:Hid (Nod w (w2.setCell ⟨g2,A.length,none⟩ (.string val)) G q (nd 0 (A ++ (key,val) :: B'))):=Hd (Nod.go y2 s4 B2.room.lt B2.up.size)
  have BT:=Hd (B2.node (by obtain ⟨F',a,b,c⟩:=s4; exact c) y2)
  have hlt:(A.length:Int) < ((A.length + 1 + B'.length:Nat):Int):=by omega
  clear y1 y2 s4 B2 N1 B1 FD c0
  go_wp2_with fail
  have TS:=Hd (tail_size NT.out OV.out.ok)
  refine TS.out.mono ?_
  rintro e w4 ⟨rfl,rfl⟩
  clear TS
  by_cases hsz:(nd 0 (A ++ (key,val) :: B')).size <= 512
  ·have TW:=Hd (tail_write BT.out p NT.out.rd OV.out.ok hsz OV.out.use HM1.out)
   have hI:(((nd 0 (A ++ (key,val) :: B')).size:Nat):Int) <= 512:=by omega
   have HSZ:=Hd hsz
   clear hsz
   go_wp2_with fail
   refine TW.out.mono ?_
   rintro e w5 ⟨rfl,HW⟩
   clear hI TW
   go_wp2_with fail
   go_ret3
   obtain ⟨G5,b5,-⟩:=HW.out
   exact ⟨ByteArray.empty,0,false,rfl,_,(b5.more HM2.out).go,rfl,rfl,_,OV.out.one HSZ.out⟩
  ·have TSp:=Hd (tail_split BT.out NT.out OV.out.ok (by omega) OV.out.siz)
   have hI:¬ (((nd 0 (A ++ (key,val) :: B')).size:Nat):Int) <= 512:=by omega
   have HSZ:=Hd (show 512 < (nd 0 (A ++ (key,val) :: B')).size by omega)
   clear hsz
   go_wp2_with fail
   refine TSp.out.mono ?_
   rintro e w5 ⟨q1,rfl,HS⟩
   clear TSp hI NT BT
   obtain ⟨i,hc,b5,r1,r2⟩:=HS.out
   obtain ⟨z0,z1,z2,z3,z4⟩:=OV.out.cut HSZ.out hc
   obtain ⟨l1,l2⟩:=len_take (nd 0 (A ++ (key,val) :: B')) i (Nat.le_of_lt z1)
   have ok1:((nd 0 (A ++ (key,val) :: B')).take i).Ok:=by rw [<- nd_tk]; exact ((OV.out.wf.cut i).1).ok (by rw [nd_tk,l1]; exact z0) (by rw [nd_tk]; omega)
   have ok2:((nd 0 (A ++ (key,val) :: B')).drop i).Ok:=by rw [<- nd_dr]; exact ((OV.out.wf.cut i).2).ok (by rw [nd_dr,l2]; omega) (by rw [nd_dr]; omega)
   have TW:=Hd (tail_write b5 p r1 ok1 z2 OV.out.use HM1.out)
   have R2:=Hd r2
   have OK2:=Hd ok2
   have HC:=Hd hc
   have HZ3:=Hd z3
   clear hc b5 r1 r2 z0 z1 z2 z3 z4 l1 l2 ok1 ok2 HS
   go_wp2_with fail
   refine TW.out.mono ?_
   rintro e w6 ⟨rfl,HW⟩
   clear TW
   obtain ⟨G6,b6,tn6⟩:=HW.out
   have r6:=R2.out.turn tn6
   obtain ⟨g,off,nn,cap,hnn,k1,k2,ql,gl,hgq,hgg⟩:=r6.key0 OK2.out.pos
   have FR:Hid (Calls Tryz.prog 127 #[.pointer (some ⟨tb,0,none⟩),.pointer (some ⟨q1,0,none⟩)] w6.drew fun e w'=>∃ r:Nat,e=.returned (.int .i64 (r:Int)) /\ (w'.cell? ⟨q1,1,none⟩=some (.slice (some ⟨g,off,none⟩) nn cap) /\ w'.cell? ⟨g,off,none⟩=some (.string (((nd 0 (A ++ (key,val) :: B')).drop i).keys.getD 0 ByteArray.empty))) /\ Hid (PutPost w w' G rb n (m + 4) S (0) p (A ++ (key,v) :: B') key val (((nd 0 (A ++ (key,val) :: B')).drop i).keys.getD 0 ByteArray.empty) r true)):=Hd (by
    have hd:=(Below.refl w6.heap.size w6).drew
    refine (tail_fresh (b6.below hd) (r6.below hd) OK2.out HZ3.out HM3.out HSP.out.free).mono ?_
    rintro e w' ⟨r,rfl,hr1,hr2,G7,b7,tn7⟩
    have hu:Upd G6 w6 w':=tn7.upd.drew_left
    refine ⟨r,rfl,⟨(World.cell?_of_block (hu.block q1 ql hgq)).trans k1,(World.cell?_of_block (hu.block g gl hgg)).trans k2⟩,⟨_,(b7.more HM4.out).go,?_⟩⟩
    have hrn:r < 65536:=by have:=b7.room.bounds; unfold pagesN at hr1; omega
    have T:=OV.out.two HSZ.out HC.out hr2 hrn
    rw [nd_tk,nd_dr] at T
    rw [if_pos rfl]
    exact ⟨_,_,T⟩)
   have hnn':(0:Int) < (nn:Int):=by omega
   clear HW b6 tn6 r6 ql gl hgq hgg R2 HC HZ3
   generalize ((nd 0 (A ++ (key,val) :: B')).drop i).keys.getD 0 ByteArray.empty=kk at *
   go_wp2_with fail
   go_region_held3 (fun w'=>w'.cell? ⟨q1,1,none⟩=some (.slice (some ⟨g,off,none⟩) nn cap) /\ w'.cell? ⟨g,off,none⟩=some (.string kk)) (go_keep) ((go_at_call 127; refine Calls.at_args FR.out (by with_reducible rfl) ?_; rintro e w7 ⟨r,rfl,hk,HF⟩))
   all_goals go_wp2_with fail
   all_goals go_ret3
   all_goals exact ⟨kk,r,true,rfl,HF⟩
 ·have OV:=Hd (Over.leaf (val:=val) HT.out (.inl rfl) HA.out hB' HKS.out HVS.out)
  have HB2:=Hd hB'
  clear hB'
  go_enter Tryz.func128,Tryz.ntmps128
  go_wp2_with fail
  refine RD.out.mono ?_
  rintro e w1 ⟨q,rfl,HQ⟩
  obtain ⟨F,x1,x2,x3⟩:=HQ.out
  have N1:=Hd (Nod.start (w0:=w) (G:=G) x1 x2 HG.out)
  have B1:=Hd (B0.out.below x3)
  obtain ⟨vk,vv,vi,hv1⟩:=N1.out.rd.view
  have c0:w1.cell? ⟨q,0,none⟩=some (.bool true):=cell_lit hv1.blk rfl
  have FD:=Hd (find_c false q (.leaf (A ++ B)) vk vv vi (A.map Prod.fst) (B.map Prod.fst) key w1 hv1 (by simp [Nd.keys]) HPOS.out HL.out (fun a ha=>by obtain ⟨e,he,rfl⟩:=List.mem_map.1 ha; exact HA.out e he) (fun b hb=>by obtain ⟨e,he,rfl⟩:=List.mem_map.1 hb; exact HB.out e he) ⟨(fun e=>by cases e),(fun ⟨B',e⟩=>by
   have hm:key ∈ B.map Prod.fst:=by rw [e]; simp
   obtain ⟨e',he,he2⟩:=List.mem_map.1 hm
   have:=HB2.out e' he
   rw [he2,kless_irrefl] at this; cases this)⟩)
  rw [List.length_map] at FD
  clear x1 x2 x3 HQ hv1 RD B0
  go_wp2_with fail
  refine FD.out.mono ?_
  rintro e w2 ⟨rfl,qn,rfl⟩
  have N2:=N1.out.below (drewN_below w1 qn)
  have B2:=B1.out.below (drewN_below w1 qn)
  generalize w1.drewN qn=w2 at *
  obtain ⟨F2,y1,y2⟩:=N2
  have IN:=Hd (insert_leaf F2 q A B key val 0 w2 y1 HN4.out)
  have Y2:=Hd y2
  have B2':=Hd B2
  clear y1 y2 B2 N1 B1 FD c0
  go_wp2_with fail
  refine IN.out.mono ?_
  rintro e w3 ⟨rfl,HI⟩
  have NT:Hid (Nod w w3 G q (nd 0 (A ++ (key,val) :: B))):=Hd (Nod.go Y2.out HI.out B2'.out.room.lt B2'.out.up.size)
  have BT:=Hd (B2'.out.node (by obtain ⟨F',a,b,c⟩:=HI.out; exact c) Y2.out)
  clear IN Y2 B2' HI
  go_wp2_with fail
  have TS:=Hd (tail_size NT.out OV.out.ok)
  refine TS.out.mono ?_
  rintro e w4 ⟨rfl,rfl⟩
  clear TS
  by_cases hsz:(nd 0 (A ++ (key,val) :: B)).size <= 512
  ·have TW:=Hd (tail_write BT.out p NT.out.rd OV.out.ok hsz OV.out.use HM1.out)
   have hI:(((nd 0 (A ++ (key,val) :: B)).size:Nat):Int) <= 512:=by omega
   have HSZ:=Hd hsz
   clear hsz
   go_wp2_with fail
   refine TW.out.mono ?_
   rintro e w5 ⟨rfl,HW⟩
   clear hI TW
   go_wp2_with fail
   go_ret3
   obtain ⟨G5,b5,-⟩:=HW.out
   exact ⟨ByteArray.empty,0,false,rfl,_,(b5.more HM2.out).go,rfl,rfl,_,OV.out.one HSZ.out⟩
  ·have TSp:=Hd (tail_split BT.out NT.out OV.out.ok (by omega) OV.out.siz)
   have hI:¬ (((nd 0 (A ++ (key,val) :: B)).size:Nat):Int) <= 512:=by omega
   have HSZ:=Hd (show 512 < (nd 0 (A ++ (key,val) :: B)).size by omega)
   clear hsz
   go_wp2_with fail
   refine TSp.out.mono ?_
   rintro e w5 ⟨q1,rfl,HS⟩
   clear TSp hI NT BT
   obtain ⟨i,hc,b5,r1,r2⟩:=HS.out
   obtain ⟨z0,z1,z2,z3,z4⟩:=OV.out.cut HSZ.out hc
   obtain ⟨l1,l2⟩:=len_take (nd 0 (A ++ (key,val) :: B)) i (Nat.le_of_lt z1)
   have ok1:((nd 0 (A ++ (key,val) :: B)).take i).Ok:=by rw [<- nd_tk]; exact ((OV.out.wf.cut i).1).ok (by rw [nd_tk,l1]; exact z0) (by rw [nd_tk]; omega)
   have ok2:((nd 0 (A ++ (key,val) :: B)).drop i).Ok:=by rw [<- nd_dr]; exact ((OV.out.wf.cut i).2).ok (by rw [nd_dr,l2]; omega) (by rw [nd_dr]; omega)
   have TW:=Hd (tail_write b5 p r1 ok1 z2 OV.out.use HM1.out)
   have R2:=Hd r2
   have OK2:=Hd ok2
   have HC:=Hd hc
   have HZ3:=Hd z3
   clear hc b5 r1 r2 z0 z1 z2 z3 z4 l1 l2 ok1 ok2 HS
   go_wp2_with fail
   refine TW.out.mono ?_
   rintro e w6 ⟨rfl,HW⟩
   clear TW
   obtain ⟨G6,b6,tn6⟩:=HW.out
   have r6:=R2.out.turn tn6
   obtain ⟨g,off,nn,cap,hnn,k1,k2,ql,gl,hgq,hgg⟩:=r6.key0 OK2.out.pos
   have FR:Hid (Calls Tryz.prog 127 #[.pointer (some ⟨tb,0,none⟩),.pointer (some ⟨q1,0,none⟩)] w6.drew fun e w'=>∃ r:Nat,e=.returned (.int .i64 (r:Int)) /\ (w'.cell? ⟨q1,1,none⟩=some (.slice (some ⟨g,off,none⟩) nn cap) /\ w'.cell? ⟨g,off,none⟩=some (.string (((nd 0 (A ++ (key,val) :: B)).drop i).keys.getD 0 ByteArray.empty))) /\ Hid (PutPost w w' G rb n (m + 4) S (0) p (A ++ B) key val (((nd 0 (A ++ (key,val) :: B)).drop i).keys.getD 0 ByteArray.empty) r true)):=Hd (by
    have hd:=(Below.refl w6.heap.size w6).drew
    refine (tail_fresh (b6.below hd) (r6.below hd) OK2.out HZ3.out HM3.out HSP.out.free).mono ?_
    rintro e w' ⟨r,rfl,hr1,hr2,G7,b7,tn7⟩
    have hu:Upd G6 w6 w':=tn7.upd.drew_left
    refine ⟨r,rfl,⟨(World.cell?_of_block (hu.block q1 ql hgq)).trans k1,(World.cell?_of_block (hu.block g gl hgg)).trans k2⟩,⟨_,(b7.more HM4.out).go,?_⟩⟩
    have hrn:r < 65536:=by have:=b7.room.bounds; unfold pagesN at hr1; omega
    have T:=OV.out.two HSZ.out HC.out hr2 hrn
    rw [nd_tk,nd_dr] at T
    rw [if_pos rfl]
    exact ⟨_,_,T⟩)
   have hnn':(0:Int) < (nn:Int):=by omega
   clear HW b6 tn6 r6 ql gl hgq hgg R2 HC HZ3
   generalize ((nd 0 (A ++ (key,val) :: B)).drop i).keys.getD 0 ByteArray.empty=kk at *
   go_wp2_with fail
   go_region_held3 (fun w'=>w'.cell? ⟨q1,1,none⟩=some (.slice (some ⟨g,off,none⟩) nn cap) /\ w'.cell? ⟨g,off,none⟩=some (.string kk)) (go_keep) ((go_at_call 127; refine Calls.at_args FR.out (by with_reducible rfl) ?_; rintro e w7 ⟨r,rfl,hk,HF⟩))
   all_goals go_wp2_with fail
   all_goals go_ret3
   all_goals exact ⟨kk,r,true,rfl,HF⟩
theorem kids_at {w0 W:World} {G:Nat -> Prop} {q:Nat} {l1 l2:List (ByteArray × Nat)} {x:ByteArray × Nat} (h:RdN w0 W G q (.inner (l1 ++ x :: l2))) :
 ∃ g off cap,W.cell? ⟨q,3,none⟩=some (.slice (some ⟨g,off,none⟩) (l1.length + 1 + l2.length) cap) /\ W.cell? ⟨g,off + l1.length,none⟩=some (.int .i64 (x.2:Int)):=by
 obtain ⟨vk,vv,vi,a⟩:=h.view
 have hl:((Nd.inner (l1 ++ x :: l2)).kids.map encN).length=l1.length + 1 + l2.length:=by simp [Nd.kids]; omega
 obtain ⟨g,off,cap,rfl,hcap,hc⟩:=a.is.lit (by simp [Nd.kids]; omega)
 refine ⟨g,off,cap,?_,?_⟩
 ·have:=cell_lit (i:=3) a.blk rfl
  rw [<- hl]; exact this
 ·have:=hc l1.length (by simp [Nd.kids])
  rw [this]; simp [Nd.kids]
theorem way_nd {w0 W:World} {G:Nat -> Prop} {h q:Nat} {A B:List (Kid h)} {x:Kid h} {key:ByteArray} (hN:RdN w0 W G q (nd (h + 1) (A ++ x :: B:List (Kid h)))) (hl:(nd (h + 1) (A ++ x :: B:List (Kid h))).len <= 1000000) (hW:Way key A x B) (hA:∀ y ∈ A.tail,kless key y.1=false) :
 Calls Tryz.prog 166 #[.pointer (some ⟨q,0,none⟩),.string key] W fun e w'=>e=.returned (.int .i64 (A.length:Nat)) /\ Hid (Below W.heap.size W w'):=by
 obtain ⟨vk,vv,vi,a⟩:=hN.view
 have:=way_c q _ vk vv vi (A.map Prod.fst) (B.map Prod.fst) x.1 key W a (by simp [nd,Nd.keys,Function.comp_def]) hl (fun y hy=>?_) (fun b hb=>by obtain ⟨e,he,rfl⟩:=List.mem_map.1 hb; exact hW.2 e he)
 ·rw [List.length_map] at this; exact this
 ·cases A with
  | nil=>simp at hy
  | cons a A =>
    simp only [List.map_cons,List.cons_append,List.tail_cons,List.mem_append,List.mem_map,List.mem_singleton] at hy
    rcases hy with ⟨e,he,rfl⟩ | rfl
    ·exact hA e he
    ·exact hW.1 (by simp)
theorem put_c:∀ (h:Nat) (G:Nat -> Prop) (tb rb place n m:Nat) (S:RS) (p:Nat) (t:PT h) (key val:ByteArray) (deep:Nat) (w:World) (_:RmS w G rb n m S) (_:TB w tb rb place) (_:¬ G tb) (_:Tr S h p t) (_:key.size <= 96) (_:val.size <= 56) (_:deep + h <= 20) (_:Spare S n (h + 1)) (_:m + 4 * (h + 1) <= 3998000),
 Calls Tryz.prog 128 #[.pointer (some ⟨tb,0,none⟩),.int .i64 (p:Int),.string key,.string val,.int .i64 (deep:Int)] w fun e w'=>∃ (k:ByteArray) (q:Nat) (more:Bool),e=.returned (.tuple #[.string k,.int .i64 (q:Int),.bool more]) /\ Hid (PutPost w w' G rb n (m + 4 * (h + 1)) S h p t key val k q more)
 | 0,G,tb,rb,place,n,m,S,p,t,key,val,deep,w,h,ht,hg,hT,hks,hvs,hdp,hsp,hm=>put_leaf G tb rb place n m S p t key val deep w h ht hg hT hks hvs (by omega) hsp (by omega)
 | hh + 1,G,tb,rb,place,n,m,S,p,t,key,val,deep,w,h,ht,hg,hT,hks,hvs,hdp,hsp,hm=>by
   have RD:=Hd (read_c G tb rb place n m S p (nd (hh + 1) t) w h ht (by omega) hT.ok hT.fit hT.on.top.1 hT.on.top.2)
   have B0:=Hd (TBase.start h ht hg)
   have HM1:Hid (m + 4 * (hh + 1) <= 3999000):=Hd (by omega)
   have HM3:Hid (m + 4 * (hh + 1) + 1 <= 3999000):=Hd (by omega)
   have HM2:Hid (m + 4 * (hh + 1) + 1 <= m + 4 * (hh + 1 + 1)):=Hd (by omega)
   have HM4:Hid (m + 4 * (hh + 1) + 1 + 3 <= m + 4 * (hh + 1 + 1)):=Hd (by omega)
   have HM5:Hid (m + 4 * (hh + 1) <= m + 4 * (hh + 1 + 1)):=Hd (by omega)
   have HG:=Hd h.lt
   have hd1:¬ (20:Int) < (deep:Int):=by omega
   have hd2:deep <= 20:=by omega
   have hlenO:=hT.ok.few
   have hpos:=hT.pos
   rw [nd_lenS] at hpos
   obtain ⟨A,x,B,rfl,hW,hA⟩:=way_split t key (hT.wf.2.keys fun x hx=>ents_pos (hT.wf.1 x hx).2.2.2.2 (hT.wf.1 x hx).2.2.1) hpos
   have hk:=hT.kid (x:=x) (by simp)
   have IH:Hid (∀ W G2,TBase w W G G2 tb rb place n m S -> Calls Tryz.prog 128 #[.pointer (some ⟨tb,0,none⟩),.int .i64 (x.2.1:Int),.string key,.string val,.int .i64 ((deep:Int) + 1)] W fun e w'=>∃ (k:ByteArray) (q:Nat) (more:Bool),e=.returned (.tuple #[.string k,.int .i64 (q:Int),.bool more]) /\ Hid (PutPost W w' G2 rb n (m + 4 * (hh + 1)) S hh x.2.1 x.2.2 key val k q more)):=Hd fun W G2 hB=>by
    have:=put_c hh G2 tb rb place n m S x.2.1 x.2.2 key val (deep + 1) W hB.room hB.blk hB.gt hk hks hvs (by omega) (hsp.less (by omega)) (by omega)
    rw [show ((deep + 1:Nat):Int)=(deep:Int) + 1 by omega] at this
    exact this
   have HT:=Hd hT
   have HW:=Hd hW
   have HA:=Hd hA
   have HSP0:=Hd hsp
   have HLEN:=Hd hlenO
   clear h ht hg hT hsp hm hW hA hks hvs hdp hk hpos hlenO
   go_enter Tryz.func128,Tryz.ntmps128
   go_wp2_with fail
   refine RD.out.mono ?_
   rintro e w1 ⟨q,rfl,HQ⟩
   obtain ⟨F,x1,x2,x3⟩:=HQ.out
   have N1:=Hd (Nod.start (w0:=w) (G:=G) x1 x2 HG.out)
   have B1:=Hd (B0.out.below x3)
   obtain ⟨vk,vv,vi,hv1⟩:=N1.out.rd.view
   have c0:w1.cell? ⟨q,0,none⟩=some (.bool false):=cell_lit hv1.blk rfl
   have WN:=Hd (way_nd N1.out.rd (Nat.le_of_lt (Nat.lt_trans HLEN.out (by decide))) HW.out HA.out)
   clear x1 x2 x3 HQ hv1 RD B0
   go_wp2_with fail
   refine WN.out.mono ?_
   rintro e w2 ⟨rfl,hb⟩
   have N2:=Hd (N1.out.below hb.out)
   have B2:=Hd (B1.out.below hb.out)
   have hN2:=N2.out.rd
   rw [show nd (hh + 1) (A ++ x :: B:List (Kid hh))=.inner (A.map (fun x:Kid hh=>(x.1,x.2.1)) ++ (x.1,x.2.1) :: B.map (fun x:Kid hh=>(x.1,x.2.1))) by simp [nd]] at hN2
   obtain ⟨g3,off,cap3,k1,k2⟩:=kids_at hN2
   rw [List.length_map,List.length_map] at k1
   rw [List.length_map] at k2
   have hlt:(A.length:Int) < ((A.length + 1 + B.length:Nat):Int):=by omega
   have hlA:A.length <= 65536:=by have:=HLEN.out; rw [nd_lenS,List.length_append,List.length_cons] at this; omega
   have IH2:=Hd (IH.out w2 G B2.out)
   clear hN2 IH N1 B1 WN c0 hb
   go_wp2_with fail
   refine IH2.out.mono ?_
   rintro e w3 ⟨k,q2,more,rfl,HP⟩
   clear IH2 k1 k2
   cases more with
   | false =>
     obtain ⟨S',hgo,hif⟩:=HP.out
     rw [if_neg (by simp)] at hif
     obtain ⟨rfl,rfl,t',K⟩:=hif
     have HK:=Hd K
     obtain ⟨G3,b3,-⟩:=B2.out.step hgo
     have HB3:=Hd (b3.more HM5.out)
     clear hgo K b3 HP
     go_wp2_with fail
     go_ret3
     exact ⟨ByteArray.empty,0,false,rfl,_,HB3.out.go,rfl,rfl,_,HK.out.inner HT.out HW.out⟩
   | true =>
     obtain ⟨S3,hgo,hif⟩:=HP.out
     rw [if_pos rfl] at hif
     obtain ⟨t1,t2,K⟩:=hif
     have OV:=Hd (Over.inner HT.out HW.out K)
     have HSP:Hid (Spare S3 n (0 + 1)):=Hd (K.spr n 1 (HSP0.out.less (by omega)))
     obtain ⟨G3,b3,tn3⟩:=B2.out.step hgo
     obtain ⟨F2,y1,y2⟩:=N2.out.turn tn3
     rw [nd_of_mid] at y1
     have IN:=insert_inner F2 q ((A ++ [x]).map (fun x:Kid hh=>(x.1,x.2.1))) (B.map (fun x:Kid hh=>(x.1,x.2.1))) k ⟨#[]⟩ q2 w3 y1 (by have:=HLEN.out; rw [nd_lenS,List.length_append,List.length_cons] at this; simp; omega)
     rw [show ((((A ++ [x]).map (fun x:Kid hh=>(x.1,x.2.1))).length:Nat):Int)=(A.length:Int) + 1 by simp,<- nd_two t1 t2 k q2] at IN
     have IN2:=Hd IN
     have Y2:=Hd y2
     have B3:=Hd b3
     clear y1 y2 b3 hgo K HP tn3 IN N2 B2
     go_wp2_with fail
     refine IN2.out.mono ?_
     rintro e w4' ⟨rfl,HI⟩
     have NT:Hid (Nod w w4' G3 q (nd (hh + 1) (A ++ (x.1,x.2.1,t1) :: (k,q2,t2) :: B:List (Kid hh)))):=Hd (Nod.go Y2.out HI.out B3.out.room.lt B3.out.up.size)
     have BT:=Hd (B3.out.node (by obtain ⟨F',a,b,c⟩:=HI.out; exact c) Y2.out)
     clear IN2 Y2 B3 HI
     go_wp2_with fail
     have TS:=Hd (tail_size NT.out OV.out.ok)
     refine TS.out.mono ?_
     rintro e w4 ⟨rfl,rfl⟩
     clear TS
     by_cases hsz:(nd (hh + 1) (A ++ (x.1,x.2.1,t1) :: (k,q2,t2) :: B:List (Kid hh))).size <= 512
     ·have TW:=Hd (tail_write BT.out p NT.out.rd OV.out.ok hsz OV.out.use HM1.out)
      have hI:(((nd (hh + 1) (A ++ (x.1,x.2.1,t1) :: (k,q2,t2) :: B:List (Kid hh))).size:Nat):Int) <= 512:=by omega
      have HSZ:=Hd hsz
      clear hsz
      go_wp2_with fail
      refine TW.out.mono ?_
      rintro e w5 ⟨rfl,HW⟩
      clear hI TW
      go_wp2_with fail
      go_ret3
      obtain ⟨G5,b5,-⟩:=HW.out
      exact ⟨ByteArray.empty,0,false,rfl,_,(b5.more HM2.out).go,rfl,rfl,_,OV.out.one HSZ.out⟩
     ·have TSp:=Hd (tail_split BT.out NT.out OV.out.ok (by omega) OV.out.siz)
      have hI:¬ (((nd (hh + 1) (A ++ (x.1,x.2.1,t1) :: (k,q2,t2) :: B:List (Kid hh))).size:Nat):Int) <= 512:=by omega
      have HSZ:=Hd (show 512 < (nd (hh + 1) (A ++ (x.1,x.2.1,t1) :: (k,q2,t2) :: B:List (Kid hh))).size by omega)
      clear hsz
      go_wp2_with fail
      refine TSp.out.mono ?_
      rintro e w5 ⟨q1,rfl,HS⟩
      clear TSp hI NT BT
      obtain ⟨i,hc,b5,r1,r2⟩:=HS.out
      obtain ⟨z0,z1,z2,z3,z4⟩:=OV.out.cut HSZ.out hc
      obtain ⟨l1,l2⟩:=len_take (nd (hh + 1) (A ++ (x.1,x.2.1,t1) :: (k,q2,t2) :: B:List (Kid hh))) i (Nat.le_of_lt z1)
      have ok1:((nd (hh + 1) (A ++ (x.1,x.2.1,t1) :: (k,q2,t2) :: B:List (Kid hh))).take i).Ok:=by rw [<- nd_tk]; exact ((OV.out.wf.cut i).1).ok (by rw [nd_tk,l1]; exact z0) (by rw [nd_tk]; omega)
      have ok2:((nd (hh + 1) (A ++ (x.1,x.2.1,t1) :: (k,q2,t2) :: B:List (Kid hh))).drop i).Ok:=by rw [<- nd_dr]; exact ((OV.out.wf.cut i).2).ok (by rw [nd_dr,l2]; omega) (by rw [nd_dr]; omega)
      have TW:=Hd (tail_write b5 p r1 ok1 z2 OV.out.use HM1.out)
      have R2:=Hd r2
      have OK2:=Hd ok2
      have HC:=Hd hc
      have HZ3:=Hd z3
      clear hc b5 r1 r2 z0 z1 z2 z3 z4 l1 l2 ok1 ok2 HS
      go_wp2_with fail
      refine TW.out.mono ?_
      rintro e w6 ⟨rfl,HW⟩
      clear TW
      obtain ⟨G6,b6,tn6⟩:=HW.out
      have r6:=R2.out.turn tn6
      obtain ⟨g,off,nn,cap,hnn,k1,k2,ql,gl,hgq,hgg⟩:=r6.key0 OK2.out.pos
      have FR:Hid (Calls Tryz.prog 127 #[.pointer (some ⟨tb,0,none⟩),.pointer (some ⟨q1,0,none⟩)] w6.drew fun e w'=>∃ r:Nat,e=.returned (.int .i64 (r:Int)) /\ (w'.cell? ⟨q1,1,none⟩=some (.slice (some ⟨g,off,none⟩) nn cap) /\ w'.cell? ⟨g,off,none⟩=some (.string (((nd (hh + 1) (A ++ (x.1,x.2.1,t1) :: (k,q2,t2) :: B:List (Kid hh))).drop i).keys.getD 0 ByteArray.empty))) /\ Hid (PutPost w w' G rb n (m + 4 * (hh + 1 + 1)) S ((hh + 1)) p (A ++ x :: B:List (Kid hh)) key val (((nd (hh + 1) (A ++ (x.1,x.2.1,t1) :: (k,q2,t2) :: B:List (Kid hh))).drop i).keys.getD 0 ByteArray.empty) r true)):=Hd (by
       have hd:=(Below.refl w6.heap.size w6).drew
       refine (tail_fresh (b6.below hd) (r6.below hd) OK2.out HZ3.out HM3.out HSP.out.free).mono ?_
       rintro e w' ⟨r,rfl,hr1,hr2,G7,b7,tn7⟩
       have hu:Upd G6 w6 w':=tn7.upd.drew_left
       refine ⟨r,rfl,⟨(World.cell?_of_block (hu.block q1 ql hgq)).trans k1,(World.cell?_of_block (hu.block g gl hgg)).trans k2⟩,⟨_,(b7.more HM4.out).go,?_⟩⟩
       have hrn:r < 65536:=by have:=b7.room.bounds; unfold pagesN at hr1; omega
       have T:=OV.out.two HSZ.out HC.out hr2 hrn
       rw [nd_tk,nd_dr] at T
       rw [if_pos rfl]
       exact ⟨_,_,T⟩)
      have hnn':(0:Int) < (nn:Int):=by omega
      clear HW b6 tn6 r6 ql gl hgq hgg R2 HC HZ3
      generalize ((nd (hh + 1) (A ++ (x.1,x.2.1,t1) :: (k,q2,t2) :: B:List (Kid hh))).drop i).keys.getD 0 ByteArray.empty=kk at *
      go_wp2_with fail
      go_region_held3 (fun w'=>w'.cell? ⟨q1,1,none⟩=some (.slice (some ⟨g,off,none⟩) nn cap) /\ w'.cell? ⟨g,off,none⟩=some (.string kk)) (go_keep) ((go_at_call 127; refine Calls.at_args FR.out (by with_reducible rfl) ?_; rintro e w7 ⟨r,rfl,hk,HF⟩))
      all_goals go_wp2_with fail
      all_goals go_ret3
      all_goals exact ⟨kk,r,true,rfl,HF⟩
theorem guard_idle (p:Addr) (w:World) :
 CallsD Tryz.prog 124 #[.pointer (some p)] .returning w fun e u' w'=>e=.returned (.tuple #[]) /\ u'=.returning /\ w'=w:=by
 refine callsD_of_wpS Tryz.func124 rfl fun c₀ cs hu=>?_
 apply wpS_seq
 apply wpS_region
 simp [wpOpsS,go_sem,recoverD,hu,Tryz.ntmps124,Exit.thenS]
 apply wpS_seq
 apply wpS_region
 simp [wpOpsS,go_sem,Exit.thenS]
 refine wpS_cond (t:=false) (by simp [Act.eval,Array.replicate]) ?_
 simp only [Bool.false_eq_true,if_false]
 refine wpS_of_wp (wp_skip ?_)
 cases c₀
 simp_all [bodyPostS,results,Tryz.results124]
theorem put1_idle (p t m:Addr) (u:FrameMode) (w:World) (h:w.cell? p=some (.int .i64 0)) :
 CallsD Tryz.prog 123 #[.pointer (some p),.pointer (some t),.pointer (some m)] u w fun e u' w'=>u'=u /\ (e=.returned (.tuple #[]) /\ w'=w):=by
 go_enter_d Tryz.func123,Tryz.ntmps123
 go_wp2
 go_end0
 exact ⟨rfl,rfl⟩
theorem del1_idle (p a b c:Addr) (u:FrameMode) (w:World) (h:w.cell? p=some (.int .i64 0)) :
 CallsD Tryz.prog 129 #[.pointer (some p),.pointer (some a),.pointer (some b),.pointer (some c)] u w fun e u' w'=>u'=u /\ (e=.returned (.tuple #[]) /\ w'=w):=by
 go_enter_d Tryz.func129,Tryz.ntmps129
 go_wp2
 go_end0
 exact ⟨rfl,rfl⟩
theorem scan1_idle (p a:Addr) (u:FrameMode) (w:World) (h:w.cell? p=some (.int .i64 0)) :
 CallsD Tryz.prog 141 #[.pointer (some p),.pointer (some a)] u w fun e u' w'=>u'=u /\ (e=.returned (.tuple #[]) /\ w'=w):=by
 go_enter_d Tryz.func141,Tryz.ntmps141
 go_wp2
 go_end0
 exact ⟨rfl,rfl⟩
end Go.Proofs.YtdcjhpafipbpkaaGreatDoor
