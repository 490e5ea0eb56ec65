/- Parts of the proof of ChunksPages,joined: CrnG,CpgA,CpgB. No condition. -/
import Derived.Test.YtdcjhpafipbpkaaGreatDoorCq9
set_option linter.unusedSimpArgs false
set_option linter.unusedVariables false
set_option linter.unusedSectionVars false
namespace Go.Proofs.YtdcjhpafipbpkaaGreatDoor
set_option maxRecDepth 100000
set_option maxHeartbeats 8000000
open Go.RowKit
section
variable {w1 wr:World} {B sb rb ti tl k a nx:Nat} {v0 v1:Value} {K:Nat->Prop} {C:List Ck} {L:List Lg}
theorem Do_k (p:AcT) (hp:AcOk p) (h:Hid (RnL w1 B sb rb ti tl k v0 v1 K C L nx a wr)) (hk:k<80) :
 Calls Tryz.prog 47 #[.pointer (some ⟨sb,0,none⟩),.pointer (some ⟨B,0,none⟩),.agg #[.int .i64 p.1,.int .i64 p.2.1,.int .i64 p.2.2.1,.string p.2.2.2.1,.bool p.2.2.2.2]] wr fun e w'=>e=.returned (.tuple #[.bool true,.bool false])/\Hid (∃ v0' v1' K' C2 L2 nx2 a2,RnL w1 B sb rb ti tl (k+1) v0' v1' K' C2 L2 nx2 a2 w'):=by
 obtain ⟨what,n,by_,t,raw⟩:=p
 simp only
 by_cases h0:what=0
 ·subst h0;exact Do_put n by_ t raw h hk
 by_cases h1:what=1
 ·subst h1;exact Do_add n by_ t raw h hk
 by_cases h2:what=2
 ·subst h2;exact Do_merge n by_ t raw h hk hp.2.1
 by_cases h3:what=3
 ·subst h3;exact Do_recl n by_ t raw h hk hp.2.1
 by_cases h4:what=4
 ·subst h4;exact Do_get n by_ t raw h hk
 by_cases h5:what=5
 ·subst h5;exact Do_apply n by_ t raw h hk
 exact Do_else what n by_ t raw h ⟨h0,h1,h2,h3,h4,h5⟩
end
theorem RnL.start {w1 we:World} {sb rb ti tl:Nat} (h:Chs w1 we we (fun _=>False) sb rb ti tl 30000 1000 0 [] [] 0 []):RnL w1 we.heap.size sb rb ti tl 0 (.slice none 0 0) (.slice none 0 0) (fun j=>False\/j=we.heap.size) [] [] 0 0 (we.alloc (.cells #[.slice none 0 0,.slice none 0 0] 52)):=by
 have hb:Below we.heap.size we (we.alloc (.cells #[.slice none 0 0,.slice none 0 0] 52)):=(Below.refl _ _).alloc (Nat.le_refl _) _
 have hs:=h.sbk
 have l1:=lt_of_heap hs.1
 have l2:=lt_of_heap hs.2.1
 have l3:=lt_of_heap hs.2.2
 refine ⟨h.new hb we.heap.size (Nat.le_refl _) (by simp),heap_alloc_new _ _,.inr rfl,StR.nil _,⟨_,_,rfl,fun g e=>(by cases e),fun g e=>(by cases e)⟩,⟨h.bel.size,by omega,by omega,by omega⟩,⟨by simp,by simp,fun c hc=>(by cases hc)⟩⟩
set_option maxHeartbeats 4000000
theorem cnt_range (u:Nat->Bool):∀ n,cnt u n=((List.range n).filter u).length
 | 0=>rfl
 | n+1=>by
   rw [List.range_succ,List.filter_append,List.length_append,<-cnt_range u n]
   show cnt u n+(u n).toNat=_
   cases h:u n <;> simp [h]
theorem cnt_list {u:Nat->Bool} {l:List Nat} {n:Nat} (hn:l.Nodup) (hu:∀ q,u q=true ↔ q∈l) (hlt:∀ q,u q=true->q<n):cnt u n=l.length:=by
 rw [cnt_range]
 have hp:((List.range n).filter u).Perm l:=(List.perm_ext_iff_of_nodup (List.nodup_range.filter _) hn).2 fun q=>by
  rw [List.mem_filter,List.mem_range]
  exact ⟨fun h=>(hu q).1 h.2,fun h=>⟨hlt q ((hu q).2 h),(hu q).2 h⟩⟩
 exact hp.length_eq
theorem tt_nil {S:RS} {place:Nat} {o:Option TT} (h:TreeSt S place o) (he:entsO o=[]):o=none:=by
 cases o with
 | none=>rfl
 | some T =>
   have h1:=ents_pos h.2.wf h.2.pos
   have h2:ents T.h T.t=[]:=he
   rw [h2] at h1
   exact absurd h1 (Nat.lt_irrefl 0)
theorem TwoM.count {S:RS} {n c a0 a1:Nat} {o0 o1:Option TT} {X:List (Nat × ByteArray)} (h:TwoM S n c o0 o1 a0 a1 X) (he:entsO o1=[]) (hlt:∀ q,S.used q=true->q<pagesN n):cnt S.used (pagesN n)=(pgsO o0).length+X.length:=by
 have h1:o1=none:=tt_nil h.t1 he
 subst h1
 have hn:=h.nd
 have ha:=h.al
 rw [show pgsO none=[] from rfl,List.nil_append] at hn
 rw [cnt_list hn (fun q=>⟨fun hq=>by simpa [pgsO] using ha q hq,fun hq=>?_⟩) hlt,List.length_append,List.length_map]
 rcases List.mem_append.1 hq with hq|hq
 ·exact h.t0.used q hq
 ·obtain ⟨x,hx,rfl⟩:=List.mem_map.1 hq
  exact (h.pg x hx).1
theorem reclK_pos (lim:Int):∀ (C:List Ck) (n:Nat),(n:Int)+C.length<=lim->∀ c∈(reclK [] lim n C).1,1<=c.cnt
 | [],n,_,c,hc=>by cases hc
 | d::C,n,h,c,hc=>by
   rw [List.length_cons] at h
   by_cases hd:(n:Int)<lim/\d.cnt<=0/\busyL [] d.id=false
   ·rw [reclK_y hd] at hc
    exact reclK_pos lim C (n+1) (by omega) c hc
   ·rw [reclK_n hd] at hc
    rcases List.mem_cons.1 hc with rfl|hc
    ·have h1:¬c.cnt<=0:=fun e=>hd ⟨by omega,e,rfl⟩
     omega
    ·exact reclK_pos lim C n (by omega) c hc
def ChsP (p:Nat) (w1 w0 w:World) (K:Nat->Prop) (sb rb ti tl n N a:Nat) (C:List Ck) (L:List Lg) (nx:Nat) (X:List (Nat × ByteArray)):Prop :=
 ∃ S o0 o1,CGo w1 w0 w K sb rb ti tl n (300*a) S/\(TwoM S n (24*(N-a)) o0 o1 a a X/\CRel (entsO o0) C/\GRel (entsO o1) L nx/\S.root 2=nx/\nx<=a)/\(pgsO o0).length=p
section
variable {w1 w0 w:World} {K:Nat->Prop} {sb rb ti tl n N a nx p:Nat} {C:List Ck} {L:List Lg} {X:List (Nat × ByteArray)}
theorem Chs.pages (h:Chs w1 w0 w K sb rb ti tl n N a C L nx X):∃ p,ChsP p w1 w0 w K sb rb ti tl n N a C L nx X:=by
 obtain ⟨S,o0,o1,h1,h2⟩:=h
 exact ⟨_,S,o0,o1,h1,h2,rfl⟩
theorem ChsP.chs (h:ChsP p w1 w0 w K sb rb ti tl n N a C L nx X):Chs w1 w0 w K sb rb ti tl n N a C L nx X:=by
 obtain ⟨S,o0,o1,h1,h2,-⟩:=h
 exact ⟨S,o0,o1,h1,h2⟩
theorem CheckP_c (h:Hid (ChsP p w1 w0 w K sb rb ti tl n N a C L nx X)) (ha:a<=1000) (w2:World) (hb:Below w.heap.size w w2) (ht:TB w2 w.heap.size rb 0) :
 Calls Tryz.prog 52 #[.pointer (some ⟨w.heap.size,0,none⟩)] w2 fun e w'=>e=.returned (.tuple #[.int .i64 (p:Int),.int .i64 0])/\Hid (ChsP p w1 w0 w' K sb rb ti tl n N a C L nx X):=by
 obtain ⟨S,o0,o1,h1,h2,hp⟩:=h.out
 have g:=h1.1.new hb w.heap.size (Nat.le_refl _) (lt_of_heap ht)
 have H:=check_r w1 w2 _ w.heap.size rb 0 n (300*a) S o0 g.1 ht (.inl (.inr rfl)) h2.1.t0 (by decide) (by omega) (by have:=h2.1.hgt0 (by omega);omega)
 rw [hp] at H
 refine H.mono ?_
 rintro e w' ⟨rfl,hE⟩
 obtain ⟨r1,r2⟩:=hE.out
 have q:=g.of (r1.mono fun k hk=>.inl hk) r2
 exact ⟨rfl,Hd ⟨S,o0,o1,⟨q.1.mono fun k hk=>.inl hk,(h1.2.trans (h1.1.keep hb)).trans (q.2.mono fun k hk=>.inl hk)⟩,h2,hp⟩⟩
theorem UsedP_c (h:Hid (ChsP p w1 w0 w K sb rb ti tl n N a C [] nx X)) (ha:a<=1000) :
 Calls Tryz.prog 53 #[.pointer (some ⟨rb,0,none⟩)] w fun e w'=>e=.returned (.tuple #[.int .i64 ((p:Int)+(X.length:Int)),.int .i64 0])/\Hid (ChsP p w1 w0 w' K sb rb ti tl n N a C [] nx X):=by
 obtain ⟨S,o0,o1,h1,h2,hp⟩:=h.out
 obtain ⟨G,⟨puts,hpt,hr,hrep⟩,-⟩:=h1.1.1
 have H:=Used_c G rb n puts S w hr hrep (by omega)
 rw [h2.1.count (by rw [h2.2.2.1.eq];rfl) hrep.lim,hp] at H
 refine H.mono ?_
 rintro e w' ⟨rfl,hE⟩
 exact ⟨by push_cast;rfl,Hd ⟨S,o0,o1,h1.below hE,h2,hp⟩⟩
theorem ChsP.small (h:ChsP p w1 w0 w K sb rb ti tl n N a C [] nx X):p<=pagesN n:=by
 obtain ⟨S,o0,o1,h1,h2,hp⟩:=h
 obtain ⟨G,⟨puts,hpt,hr,hrep⟩,-⟩:=h1.1.1
 have e:=h2.1.count (by rw [h2.2.2.1.eq];rfl) hrep.lim
 have:=cnt_le S.used (pagesN n)
 omega
end
structure RnB (w1:World) (B sb rb ti tl:Nat) (v0 v1:Value) (K:Nat->Prop) (C:List Ck) (L:List Lg) (nx a:Nat) (D:List RCk) (E:List REn) (wr:World):Prop where
 st:Chs w1 wr wr K sb rb ti tl 30000 1000 a C L nx (cpg C)
 box:wr.heap[B]?=some (.cells #[v0,v1] 52 (0,0))
 kb:K B
 ref:StR wr (.agg #[v0,v1]) D E
 loc:StLoc (fun j=>K j/\j≠B) (.agg #[v0,v1])
 lo:w1.heap.size<=B/\B≠sb/\B≠ti/\B≠tl
section
variable {w1 wr w5 w':World} {B sb rb ti tl k a a' nx nx':Nat} {v0 v1 x0 x1:Value} {K:Nat->Prop} {C C':List Ck} {L L':List Lg} {D D':List RCk} {E E':List REn}
theorem RnL.both (h:RnL w1 B sb rb ti tl k v0 v1 K C L nx a wr):RnB w1 B sb rb ti tl v0 v1 K C L nx a (rC C) (rL L) wr:=⟨h.st,h.box,h.kb,h.ref,h.loc,h.lo⟩
theorem RnB.go (h:RnB w1 B sb rb ti tl v0 v1 K C L nx a D E wr) (q:Chs w1 wr w' K sb rb ti tl 30000 1000 a' C' L' nx' (cpg C')):RnB w1 B sb rb ti tl v0 v1 K C' L' nx' a' D E w':=by
 have hk:=q.kept
 exact ⟨q.reset,(hk B h.kb).trans h.box,h.kb,h.ref.keepW (h.loc.mono fun j hj=>hj.1) hk fun j e=>q.klt e,h.loc,h.lo⟩
theorem RnB.next (h:RnB w1 B sb rb ti tl v0 v1 K C L nx a D E wr) (b5:Below wr.heap.size wr w5) (r5:StR w5 (.agg #[x0,x1]) D' E') (l5:∀ P,StLoc P (.agg #[v0,v1])->StLoc (fun b=>P b\/wr.heap.size<=b) (.agg #[x0,x1])) :
 (w5.cell? ⟨B,0,none⟩=some v0/\w5.frozen? ⟨B,0,none⟩=false/\(w5.setCell ⟨B,0,none⟩ x0).cell? ⟨B,1,none⟩=some v1/\(w5.setCell ⟨B,0,none⟩ x0).frozen? ⟨B,1,none⟩=false) /\
 ∃ K',RnB w1 B sb rb ti tl x0 x1 K' C L nx a D' E' ((w5.setCell ⟨B,0,none⟩ x0).setCell ⟨B,1,none⟩ x1):=by
 have hBlt:B<wr.heap.size:=lt_of_heap h.box
 have hU:Upd (fun k=>k=B) w5 ((w5.setCell ⟨B,0,none⟩ x0).setCell ⟨B,1,none⟩ x1):=Upd.setCell (S:=fun k=>k=B) (Upd.setCell (S:=fun k=>k=B) (Upd.refl _ w5) (p:=⟨B,0,none⟩) (.inl rfl) x0) (p:=⟨B,1,none⟩) (.inl rfl) x1
 have hbx5:w5.heap[B]?=some (.cells #[v0,v1] 52 (0,0)):=(b5.block B hBlt).trans h.box
 have hs1:=heap_set_lit (i:=0) hbx5 x0
 have hbx8:=heap_set_lit (i:=1) hs1 x1
 have hloc5:=(l5 _ h.loc).and r5.lt
 have s45:=b5.size
 have hn:Chs w1 w5 w5 (fun j=>K j\/(wr.heap.size<=j/\j<w5.heap.size)) sb rb ti tl 30000 1000 a C L nx (cpg C):=h.st.newK b5
 have hset:=hn.updN hU fun j e=>by
  subst e
  exact ⟨.inl h.kb,h.lo⟩
 have hD:∀ j,((K j/\j≠B)\/wr.heap.size<=j)/\j<w5.heap.size->(K j\/(wr.heap.size<=j/\j<w5.heap.size))/\j≠B:=fun j hj=>by
  rcases hj.1 with h2|h2
  ·exact ⟨.inl h2.1,h2.2⟩
  ·exact ⟨.inr ⟨h2,hj.2⟩,by omega⟩
 have hl:=hloc5.mono hD
 exact ⟨⟨cell_lit hbx5 rfl,frozen_lit hbx5 0,cell_lit hs1 rfl,frozen_lit hs1 1⟩,_,hset.mono fun j hj=>.inl hj,hbx8,.inl h.kb,(r5.setLoc hl (fun hj=>hj.2 rfl) x0).setLoc hl (fun hj=>hj.2 rfl) x1,hl,h.lo⟩
end
set_option maxHeartbeats 8000000
theorem rC_lenP (C:List Ck):(rC C).length=C.length:=by unfold rC;rw [List.length_map]
theorem rL_lenP (L:List Lg):(rL L).length=L.length:=by unfold rL;rw [List.length_map]
theorem RnL.pages {w1 wr:World} {B sb rb ti tl k a nx:Nat} {v0 v1:Value} {K:Nat->Prop} {C:List Ck} {L:List Lg} (h:RnL w1 B sb rb ti tl k v0 v1 K C L nx a wr) (hk:k<=80) :
 Calls Tryz.prog 20 #[.pointer (some ⟨sb,0,none⟩),.int .i64 1073741824] wr fun e w2=>∃ m:Nat,e=.returned (.tuple #[.int .i64 (m:Int),.int .i64 0])/\Hid (
  Calls Tryz.prog 48 #[.pointer (some ⟨sb,0,none⟩),.int .i64 1073741824] w2 fun e w3=>∃ m:Nat,e=.returned (.tuple #[.int .i64 (m:Int),.int .i64 0])/\Hid (
   ∃ C2 D a2,a2<=1000/\C2.length<=1000/\(∀ c∈C2,1<=c.cnt)/\RnB w1 B sb rb ti tl v0 v1 K C2 [] nx a2 (rC C) (rL L) w3/\
   (∀ W v,StR W v (rC C) (rL L)->Calls Tryz.prog 49 #[v,.int .i64 1073741824] W fun e w'=>∃ v' m,e=.returned (.tuple #[v',.int .i64 m])/\Hid ((StR w' v' D []/\Below W.heap.size W w')/\∀ P,StLoc P v->StLoc (fun b=>P b\/W.heap.size<=b) v')) /\
   (∀ W v,StR W v D []->Calls Tryz.prog 50 #[v,.int .i64 1073741824] W fun e w'=>∃ v' m,e=.returned (.tuple #[v',.int .i64 m])/\Hid ((StR w' v' (rC C2) []/\Below W.heap.size W w')/\∀ P,StLoc P v->StLoc (fun b=>P b\/W.heap.size<=b) v')))):=by
 obtain ⟨b1,b2,b3⟩:=h.bud
 refine (Merge_k w1 wr wr _ sb rb ti tl 30000 1000 a nx C L (cpg C) 1073741824 1073741824 rfl (by decide) (Hd h.st) ⟨by omega,by decide⟩ (fun c hc=>by have:=b3 c hc;omega)).mono ?_
 rintro e w2 ⟨rfl,hE⟩
 obtain ⟨C1,hM,hE⟩:=hE.out
 obtain ⟨g1,g2⟩:=hM.ref
 rw [List.take_of_length_le (by omega)] at g1 hE ⊢
 rw [List.drop_of_length_le (by omega),<-g2] at hE
 have hl:C1.length=C.length:=by
  have:=congrArg List.length g1
  rwa [mergeR_len,rC_lenP,rC_lenP] at this
 refine ⟨_,rfl,Hd ?_⟩
 refine (Reclaim_k w1 w2 w2 _ sb rb ti tl 30000 1000 (a+2*L.length) nx C1 [] 1073741824 (Hd hE.reset) ⟨by omega,by decide⟩ (by simp)).mono ?_
 rintro e w3 ⟨rfl,hF⟩
 have hln:=reclK_len [] 1073741824 C1 0
 have hcn:∀ c∈rC C,-1000000<=c.2.2/\c.2.2<=1000000:=fun c hc=>by
  obtain ⟨x,hx,rfl⟩:=List.mem_map.1 hc
  have:=b3 x hx
  simp only;omega
 refine ⟨_,rfl,Hd ⟨(reclK [] 1073741824 0 C1).1,rC C1,_,?_,?_,reclK_pos _ C1 0 (by omega),(h.both.go hE).go hF.out,fun W v hv=>?_,fun W v hv=>?_⟩⟩
 ·omega
 ·omega
 ·have:=Merge_rc v (rC C) (rL L) 1073741824 L.length W hv (by rw [rC_lenP];omega) (by rw [rL_lenP];omega) (by rw [rL_lenP];omega) hcn (lg_by L)
  rw [List.take_of_length_le (by rw [rL_lenP];omega),List.drop_of_length_le (by rw [rL_lenP];omega),<-g1] at this
  exact this.mono fun e w' h=>by
   obtain ⟨v',h1,h2⟩:=h
   exact ⟨v',_,h1,h2⟩
 ·have:=Reclaim_rc v (rC C1) (rL []) 1073741824 W hv (by rw [rC_lenP];omega) (by rw [rL_lenP];simp) (lg_by []) ⟨by decide,by decide⟩
  rw [recl_rC [] 1073741824 C1 0] at this
  exact this.mono fun e w' h=>by
   obtain ⟨v',h1,h2⟩:=h
   exact ⟨v',_,h1,h2⟩
theorem ChunksPages_k (v:Value) (l:List AcT) (w:World) (h:ActsIn w v l) :
 Calls Tryz.prog 12 #[v] w fun e w'=>e=.returned (.bool true)/\Hid (Below w.heap.size w w'):=by
 have AW:=awake11_c
 have WD:=fun w=>Wide_c 30000 w (by decide) (by decide)
 rw [show ((30000:Nat):Int)=30000 from rfl] at WD
 have BE:=Begin_c
 have SM:Hid (∀ w1,Below w.heap.size w w1->Calls Tryz.prog 46 #[v] w1 fun e w'=>e=.returned (.bool (smallA l))/\Hid (Below w1.heap.size w1 w')):=Hd fun w1 hb=>Small_c v l w1 (h.below hb)
 have HV:=Hd h
 obtain ⟨a,cap,rfl,hc⟩:=h
 have HC:=Hd hc
 clear hc
 go_enter Tryz.func12,Tryz.ntmps12
 go_wp2_with fail
 refine (AW _).mono ?_
 rintro e wa ⟨rfl,hb⟩
 have S1:=SM.out wa hb.out
 have HBA:=Hd hb.out
 clear AW SM hb
 go_wp2_with fail
 refine S1.mono ?_
 rintro e ws ⟨rfl,hb⟩
 have HBS:=Hd (HBA.out.trans (hb.out.mono HBA.out.size))
 clear S1 hb HBA
 cases hsm:smallA l with
 | false =>
   go_wp2_with fail
   go_ret
   exact ⟨rfl,HBS⟩
 | true =>
   have h80:l.length<=80:=by
    unfold smallA at hsm
    rw [Bool.and_eq_true] at hsm
    exact of_decide_eq_true hsm.1
   have H80:=Hd h80
   clear hsm h80
   go_wp2_with fail
   refine (WD _).mono ?_
   rintro e wb ⟨db,lb,FL,rfl,H1⟩
   go_wp2_with fail
   refine (BE lb wb).mono ?_
   rintro e wc ⟨rfl,H2⟩
   have OF:=Of_c _ lb 30000 FL _ [] wc (chg_new H1.out H2.out) (by decide)
   go_wp2_with fail
   refine OF.mono ?_
   rintro e wd ⟨rb,G,rfl,H3⟩
   have NR:=Hd (NewRoom.of HBS.out H1.out H2.out H3.out)
   clear OF H1 H2 H3 WD BE
   have AT:=At_k rb wd
   go_wp2_with fail
   refine AT.mono ?_
   rintro e we ⟨sb,ti,tl,rfl,HA⟩
   have M0:=Hd (RnL.start (Chs.start (N:=1000) NR.out (by decide) (by decide) HA.out.1 HA.out.2.1 HA.out.2.2))
   clear NR HA AT
   have M1:Hid (∃ v0 v1 K C L nx a,RnL w we.heap.size sb rb ti tl 0 v0 v1 K C L nx a (we.alloc (.cells #[.slice none 0 0,.slice none 0 0] 52))):=Hd ⟨_,_,_,_,_,_,_,M0.out⟩
   clear M0
   obtain ⟨B,hB⟩:=exE (we.heap.size)
   rw [hB] at M1
   go_wp2_with fail
   go_loopg [43] l.length (fun g s43 wr=>∃ (i:Nat),g=l.length-i/\i<=l.length/\s43=.int .i64 (i:Int)/\Hid (∃ v0 v1 K C L nx a,RnL w B sb rb ti tl i v0 v1 K C L nx a wr))
   case atStart=>exact ⟨0,rfl,Nat.zero_le _,rfl,M1⟩
   case round =>
    obtain ⟨i,rfl,hi,rfl,HR⟩:=hrel
    clear M1 hB
    obtain ⟨v0,v1,K,C,L,nx,aa,HI⟩:=HR.out
    by_cases hlt:i<l.length
    ·obtain ⟨b,off,rfl,hbl,⟨c0,c1,c2,c3,c4⟩,hok⟩:=HC.out i hlt
     have kk:∀ j,wr.cell? ⟨b,j,none⟩=w.cell? ⟨b,j,none⟩:=fun j=>HI.st.bel.cell (p:=⟨b,j,none⟩) hbl
     replace c0:=(kk _).trans c0
     replace c1:=(kk _).trans c1
     replace c2:=(kk _).trans c2
     replace c3:=(kk _).trans c3
     replace c4:=(kk _).trans c4
     have hi80:i<80:=by have:=H80.out;omega
     have DO:Hid (∀ o,Calls Tryz.prog 47 #[.pointer (some ⟨sb,0,none⟩),.pointer (some ⟨B,0,none⟩),.agg #[.int .i64 l[i].1,.int .i64 l[i].2.1,.int .i64 l[i].2.2.1,.string l[i].2.2.2.1,.bool l[i].2.2.2.2]] (wr.alloc o) fun e w'=>e=.returned (.tuple #[.bool true,.bool false])/\Hid (∃ v0' v1' K' C2 L2 nx2 a2,RnL w B sb rb ti tl (i+1) v0' v1' K' C2 L2 nx2 a2 w')):=Hd fun o=>Do_k l[i] hok (Hd (HI.below ((Below.refl _ _).alloc (Nat.le_refl _) o))) hi80
     have HLT:=Hd hlt
     have hl5:l.length<=80:=H80.out
     clear kk HI hok hbl
     generalize l[i].1=p0 at *
     generalize l[i].2.1=p1 at *
     generalize l[i].2.2.1=p2 at *
     generalize l[i].2.2.2.1=p3 at *
     generalize l[i].2.2.2.2=p4 at *
     go_wp2_with fail
     refine (DO.out _).mono ?_
     rintro e w2 ⟨rfl,H2⟩
     clear DO c0 c1 c2 c3 c4
     go_wp2_with fail
     go_roundg (l.length-(i+1))
     case measure=>have:=HLT.out;omega
     case rel=>exact ⟨i+1,rfl,HLT.out,by congr 1,H2⟩
    ·obtain rfl:i=l.length:=by omega
     have PG:=HI.pages H80.out
     have HRF:Hid (RnL w B sb rb ti tl l.length v0 v1 K C L nx aa wr):=Hd HI
     clear HI hlt hi
     go_wp2_with fail
     refine PG.mono ?_
     rintro e w2 ⟨m1,rfl,H2⟩
     clear PG HRF HR
     go_wp2_with fail
     refine H2.out.mono ?_
     rintro e w3 ⟨m2,rfl,H3⟩
     obtain ⟨C2,D,a2,ha2,hC2,hps,R3,RM,RR⟩:=H3.out
     have HPS:=Hd hps
     have HRM:=Hd RM
     have HRR:=Hd RR
     obtain ⟨f0,fc0,f1,fc1,hf⟩:=R3.ref.form
     cases hf
     have HR3:=Hd R3
     have HA2:=Hd (And.intro ha2 hC2)
     have x0:=cell_lit R3.box (i:=0) rfl
     have x1:=cell_lit R3.box (i:=1) rfl
     clear H2 H3 hps RM RR R3 ha2 hC2
     go_wp2_with fail
     refine (HRM.out w3 _ HR3.out.ref).mono ?_
     rintro e w4 ⟨v',m3,rfl,H4⟩
     obtain ⟨⟨r4,b4⟩,l4⟩:=H4.out
     obtain ⟨g0,n0,g1,n1,hf⟩:=r4.form
     rw [List.length_nil] at hf
     subst hf
     obtain ⟨⟨c0,q0,c1,q1⟩,N4⟩:=HR3.out.next b4 r4 l4
     have HN4:=Hd N4
     clear H4 r4 b4 l4 N4 x0 x1
     go_wp2_with fail
     obtain ⟨K4,R4⟩:=HN4.out
     clear HN4 HR3 HRM c0 q0 c1 q1
     obtain ⟨w5,hw5⟩:=exE ((w4.setCell ⟨B,0,none⟩ (.slice g0 D.length n0)).setCell ⟨B,1,none⟩ (.slice g1 0 n1))
     rw [hw5] at R4 ⊢
     clear hw5
     have x0:=cell_lit R4.box (i:=0) rfl
     have x1:=cell_lit R4.box (i:=1) rfl
     have HR5:=Hd R4
     clear R4
     go_wp2_with fail
     refine (HRR.out w5 _ HR5.out.ref).mono ?_
     rintro e w6 ⟨v'',m4,rfl,H6⟩
     obtain ⟨⟨r6,b6⟩,l6⟩:=H6.out
     obtain ⟨h0,o0,h1,o1,hf⟩:=r6.form
     rw [List.length_nil] at hf
     subst hf
     obtain ⟨⟨c0,q0,c1,q1⟩,N6⟩:=HR5.out.next b6 r6 l6
     have HN6:=Hd N6
     clear H6 r6 b6 l6 N6 x0 x1
     go_wp2_with fail
     obtain ⟨K6,R6⟩:=HN6.out
     clear HN6 HR5 HRR c0 q0 c1 q1
     obtain ⟨w7,hw7⟩:=exE ((w6.setCell ⟨B,0,none⟩ (.slice h0 (rC C2).length o0)).setCell ⟨B,1,none⟩ (.slice h1 0 o1))
     rw [hw7] at R6 ⊢
     clear hw7
     have y0:=cell_lit R6.box (i:=0) rfl
     have hlo:=R6.lo
     obtain ⟨p,P6⟩:=R6.st.pages
     have HP6:=Hd P6
     have HB6:=Hd (And.intro (lt_of_heap R6.box) R6.kb)
     have AT:=At_c rb 0 w7
     rw [show ((0:Nat):Int)=0 from rfl] at AT
     clear R6 P6 hlo
     go_wp2_with fail
     refine AT.mono ?_
     rintro e w8 ⟨rfl,H8⟩
     have CK:=CheckP_c HP6 HA2.out.1 w8 H8.out.2 H8.out.1
     clear AT H8
     go_wp2_with fail
     refine CK.mono ?_
     rintro e w9 ⟨rfl,H9⟩
     have US:=UsedP_c (Hd H9.out) HA2.out.1
     clear CK
     rw [show ((cpg C2).length:Int)=(C2.length:Int) by simp [cpg]] at US
     go_wp2_with fail
     refine US.mono ?_
     rintro e w10 ⟨rfl,H10⟩
     have WT:=Waits_k _ _ _ _ _ _ _ _ _ _ _ _ _ _ _ (Hd H10.out.chs) ⟨HA2.out.1,by decide⟩ (by simp)
     rw [List.length_nil,show ((0:Nat):Int)=0 from rfl] at WT
     clear US
     go_wp2_with fail
     refine WT.mono ?_
     rintro e w11 ⟨rfl,H11⟩
     have AL:=All_k _ _ _ _ _ _ _ _ _ _ _ _ _ _ _ (Hd H11.out) ⟨HA2.out.1,by decide⟩ (by have:=HA2.out.2;omega)
     clear WT
     go_wp2_with fail
     refine AL.mono ?_
     rintro e w12 ⟨va,rfl,H12⟩
     clear AL
     obtain ⟨ra,rc,rfl⟩:∃ ra rc,va=.slice ra C2.length rc:=by
      rcases H12.out.1.2 with ⟨rfl,h0⟩|⟨g,cap,cur,rfl,-⟩
      ·exact ⟨_,_,by rw [h0]⟩
      ·exact ⟨_,_,rfl⟩
     have HK:Hid (Kept K6 w7 w12):=Hd (H11.out.kept.trans H12.out.2.2)
     have hp:p<=100000:=Nat.le_trans HP6.out.small (by decide)
     have HBW:Hid (Below w.heap.size w w12):=Hd H12.out.2.1.bel
     have HRO:=Hd H12.out.1
     have z0:=HK.out.cell HB6.out.2 y0
     have hB12:B<w12.heap.size:=by
      rcases Nat.lt_or_ge B w12.heap.size with h|h
      ·exact h
      ·have:=World.block_lt_of_cell? w12 _ z0;omega
     have HRR:Hid (∀ i (hi:i<C2.length),∃ g,ra=some ⟨g,0,none⟩/\∀ W,Below w12.heap.size w12 W->W.cell? ⟨g,i*3,none⟩=some (.string C2[i].id)/\W.cell? ⟨g,i*3+1,none⟩=some (.int .i64 (C2[i].text.size:Int))/\W.cell? ⟨g,i*3+2,none⟩=some (.int .i64 C2[i].cnt)):=Hd fun i hi=>by
      obtain ⟨g,rfl⟩:∃ g,ra=some ⟨g,0,none⟩:=by
       rcases HRO.out.2 with ⟨e,h0⟩|⟨g,cap,cur,e,-⟩
       ·omega
       ·cases e;exact ⟨g,rfl⟩
      obtain ⟨c0,c1,c2⟩:=chkC_get hi
      have d0:=HRO.out.cells rfl _ _ c0
      have d1:=HRO.out.cells rfl _ _ c1
      have d2:=HRO.out.cells rfl _ _ c2
      rw [addr_addO,Nat.zero_add] at d0 d1 d2
      have hg:=World.block_lt_of_cell? w12 _ d0
      exact ⟨g,rfl,fun W hW=>⟨(hW.cell (p:=⟨g,i*3,none⟩) hg).trans d0,(hW.cell (p:=⟨g,i*3+1,none⟩) hg).trans d1,(hW.cell (p:=⟨g,i*3+2,none⟩) hg).trans d2⟩⟩
     have HZ:Hid (∀ W,Below w12.heap.size w12 W->W.cell? ⟨B,0,none⟩=some (.slice h0 (rC C2).length o0)):=Hd fun W hW=>(hW.cell hB12).trans z0
     clear y0 z0 H9 H10 H11 H12 HP6 HB6 HK HRO hB12
     have R0:Hid (Below w12.heap.size w12 w12):=Hd (Below.refl _ _)
     have hCL:C2.length<=1000:=HA2.out.2
     rw [rC_lenP] at HZ
     go_wp2_with fail
     go_loopg [102] C2.length (fun g s102 wq=>∃ i:Nat,g=C2.length-i/\i<=C2.length/\s102=.int .i64 (i:Int)/\Hid (Below w12.heap.size w12 wq))
     case atStart=>exact ⟨0,rfl,Nat.zero_le _,rfl,R0⟩
     case round =>
      obtain ⟨wo,rfl⟩:∃ x,x=wr:=⟨_,rfl⟩
      obtain ⟨i,rfl,hi,rfl,HI⟩:=hrel
      clear R0
      by_cases hlt:i<C2.length
      ·obtain ⟨g,rfl,hR⟩:=HRR.out i hlt
       obtain ⟨r0,r1,r2⟩:=hR wo HI.out
       have hc1:decide (C2[i].cnt<1)=false:=decide_eq_false (by have:=HPS.out _ (List.getElem_mem hlt);omega)
       have HE:Hid (∀ o,Below w12.heap.size w12 (wo.alloc o)):=Hd fun o=>HI.out.alloc HI.out.size o
       have HLT:=Hd hlt
       clear hR HI
       generalize C2[i].id=ky at *
       generalize (C2[i].text.size:Int)=tx at *
       generalize C2[i].cnt=ct at *
       go_wp2_with fail
       go_roundg (C2.length-(i+1))
       case measure=>have:=HLT.out;omega
       case rel=>exact ⟨i+1,rfl,HLT.out,by congr 1,Hd (HE.out _)⟩
      ·obtain rfl:i=C2.length:=by omega
       have z0:=HZ.out wo HI.out
       have HF:Hid (Below w.heap.size w wo):=Hd (HBW.out.trans (HI.out.mono HBW.out.size))
       clear HI HZ HRR hlt hi
       go_wp2_with fail
       go_ret
       exact ⟨by simp,HF⟩
theorem ChunksPages_w (v0:Value) (w:World) (g0:Reads w 93 v0):Calls Tryz.prog 12 #[v0] w fun e w'=>e=.returned (.bool true)/\Below w.heap.size w w':=by
 obtain ⟨l,hl⟩:=reads_acts g0
 exact (ChunksPages_k v0 l w hl).mono fun e w' h=>⟨h.1,h.2.out⟩
end Go.Proofs.YtdcjhpafipbpkaaGreatDoor
