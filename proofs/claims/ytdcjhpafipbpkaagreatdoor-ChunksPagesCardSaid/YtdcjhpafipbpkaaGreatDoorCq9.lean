/- Parts of the proof of ChunksPages,joined: RcpT,RcpU,RcpX,RcpY,RcpN,RcpO,RcpP,RcpZ,BldA,BldP,CrnS,CrnA,RfmA,RfmB,RfmC,RfmD,ChrC,ChrD,ChrE,ChrF,CrnB,CrnC,CrnD,CrnE,CrnF. No condition. -/
import Derived.Test.YtdcjhpafipbpkaaGreatDoorCq8
import Derived.Deep.RegionHeld3
set_option linter.unusedSimpArgs false
set_option linter.unusedVariables false
set_option linter.unusedSectionVars false
namespace Go.Proofs.YtdcjhpafipbpkaaGreatDoor
set_option maxRecDepth 100000
set_option maxHeartbeats 4000000
open Go.RowKit
set_option maxHeartbeats 1000000
set_option maxHeartbeats 4000000
theorem StR.keepW {w w':World} {K:Nat->Prop} {v:Value} {C:List RCk} {L:List REn} (h:StR w v C L) (hl:StLoc K v) (hk:Kept K w w') (hs:∀ k,K k->k<w'.heap.size):StR w' v C L:=by
 obtain ⟨va,vl,rfl,h1,h2⟩:=h
 obtain ⟨va',vl',e,g1,g2⟩:=hl
 cases e
 have:∀ {v:Value} {n sz:Nat} {xs:List Value},RdRow w v n sz xs->(∀ g,v.ownBlock=some g->K g)->RdRow w' v n sz xs:=fun h hg=>by
  obtain ⟨a,c,rfl,h1,h2,h3,h4⟩:=h
  refine ⟨_,_,rfl,h1,h2,h3,fun ad e=>?_⟩
  obtain ⟨b,off,e1,h5,h6⟩:=h4 ad e
  subst e e1
  have hb:=hg b rfl
  refine ⟨b,off,rfl,hs b hb,fun j u hu=>?_⟩
  rw [<-h6 j u hu]
  simp only [World.cell?,hk b hb]
 exact ⟨va,vl,rfl,this h1 g1,this h2 g2⟩
theorem Chs.newK {w1 w0 w w':World} {K:Nat->Prop} {sb rb ti tl n N a nx:Nat} {C:List Ck} {L:List Lg} {X:List (Nat × ByteArray)} (h:Chs w1 w0 w K sb rb ti tl n N a C L nx X) (hb:Below w.heap.size w w'):Chs w1 w' w' (fun k=>K k\/(w.heap.size<=k/\k<w'.heap.size)) sb rb ti tl n N a C L nx X :=
 h.updN (F:=fun _=>False) ⟨hb.os,hb.tape,hb.output,hb.size,fun k hk _=>hb.block k hk⟩ fun _ h=>h.elim
def RBud (k a:Nat) (C:List Ck) (L:List Lg):Prop:=a+2*L.length+2*C.length<=4*k/\L.length<=k/\∀ c∈C,-(k:Int)<=c.cnt-L.length/\c.cnt+L.length<=k
structure RnL (w1:World) (B sb rb ti tl k:Nat) (v0 v1:Value) (K:Nat->Prop) (C:List Ck) (L:List Lg) (nx a:Nat) (wr:World):Prop where
 st:Chs w1 wr wr K sb rb ti tl 30000 1000 a C L nx (cpg C)
 box:wr.heap[B]?=some (.cells #[v0,v1] 52 (0,0))
 kb:K B
 ref:StR wr (.agg #[v0,v1]) (rC C) (rL L)
 loc:StLoc (fun j=>K j/\j≠B) (.agg #[v0,v1])
 lo:w1.heap.size<=B/\B≠sb/\B≠ti/\B≠tl
 bud:RBud k a C L
section
variable {w1 wr w4 w5 w':World} {B sb rb ti tl k a a' nx nx':Nat} {v0 v1 v0' v1':Value} {K:Nat->Prop} {C C':List Ck} {L L':List Lg}
theorem RBud.same {k a:Nat} {C:List Ck} {L:List Lg} (h:RBud k a C L):RBud (k+1) a C L:=⟨by have:=h.1;omega,by have:=h.2.1;omega,fun c hc=>by have:=h.2.2 c hc;omega⟩
theorem RnL.below (h:RnL w1 B sb rb ti tl k v0 v1 K C L nx a wr) (hb:Below wr.heap.size wr w'):RnL w1 B sb rb ti tl k v0 v1 K C L nx a w' :=
 ⟨(h.st.below hb).reset,(hb.block _ (lt_of_heap h.box)).trans h.box,h.kb,h.ref.below hb,h.loc,h.lo,h.bud⟩
theorem RnL.next (h:RnL w1 B sb rb ti tl k v0 v1 K C L nx a wr) (q:Chs w1 wr w4 K sb rb ti tl 30000 1000 a' C' L' nx' (cpg C')) (b5:Below w4.heap.size w4 w5) (r5:StR w5 (.agg #[v0',v1']) (rC C') (rL L')) (l5:∀ D,StLoc D (.agg #[v0,v1])->StLoc (fun b=>D b\/w4.heap.size<=b) (.agg #[v0',v1']))
 (hb:RBud (k+1) a' C' L') :
 ∃ K',RnL w1 B sb rb ti tl (k+1) v0' v1' K' C' L' nx' a' ((w5.setCell ⟨B,0,none⟩ v0').setCell ⟨B,1,none⟩ v1'):=by
 have hBlt:B<w4.heap.size:=q.klt h.kb
 have hU:Upd (fun k=>k=B) w5 ((w5.setCell ⟨B,0,none⟩ v0').setCell ⟨B,1,none⟩ v1'):=Upd.setCell (S:=fun k=>k=B) (Upd.setCell (S:=fun k=>k=B) (Upd.refl _ w5) (p:=⟨B,0,none⟩) (.inl rfl) v0') (p:=⟨B,1,none⟩) (.inl rfl) v1'
 have hrest:=(q.below b5).reset
 have hbx5:w5.heap[B]?=some (.cells #[v0,v1] 52 (0,0)):=(b5.block B hBlt).trans ((q.kept B h.kb).trans h.box)
 have hbx8:=heap_set_lit (i:=1) (heap_set_lit (i:=0) hbx5 v0') v1'
 have hlt5:=r5.lt
 have hloc5:=(l5 _ h.loc).and hlt5
 have s45:=b5.size
 have hn:Chs w1 w5 w5 (fun j=>K j\/(w4.heap.size<=j/\j<w5.heap.size)) sb rb ti tl 30000 1000 a' C' L' nx' (cpg C'):=q.newK b5
 have hset:=hn.updN hU fun j e=>by
  subst e
  exact ⟨.inl h.kb,h.lo⟩
 have hD:∀ j,((K j/\j≠B)\/w4.heap.size<=j)/\j<w5.heap.size->(K j\/(w4.heap.size<=j/\j<w5.heap.size))/\j≠B:=fun j hj=>by
  rcases hj.1 with h2|h2
  ·exact ⟨.inl h2.1,h2.2⟩
  ·exact ⟨.inr ⟨h2,hj.2⟩,by omega⟩
 have hl:=hloc5.mono hD
 exact ⟨_,hset.mono fun j hj=>.inl hj,hbx8,.inl h.kb,(r5.setLoc hl (fun hj=>hj.2 rfl) v0').setLoc hl (fun hj=>hj.2 rfl) v1',hl,h.lo,hb⟩
end
abbrev AcT:=Int × Int × Int × ByteArray × Bool
def I64 (n:Int):Prop:=-9223372036854775808<=n/\n<9223372036854775808
def AcOk (p:AcT):Prop:=I64 p.1/\I64 p.2.1/\I64 p.2.2.1
def actV (p:AcT):Value:=.agg #[.int .i64 p.1,.int .i64 p.2.1,.int .i64 p.2.2.1,.string p.2.2.2.1,.bool p.2.2.2.2]
theorem readsC_act {w:World} {es:List Value} (h:ReadsC w 96 es):∃ p:AcT,es=[.int .i64 p.1,.int .i64 p.2.1,.int .i64 p.2.2.1,.string p.2.2.2.1,.bool p.2.2.2.2]/\AcOk p:=by
 obtain ⟨hl,hf⟩:=readsC_struct Tryz.underlying96 h
 have hl:es.length=5:=hl.trans (by kernel_rfl)
 have c1:Tryz.prog.cellsOf 9=1:=by kernel_rfl
 have c2:Tryz.prog.cellsOf 3=1:=by kernel_rfl
 have c3:Tryz.prog.cellsOf 4=1:=by kernel_rfl
 match es,hl with
 | [a,b,c,d,e],_ =>
   have f0:ReadsC w 3 (([a,b,c,d,e].drop 0).take (Tryz.prog.cellsOf 3)):=hf 0 _ rfl
   have f1:ReadsC w 3 (([a,b,c,d,e].drop 1).take (Tryz.prog.cellsOf 3)):=hf 1 _ rfl
   have f2:ReadsC w 3 (([a,b,c,d,e].drop 2).take (Tryz.prog.cellsOf 3)):=hf 2 _ rfl
   have f3:ReadsC w 9 (([a,b,c,d,e].drop 3).take (Tryz.prog.cellsOf 9)):=hf 3 _ rfl
   have f4:ReadsC w 4 (([a,b,c,d,e].drop 4).take (Tryz.prog.cellsOf 4)):=hf 4 _ rfl
   rw [c2] at f0 f1 f2
   rw [c1] at f3
   rw [c3] at f4
   obtain ⟨n0,e0,h0⟩:=readsC_int Tryz.underlying3 f0
   obtain ⟨n1,e1,h1⟩:=readsC_int Tryz.underlying3 f1
   obtain ⟨n2,e2,h2⟩:=readsC_int Tryz.underlying3 f2
   obtain ⟨t,e3,h3⟩:=readsC_string Tryz.underlying9 f3
   obtain ⟨bb,e4⟩:=readsC_bool Tryz.underlying4 f4
   simp at e0 e1 e2 e3 e4
   subst e0 e1 e2 e3 e4
   have b0:=bounds_i64 h0
   have b1:=bounds_i64 h1
   have b2:=bounds_i64 h2
   exact ⟨(n0,n1,n2,t,bb),rfl,by unfold AcOk I64;simp only;omega⟩
def ActsIn (w:World) (v:Value) (l:List AcT):Prop:=∃ a cap,v=.slice a l.length cap/\∀ i (hi:i<l.length),∃ b off,a=some ⟨b,off,none⟩/\b<w.heap.size/\(w.cell? ⟨b,off+i*5,none⟩=some (.int .i64 l[i].1)/\w.cell? ⟨b,off+i*5+1,none⟩=some (.int .i64 l[i].2.1)/\w.cell? ⟨b,off+i*5+2,none⟩=some (.int .i64 l[i].2.2.1)/\w.cell? ⟨b,off+i*5+3,none⟩=some (.string l[i].2.2.2.1)/\w.cell? ⟨b,off+i*5+4,none⟩=some (.bool l[i].2.2.2.2))/\AcOk l[i]
theorem reads_acts {w:World} {v:Value} (h:Reads w 93 v):∃ l:List AcT,ActsIn w v l:=by
 have c2:Tryz.prog.cellsOf 96=5:=by kernel_rfl
 obtain ⟨a,len,cap,rfl,hlc,hcm,hel⟩:=reads_slice Tryz.underlying93 (by rw [c2];decide) h
 rw [c2] at hel
 obtain ⟨l,hl,hp⟩:=choose_list (n:=len) (p:=fun i (f:AcT)=>(∃ b off,a=some ⟨b,off,none⟩/\b<w.heap.size/\(w.cell? ⟨b,off+i*5,none⟩=some (.int .i64 f.1)/\w.cell? ⟨b,off+i*5+1,none⟩=some (.int .i64 f.2.1)/\w.cell? ⟨b,off+i*5+2,none⟩=some (.int .i64 f.2.2.1)/\w.cell? ⟨b,off+i*5+3,none⟩=some (.string f.2.2.2.1)/\w.cell? ⟨b,off+i*5+4,none⟩=some (.bool f.2.2.2.2))/\AcOk f)) (fun k hk=>by
  obtain ⟨b,off,es,rfl,hes,hb,hc,hr⟩:=hel k hk
  obtain ⟨p,rfl,hp⟩:=readsC_act hr
  exact ⟨p,b,off,rfl,hb,⟨hc 0 (by simp),hc 1 (by simp),hc 2 (by simp),hc 3 (by simp),hc 4 (by simp)⟩,hp⟩)
 subst hl
 exact ⟨l,a,cap,rfl,fun i hi=>hp i hi⟩
theorem ActsIn.below {w w':World} {v:Value} {l:List AcT} (h:ActsIn w v l) (hb:Below w.heap.size w w'):ActsIn w' v l:=by
 obtain ⟨a,cap,rfl,hc⟩:=h
 refine ⟨a,cap,rfl,fun i hi=>?_⟩
 obtain ⟨b,off,e,h1,⟨c0,c1,c2,c3,c4⟩,h3⟩:=hc i hi
 have k:∀ j,w'.cell? ⟨b,j,none⟩=w.cell? ⟨b,j,none⟩:=fun j=>hb.cell (p:=⟨b,j,none⟩) h1
 exact ⟨b,off,e,Nat.lt_of_lt_of_le h1 hb.size,⟨(k _).trans c0,(k _).trans c1,(k _).trans c2,(k _).trans c3,(k _).trans c4⟩,h3⟩
def smallA (l:List AcT):Bool:=decide (l.length<=80) && l.all fun p=>decide (p.2.2.2.1.size<=200)
theorem Small_c (v:Value) (l:List AcT) (w:World) (h:ActsIn w v l) :
 Calls Tryz.prog 46 #[v] w fun e w'=>e=.returned (.bool (smallA l))/\Hid (Below w.heap.size w w'):=by
 obtain ⟨a,cap,rfl,hc⟩:=h
 have HC:=Hd hc
 clear hc
 by_cases h80:l.length<=80
 ·have d0:decide ((l.length:Int) > 80)=false:=decide_eq_false (by omega)
  go_enter Tryz.func46,Tryz.ntmps46
  go_wp2_with fail
  go_loopg [10] l.length (fun g s10 wr=>∃ i:Nat,g=l.length-i/\i<=l.length/\s10=.int .i64 (i:Int)/\Hid ((∀ p∈l.take i,p.2.2.2.1.size<=200)/\Below w.heap.size w wr))
  case atStart=>exact ⟨0,rfl,Nat.zero_le _,rfl,Hd ⟨by simp,Below.refl _ _⟩⟩
  case round =>
   obtain ⟨i,rfl,hi,rfl,HI⟩:=hrel
   by_cases hlt:i<l.length
   ·obtain ⟨b,off,rfl,hb,⟨c0,c1,c2,c3,c4⟩,-⟩:=HC.out i hlt
    have k:∀ j,wr.cell? ⟨b,j,none⟩=w.cell? ⟨b,j,none⟩:=fun j=>HI.out.2.cell (p:=⟨b,j,none⟩) hb
    replace c0:=(k _).trans c0
    replace c1:=(k _).trans c1
    replace c2:=(k _).trans c2
    replace c3:=(k _).trans c3
    replace c4:=(k _).trans c4
    have HTK:Hid (l.take (i+1)=l.take i++[l[i]]):=Hd (List.take_succ_eq_append_getElem hlt)
    have HM:=Hd (List.getElem_mem hlt)
    have HB2:=Hd fun o=>HI.out.2.alloc HI.out.2.size o
    have HA:=Hd HI.out.1
    clear k HI hb
    generalize l[i]=p at *
    obtain ⟨p0,p1,p2,t,rw_⟩:=p
    simp only at c0 c1 c2 c3 c4
    by_cases hs:t.size<=200
    ·have d1:decide ((t.size:Int) > 200)=false:=decide_eq_false (by omega)
     have HN:Hid (∀ q∈l.take (i+1),q.2.2.2.1.size<=200):=Hd fun q hq=>by
      rw [HTK.out] at hq
      rcases List.mem_append.1 hq with h|h
      ·exact HA.out q h
      ·simp at h;subst h;exact hs
     clear hs
     go_wp2_with fail
     go_roundg (l.length-(i+1))
     case measure=>omega
     case rel=>exact ⟨i+1,rfl,by omega,by congr 1,Hd ⟨HN.out,HB2.out _⟩⟩
    ·have d1:decide ((t.size:Int) > 200)=true:=decide_eq_true (by omega)
     have HE:=Hd (show smallA l=false by
      unfold smallA
      rw [Bool.and_eq_false_iff];right
      rw [List.all_eq_false]
      exact ⟨_,HM.out,by simpa using hs⟩)
     clear hs
     go_wp2_with fail
     go_ret
     exact ⟨ret_bool HE.out.symm,Hd (HB2.out _)⟩
   ·obtain rfl:i=l.length:=by omega
    have HE:=Hd (show smallA l=true by
     unfold smallA
     have:=HI.out.1
     rw [List.take_length] at this
     simp only [Bool.and_eq_true,decide_eq_true_eq,List.all_eq_true]
     exact ⟨h80,this⟩)
    have HB2:=Hd HI.out.2
    clear HI hlt hi
    go_wp2_with fail
    go_ret
    exact ⟨ret_bool HE.out.symm,HB2⟩
 ·have d0:decide ((l.length:Int) > 80)=true:=decide_eq_true (by omega)
  have HE:=Hd (show smallA l=false by unfold smallA;simp [h80])
  clear h80
  go_enter Tryz.func46,Tryz.ntmps46
  go_wp2_with fail
  go_ret
  exact ⟨ret_bool HE.out.symm,Hd (Below.refl _ _)⟩
theorem Pending_rc (v:Value) (C:List RCk) (L:List REn) (id:ByteArray) (w:World) (h:StR w v C L) (hL:L.length<=100000) (hb:∀ e∈L,-1<=e.2/\e.2<=1) :
 Calls Tryz.prog 101 #[v,.string id] w fun e w'=>e=.returned (.tuple #[.int .i64 (pendR L id).1,.int .i64 ((pendR L id).2:Int)])/\Hid (Below w.heap.size w w'):=by
 obtain ⟨va,vl,rfl,-,h1⟩:=h
 obtain ⟨wb,hwb⟩:=exE (w.alloc (.cells #[va,vl] 52))
 have HB:Hid (Below w.heap.size w wb):=Hd (by rw [<-hwb];exact (Below.refl _ _).alloc (Nat.le_refl _) _)
 have HR:=Hd (h1.below HB.out)
 have cb:wb.cell? ⟨w.heap.size,1,none⟩=some vl:=by rw [<-hwb];exact cell_lit (heap_alloc_new _ _) rfl
 obtain ⟨a,cap,rfl,hcap⟩:=h1.form
 have HLL:=Hd hL
 have HBB:=Hd hb
 clear h1 hcap hL hb
 go_enter Tryz.func101,Tryz.ntmps101
 go_wp2_with fail
 clear hwb
 go_loopg [6,7,8] L.length (fun g s6 s7 s8 wr=>∃ (k:Nat) (q:Int × Nat),g=L.length-k/\k<=L.length/\s6=.int .i64 q.1/\s7=.int .i64 (q.2:Int)/\s8=.int .i64 (k:Int)/\Hid (pendR (L.take k) id=q)/\wb=wr)
 case atStart=>exact ⟨0,(0,0),rfl,Nat.zero_le _,rfl,rfl,rfl,Hd rfl,rfl⟩
 case round =>
  obtain ⟨k,⟨q1,q2⟩,rfl,hk,rfl,rfl,rfl,HQ,rfl⟩:=hrel
  simp only
  by_cases hlt:k<L.length
  ·obtain ⟨c1,c2⟩:=enC_get hlt
   obtain ⟨b,off,rfl,hb,hc⟩:=HR.out.get c1
   have ck:=hc _ _ c1
   have ck2:wb.cell? ⟨b,off+k*2+1,none⟩=some (.int .i64 L[k].2):=hc _ _ c2
   have HLT:=Hd hlt
   have hsm:L.length<=100000:=HLL.out
   have hpn:pendR (L.take (k+1)) id=if L[k].1=id then ((pendR (L.take k) id).1+L[k].2,(pendR (L.take k) id).2+1) else pendR (L.take k) id:=by
    rw [List.take_succ_eq_append_getElem hlt];exact pendR_snoc (L.take k) L[k] id
   rw [HQ.out] at hpn
   have hpa:=pendR_abs (L:=L.take k) id (fun e he=>HBB.out e (List.mem_of_mem_take he))
   have hpl:=pendR_len (L.take k) id
   rw [HQ.out,List.length_take] at hpa hpl
   have hby:=HBB.out _ (List.getElem_mem hlt)
   simp only at hpa hpl
   have HWR:=Hd (wrap_up hlt (by omega))
   by_cases he:L[k].1=id
   ·rw [if_pos he] at hpn
    have heq:(L[k].1.toList == id.toList)=true:=by rw [he];simp
    have e1:Hid (wrap64 (q1+L[k].2)=q1+L[k].2):=Hd (by unfold wrap64;omega)
    have e2:Hid (wrap64 ((q2:Int)+1)=((q2+1:Nat):Int)):=Hd (by unfold wrap64;push_cast;omega)
    have HP:=Hd hpn
    clear hc he hpn hpa hpl hby HQ c1 c2
    generalize L[k].1=i at *
    generalize L[k].2=y at *
    go_wp2_with fail
    go_roundg (L.length-(k+1))
    case measure=>have:=HLT.out;omega
    case rel=>exact ⟨k+1,_,rfl,HLT.out,congrArg (Value.int .i64) e1.out,congrArg (Value.int .i64) e2.out,by congr 1,HP,rfl⟩
   ·rw [if_neg he] at hpn
    have heq:(L[k].1.toList == id.toList)=false:=ba_neR he
    have HP:=Hd hpn
    clear hc he hpn hpa hpl hby HQ c1 c2
    generalize L[k].1=i at *
    generalize L[k].2=y at *
    go_wp2_with fail
    go_roundg (L.length-(k+1))
    case measure=>have:=HLT.out;omega
    case rel=>exact ⟨k+1,_,rfl,HLT.out,rfl,rfl,by congr 1,HP,rfl⟩
  ·obtain rfl:k=L.length:=by omega
   have hq:=HQ.out
   rw [List.take_length] at hq
   have HE:=Hd hq
   clear HQ hq hk hlt
   go_wp2_with fail
   go_ret2
   rw [HE.out]
   exact ⟨rfl,HB⟩
theorem Add_rc0 (v:Value) (C:List RCk) (L:List REn) (id:ByteArray) (by_ er:Int) (w:World) (h:StR w v C L) (hC:C.length<=1000000) (h1:((by_≠1/\by_≠-1)/\er=1)\/((by_=1\/by_=-1)/\fndR C id=none/\er=6)) :
 Calls Tryz.prog 99 #[v,.string id,.int .i64 by_] w fun e w'=>∃ v',e=.returned (.tuple #[v',.int .i64 er])/\Hid ((StR w' v' C L/\Below w.heap.size w w')/\∀ D,StLoc D v->StLoc (fun b=>D b\/w.heap.size<=b) v'):=by
 have HST:=Hd h
 obtain ⟨va,vl,rfl,h2,h3⟩:=h
 obtain ⟨aA,cA,rfl,-⟩:=h2.form
 obtain ⟨aL,cL,rfl,-⟩:=h3.form
 have B0:=BoxW.start w (.slice aA C.length cA) (.slice aL L.length cL)
 obtain ⟨wb,hwb⟩:=exE ((w.alloc (.cells #[.slice aA C.length cA,.slice aL L.length cL] 52)).alloc (.cells #[.slice none 0 0,.slice none 0 0] 52))
 rw [hwb] at B0
 have HB0:=Hd B0
 have HG:Hid (∀ W,BoxW w (.slice aA C.length cA) (.slice aL L.length cL) W->(StR ((W.setCell ⟨w.heap.size+1,0,none⟩ (.slice aA C.length cA)).setCell ⟨w.heap.size+1,1,none⟩ (.slice aL L.length cL)) (.agg #[.slice aA C.length cA,.slice aL L.length cL]) C L/\Below w.heap.size w ((W.setCell ⟨w.heap.size+1,0,none⟩ (.slice aA C.length cA)).setCell ⟨w.heap.size+1,1,none⟩ (.slice aL L.length cL)))/\∀ D,StLoc D (.agg #[.slice aA C.length cA,.slice aL L.length cL])->StLoc (fun b=>D b\/w.heap.size<=b) (.agg #[.slice aA C.length cA,.slice aL L.length cL])):=Hd fun W hW=>by
  have o5:=(hW.out (.slice aA C.length cA) (.slice aL L.length cL)).2.2.2.2
  exact ⟨⟨HST.out.below o5,o5⟩,fun D hD=>hD.mono fun b hb=>Or.inl hb⟩
 rcases h1 with ⟨⟨n1,n2⟩,rfl⟩|⟨h1,hf,rfl⟩
 ·obtain ⟨x0,x1,x2,x3,x4⟩:=B0.cells
  obtain ⟨r0,r1,r2,r3,r4⟩:=B0.res
  obtain ⟨o1,o2,o3,o4,o5⟩:=B0.out (.slice aA C.length cA) (.slice aL L.length cL)
  have d1:(by_ != 1)=true:=by simpa using n1
  have d2:(by_ != -1)=true:=by simpa using n2
  have HF:=Hd (HG.out _ B0)
  clear B0 h2 h3 n1 n2 HG o5
  go_enter Tryz.func99,Tryz.ntmps99
  go_wp2_with fail
  (try simp only [Exit.inBlock,Exit.then])
  refine bodyPost_ret (v:=.tuple #[.agg #[.slice aA C.length cA,.slice aL L.length cL],.int .i64 1]) ?_ rfl ⟨_,rfl,HF⟩
  rw [results_cell_tmp rfl]
  go_simp
 ·have AT:=At_rc (.agg #[.slice aA C.length cA,.slice aL L.length cL]) C L id wb (HST.out.below B0.bel) hC
  rw [(ixR_none hf).1] at AT
  obtain ⟨x0,x1,x2,x3,x4⟩:=B0.cells
  clear B0 hf h2 h3
  rcases h1 with rfl|rfl
  all_goals (
   go_enter Tryz.func99,Tryz.ntmps99
   go_wp2_with fail
   refine AT.mono ?_
   rintro e w2 ⟨rfl,H2⟩
   have HB2:=Hd (HB0.out.below H2.out)
   clear AT H2 hwb x0 x1 x2 x3 x4
   obtain ⟨x0,x1,x2,x3,x4⟩:=HB2.out.cells
   obtain ⟨r0,r1,r2,r3,r4⟩:=HB2.out.res
   obtain ⟨o1,o2,o3,o4,-⟩:=HB2.out.out (.slice aA C.length cA) (.slice aL L.length cL)
   have HF:=Hd (HG.out _ HB2.out)
   clear HG
   go_wp2_with fail
   (try simp only [Exit.inBlock,Exit.then])
   refine bodyPost_ret (v:=.tuple #[.agg #[.slice aA C.length cA,.slice aL L.length cL],.int .i64 6]) ?_ rfl ⟨_,rfl,HF⟩
   rw [results_cell_tmp rfl]
   go_simp)
theorem Put_rc0 (v:Value) (C:List RCk) (L:List REn) (t:ByteArray) (w:World) (h:StR w v C L) (ht:t.size<1\/128<t.size) :
 Calls Tryz.prog 97 #[v,.string t] w fun e w'=>∃ v',e=.returned (.tuple #[v',.string ⟨#[]⟩,.bool false,.int .i64 1])/\Hid ((StR w' v' C L/\Below w.heap.size w w')/\∀ D,StLoc D v->StLoc (fun b=>D b\/w.heap.size<=b) v'):=by
 have HST:=Hd h
 obtain ⟨va,vl,rfl,h2,h3⟩:=h
 obtain ⟨aA,cA,rfl,-⟩:=h2.form
 obtain ⟨aL,cL,rfl,-⟩:=h3.form
 have B0:=BoxW.start w (.slice aA C.length cA) (.slice aL L.length cL)
 obtain ⟨wb,hwb⟩:=exE ((w.alloc (.cells #[.slice aA C.length cA,.slice aL L.length cL] 52)).alloc (.cells #[.slice none 0 0,.slice none 0 0] 52))
 rw [hwb] at B0
 obtain ⟨x0,x1,x2,x3,x4⟩:=B0.cells
 obtain ⟨r0,r1,r2,r3,r4⟩:=B0.res
 obtain ⟨o1,o2,o3,o4,o5⟩:=B0.out (.slice aA C.length cA) (.slice aL L.length cL)
 have HF:=Hd (And.intro (And.intro (HST.out.below o5) o5) (fun D (hD:StLoc D (.agg #[.slice aA C.length cA,.slice aL L.length cL]))=>hD.mono (D':=fun b=>D b\/w.heap.size<=b) fun b hb=>Or.inl hb))
 clear B0 h2 h3 o5
 rcases Nat.lt_or_ge t.size 1 with q1|q1
 ·have d0:decide ((t.size:Int)<1)=true:=decide_eq_true (by omega)
  clear ht q1
  go_enter Tryz.func97,Tryz.ntmps97
  go_wp2_with fail
  (try simp only [Exit.inBlock,Exit.then])
  refine bodyPost_ret (v:=.tuple #[.agg #[.slice aA C.length cA,.slice aL L.length cL],.string ⟨#[]⟩,.bool false,.int .i64 1]) ?_ rfl ⟨_,rfl,HF⟩
  rw [results_cell_tmp3 rfl]
  go_simp
 ·have d0:decide ((t.size:Int)<1)=false:=decide_eq_false (by omega)
  have d1:decide ((t.size:Int) > 128)=true:=decide_eq_true (by omega)
  clear ht q1
  go_enter Tryz.func97,Tryz.ntmps97
  go_wp2_with fail
  (try simp only [Exit.inBlock,Exit.then])
  refine bodyPost_ret (v:=.tuple #[.agg #[.slice aA C.length cA,.slice aL L.length cL],.string ⟨#[]⟩,.bool false,.int .i64 1]) ?_ rfl ⟨_,rfl,HF⟩
  rw [results_cell_tmp3 rfl]
  go_simp
theorem ckC_set:∀ (C:List RCk) (k:Nat) (hk:k<C.length) (q:Int),(ckC C).set (k*3+2) (.int .i64 q)=ckC (C.set k (C[k].1,C[k].2.1,q))
 | [],k,hk,x=>by simp at hk
 | p::R,0,hk,x=>rfl
 | p::R,k+1,hk,x=>by
   have ih:=ckC_set R k (by simpa using hk) x
   have e:∀ (q:RCk) (R:List RCk),ckC (q::R)=.string q.1::.string q.2.1::.int .i64 q.2.2::ckC R:=fun _ _=>rfl
   rw [e,show (k+1)*3+2=k*3+2+1+1+1 by omega,List.set_cons_succ,List.set_cons_succ,List.set_cons_succ,ih,List.set_cons_succ,e]
   rfl
theorem BoxW.setH {w W:World} {va vl:Value} (h:BoxW w va vl W) {x:Nat} (hx:w.heap.size+2<=x) (i:Nat) (u:Value):BoxW w va vl (W.setCell ⟨x,i,none⟩ u) :=
 ⟨(heap_set_ne _ (by omega)).trans h.b,(heap_set_ne _ (by omega)).trans h.r,h.bel.setCell (p:=⟨x,i,none⟩) (by show w.heap.size<=x;omega) _⟩
theorem Apply_rc0 (v:Value) (C:List RCk) (L:List REn) (id:ByteArray) (by_ er:Int) (w:World) (h:StR w v C L) (hC:C.length<=1000000) (h1:((by_≠1/\by_≠-1)/\er=1)\/((by_=1\/by_=-1)/\fndR C id=none/\er=6)) :
 Calls Tryz.prog 100 #[v,.string id,.int .i64 by_] w fun e w'=>∃ v',e=.returned (.tuple #[v',.int .i64 er])/\Hid ((StR w' v' C L/\Below w.heap.size w w')/\∀ D,StLoc D v->StLoc (fun b=>D b\/w.heap.size<=b) v'):=by
 have HST:=Hd h
 obtain ⟨va,vl,rfl,h2,h3⟩:=h
 obtain ⟨aA,cA,rfl,-⟩:=h2.form
 obtain ⟨aL,cL,rfl,-⟩:=h3.form
 have B0:=BoxW.start w (.slice aA C.length cA) (.slice aL L.length cL)
 obtain ⟨wb,hwb⟩:=exE ((w.alloc (.cells #[.slice aA C.length cA,.slice aL L.length cL] 52)).alloc (.cells #[.slice none 0 0,.slice none 0 0] 52))
 rw [hwb] at B0
 have HB0:=Hd B0
 have HG:Hid (∀ W,BoxW w (.slice aA C.length cA) (.slice aL L.length cL) W->(StR ((W.setCell ⟨w.heap.size+1,0,none⟩ (.slice aA C.length cA)).setCell ⟨w.heap.size+1,1,none⟩ (.slice aL L.length cL)) (.agg #[.slice aA C.length cA,.slice aL L.length cL]) C L/\Below w.heap.size w ((W.setCell ⟨w.heap.size+1,0,none⟩ (.slice aA C.length cA)).setCell ⟨w.heap.size+1,1,none⟩ (.slice aL L.length cL)))/\∀ D,StLoc D (.agg #[.slice aA C.length cA,.slice aL L.length cL])->StLoc (fun b=>D b\/w.heap.size<=b) (.agg #[.slice aA C.length cA,.slice aL L.length cL])):=Hd fun W hW=>by
  have o5:=(hW.out (.slice aA C.length cA) (.slice aL L.length cL)).2.2.2.2
  exact ⟨⟨HST.out.below o5,o5⟩,fun D hD=>hD.mono fun b hb=>Or.inl hb⟩
 rcases h1 with ⟨⟨n1,n2⟩,rfl⟩|⟨h1,hf,rfl⟩
 ·obtain ⟨x0,x1,x2,x3,x4⟩:=B0.cells
  obtain ⟨r0,r1,r2,r3,r4⟩:=B0.res
  obtain ⟨o1,o2,o3,o4,o5⟩:=B0.out (.slice aA C.length cA) (.slice aL L.length cL)
  have d1:(by_ != 1)=true:=by simpa using n1
  have d2:(by_ != -1)=true:=by simpa using n2
  have HF:=Hd (HG.out _ B0)
  clear B0 h2 h3 n1 n2 HG o5
  go_enter Tryz.func100,Tryz.ntmps100
  go_wp2_with fail
  (try simp only [Exit.inBlock,Exit.then])
  refine bodyPost_ret (v:=.tuple #[.agg #[.slice aA C.length cA,.slice aL L.length cL],.int .i64 1]) ?_ rfl ⟨_,rfl,HF⟩
  rw [results_cell_tmp rfl]
  go_simp
 ·have AT:=At_rc (.agg #[.slice aA C.length cA,.slice aL L.length cL]) C L id wb (HST.out.below B0.bel) hC
  rw [(ixR_none hf).1] at AT
  obtain ⟨x0,x1,x2,x3,x4⟩:=B0.cells
  clear B0 hf h2 h3
  rcases h1 with rfl|rfl
  all_goals (
   go_enter Tryz.func100,Tryz.ntmps100
   go_wp2_with fail
   refine AT.mono ?_
   rintro e w2 ⟨rfl,H2⟩
   have HB2:=Hd (HB0.out.below H2.out)
   clear AT H2 hwb x0 x1 x2 x3 x4
   obtain ⟨x0,x1,x2,x3,x4⟩:=HB2.out.cells
   obtain ⟨r0,r1,r2,r3,r4⟩:=HB2.out.res
   obtain ⟨o1,o2,o3,o4,-⟩:=HB2.out.out (.slice aA C.length cA) (.slice aL L.length cL)
   have HF:=Hd (HG.out _ HB2.out)
   clear HG
   go_wp2_with fail
   (try simp only [Exit.inBlock,Exit.then])
   refine bodyPost_ret (v:=.tuple #[.agg #[.slice aA C.length cA,.slice aL L.length cL],.int .i64 6]) ?_ rfl ⟨_,rfl,HF⟩
   rw [results_cell_tmp rfl]
   go_simp)
theorem Apply_rc1 (v:Value) (C:List RCk) (L:List REn) (id:ByteArray) (by_:Int) (w:World) (h:StR w v C L) (hC:C.length<=1000000) (h1:by_=1\/by_=-1) (c:RCk) (hf:fndR C id=some c) (hc:-1000000000<=c.2.2/\c.2.2<=1000000000) :
 Calls Tryz.prog 100 #[v,.string id,.int .i64 by_] w fun e w'=>∃ v',e=.returned (.tuple #[v',.int .i64 0])/\Hid ((StR w' v' (incR C id by_) L/\Below w.heap.size w w')/\∀ D,StLoc D v->StLoc (fun b=>D b\/w.heap.size<=b) v'):=by
 obtain ⟨jC,hjC,hC0,hC1,hC2⟩:=info_parts infoCk
 have HST:=Hd h
 obtain ⟨va,vl,rfl,h2,h3⟩:=h
 obtain ⟨aA,cA,rfl,-⟩:=h2.form
 obtain ⟨aL,cL,rfl,-⟩:=h3.form
 have B0:=BoxW.start w (.slice aA C.length cA) (.slice aL L.length cL)
 obtain ⟨wb,hwb⟩:=exE ((w.alloc (.cells #[.slice aA C.length cA,.slice aL L.length cL] 52)).alloc (.cells #[.slice none 0 0,.slice none 0 0] 52))
 rw [hwb] at B0
 have HB0:=Hd B0
 have AT:=At_rc (.agg #[.slice aA C.length cA,.slice aL L.length cL]) C L id wb (HST.out.below B0.bel) hC
 obtain ⟨i,hi,hci,hx,hno⟩:=ixR_some hf
 rw [hx] at AT
 have hid:C[i].1=id:=by rw [hci];have:=List.find?_some hf;simpa using this
 have HINC:Hid (∀ d,ckC (incR C id d)=(ckC C).set (i*3+2) (.int .i64 (c.2.2+d))/\(incR C id d).length=C.length):=Hd fun d=>by
  refine ⟨?_,incR_len C id d⟩
  rw [incR_set hi hid hno,ckC_set C i hi,hci]
 have hi0:((i:Int)<0)=False:=eq_false (by omega)
 have HCC:=Hd hC
 have HVL:=Hd h3
 have HVA:=Hd h2
 have HI:=Hd hi
 have HCK:Hid ((ckC C)[i*3+2]?=some (.int .i64 c.2.2)):=Hd (by rw [(ckC_get hi).2.2,hci])
 obtain ⟨x0,x1,x2,x3,x4⟩:=B0.cells
 clear B0 hx hf h2 h3 hno hid
 have HCB:=Hd hc
 clear hc
 generalize c.2.2=q at *
 have hil:i<C.length:=hi
 clear hi hci
 rcases h1 with rfl|rfl
 ·have kw:IntKind.i64.wrap (q+1)=q+1:=wrap_sgn (by have:=HCB.out;omega) (by have:=HCB.out;omega)
  go_enter Tryz.func100,Tryz.ntmps100
  go_wp2_with fail
  refine AT.mono ?_
  rintro e w2 ⟨rfl,H2⟩
  have HB2:=Hd (HB0.out.below H2.out)
  clear AT H2 hwb x0 x1 x2 x3 x4
  obtain ⟨x0,x1,x2,x3,x4⟩:=HB2.out.cells
  have HZ:Hid (w.heap.size+2<=w2.heap.size):=Hd (by have:=lt_of_heap HB2.out.r;omega)
  have HO1:Hid ((w2.alloc (.cells #[] 175)).ownsRow (w.heap.size+2) 175 3 (.slice (some ⟨w2.heap.size,0,none⟩) 0 0) 0 []):=Hd (World.ownsRow_lit w2 #[] 0 HZ.out (by decide) rfl)
  have HBa:=Hd (HB2.out.below ((Below.refl _ _).alloc (Nat.le_refl _) (.cells #[] 175)))
  have HY1:Hid (Yields (w2.alloc (.cells #[] 175)) (.slice aA C.length cA) C.length (ckC C)):=Hd ((HVA.out.below (HBa.out.bel)).yields)
  have L1:=Hd (show 0+C.length<=maxLen/\(0+C.length)*40<=140737488355328 from ⟨by have:=HCC.out;unfold maxLen;omega,by have:=HCC.out;omega⟩)
  have HZ1:Hid (w.heap.size+2<=(w2.alloc (.cells #[] 175)).heap.size):=Hd (by have:=HZ.out;simp;omega)
  go_wp2_with (
   (refine chkA 49 49 ⟨_,_,by with_reducible rfl⟩ ?_
    refine wpList_append_y (by rfl) _ _ _ rfl (w.heap.size+2) 175 jC _ 3 40 Tryz.underlying49 hjC hC0 hC1 hC2 rfl (by decide) _ _ _ (by rfl) HO1.out _ C.length (ckC C) (by rfl) HY1.out (ckC_len C) (ckC_one C) L1.out.1 L1.out.2 HZ1.out ?_
    intro v3 W3 ho3 hg3 ha3
    rw [Nat.zero_add] at ho3
    rw [List.nil_append] at ho3
    obtain ⟨g3,c3,rfl,k3⟩:=own_form ho3 (by omega)
    have cg3:=(ho3.cellAt (i*3+2) (by omega)).trans HCK.out
    have fg3:=ho3.frozenAt (i*3+2)
    have lg3:=(ho3.lt g3 rfl).2
    have hB3:=HBa.out.grown hg3 fun j e=>(HO1.out.lt j e).1
    have hB4:=hB3.setH k3 (i*3+2) (.int .i64 (q+1))
    have ho4:=(ho3.stored (i*3+2) (.int .i64 (q+1))).1
    have hB5:=hB4.set (.slice (some ⟨g3,0,none⟩) C.length c3)
    obtain ⟨y0,y1,y2,y3,y4⟩:=hB4.cells
    obtain ⟨z0,z1,z2,z3,z4⟩:=hB5.cells
    obtain ⟨r0,r1,r2,r3,r4⟩:=hB5.res
    obtain ⟨o1,o2,o3,o4,o5⟩:=hB5.out (.slice (some ⟨g3,0,none⟩) C.length c3) (.slice aL L.length cL)
    have HG:=Hd (And.intro (And.intro (StR.put5 (C:=incR C id 1) (HVL.out.below o5) (by rw [(HINC.out _).1,(HINC.out _).2];exact RdRow.own ho4) k3) o5) (fun D (hD:StLoc D (.agg #[.slice aA C.length cA,.slice aL L.length cL]))=>StLoc.newA (n:=(incR C id 1).length) (c5:=c3) hD (Nat.le_trans (Nat.le_add_right _ 2) k3)))
    rw [(HINC.out _).2] at HG
    clear ho3 hg3 ha3 hB3 hB4 hB5 ho4 o5 k3))
  (try simp only [Exit.inBlock,Exit.then])
  refine bodyPost_ret (v:=.tuple #[.agg #[.slice (some ⟨g3,0,none⟩) C.length c3,.slice aL L.length cL],.int .i64 0]) ?_ rfl ⟨_,rfl,HG⟩
  rw [results_cell_tmp rfl]
  go_simp
 ·have kw:IntKind.i64.wrap (q+-1)=q+-1:=wrap_sgn (by have:=HCB.out;omega) (by have:=HCB.out;omega)
  go_enter Tryz.func100,Tryz.ntmps100
  go_wp2_with fail
  refine AT.mono ?_
  rintro e w2 ⟨rfl,H2⟩
  have HB2:=Hd (HB0.out.below H2.out)
  clear AT H2 hwb x0 x1 x2 x3 x4
  obtain ⟨x0,x1,x2,x3,x4⟩:=HB2.out.cells
  have HZ:Hid (w.heap.size+2<=w2.heap.size):=Hd (by have:=lt_of_heap HB2.out.r;omega)
  have HO1:Hid ((w2.alloc (.cells #[] 175)).ownsRow (w.heap.size+2) 175 3 (.slice (some ⟨w2.heap.size,0,none⟩) 0 0) 0 []):=Hd (World.ownsRow_lit w2 #[] 0 HZ.out (by decide) rfl)
  have HBa:=Hd (HB2.out.below ((Below.refl _ _).alloc (Nat.le_refl _) (.cells #[] 175)))
  have HY1:Hid (Yields (w2.alloc (.cells #[] 175)) (.slice aA C.length cA) C.length (ckC C)):=Hd ((HVA.out.below (HBa.out.bel)).yields)
  have L1:=Hd (show 0+C.length<=maxLen/\(0+C.length)*40<=140737488355328 from ⟨by have:=HCC.out;unfold maxLen;omega,by have:=HCC.out;omega⟩)
  have HZ1:Hid (w.heap.size+2<=(w2.alloc (.cells #[] 175)).heap.size):=Hd (by have:=HZ.out;simp;omega)
  go_wp2_with (
   (refine chkA 49 49 ⟨_,_,by with_reducible rfl⟩ ?_
    refine wpList_append_y (by rfl) _ _ _ rfl (w.heap.size+2) 175 jC _ 3 40 Tryz.underlying49 hjC hC0 hC1 hC2 rfl (by decide) _ _ _ (by rfl) HO1.out _ C.length (ckC C) (by rfl) HY1.out (ckC_len C) (ckC_one C) L1.out.1 L1.out.2 HZ1.out ?_
    intro v3 W3 ho3 hg3 ha3
    rw [Nat.zero_add] at ho3
    rw [List.nil_append] at ho3
    obtain ⟨g3,c3,rfl,k3⟩:=own_form ho3 (by omega)
    have cg3:=(ho3.cellAt (i*3+2) (by omega)).trans HCK.out
    have fg3:=ho3.frozenAt (i*3+2)
    have lg3:=(ho3.lt g3 rfl).2
    have hB3:=HBa.out.grown hg3 fun j e=>(HO1.out.lt j e).1
    have hB4:=hB3.setH k3 (i*3+2) (.int .i64 (q+-1))
    have ho4:=(ho3.stored (i*3+2) (.int .i64 (q+-1))).1
    have hB5:=hB4.set (.slice (some ⟨g3,0,none⟩) C.length c3)
    obtain ⟨y0,y1,y2,y3,y4⟩:=hB4.cells
    obtain ⟨z0,z1,z2,z3,z4⟩:=hB5.cells
    obtain ⟨r0,r1,r2,r3,r4⟩:=hB5.res
    obtain ⟨o1,o2,o3,o4,o5⟩:=hB5.out (.slice (some ⟨g3,0,none⟩) C.length c3) (.slice aL L.length cL)
    have HG:=Hd (And.intro (And.intro (StR.put5 (C:=incR C id (-1)) (HVL.out.below o5) (by rw [(HINC.out _).1,(HINC.out _).2];exact RdRow.own ho4) k3) o5) (fun D (hD:StLoc D (.agg #[.slice aA C.length cA,.slice aL L.length cL]))=>StLoc.newA (n:=(incR C id (-1)).length) (c5:=c3) hD (Nat.le_trans (Nat.le_add_right _ 2) k3)))
    rw [(HINC.out _).2] at HG
    clear ho3 hg3 ha3 hB3 hB4 hB5 ho4 o5 k3))
  (try simp only [Exit.inBlock,Exit.then])
  refine bodyPost_ret (v:=.tuple #[.agg #[.slice (some ⟨g3,0,none⟩) C.length c3,.slice aL L.length cL],.int .i64 0]) ?_ rfl ⟨_,rfl,HG⟩
  rw [results_cell_tmp rfl]
  go_simp
theorem incR_mem {C:List RCk} {id:ByteArray} {d:Int} {c:RCk} (h:c∈incR C id d):c∈C\/∃ c0∈C,c=(c0.1,c0.2.1,c0.2.2+d):=by
 induction C with
 | nil=>cases h
 | cons a r ih =>
   simp only [incR] at h
   split at h
   ·rcases List.mem_cons.1 h with rfl|h
    ·exact .inr ⟨a,by simp,rfl⟩
    ·exact .inl (by simp [h])
   ·rcases List.mem_cons.1 h with rfl|h
    ·exact .inl (by simp)
    ·rcases ih h with h|⟨c0,h,e⟩
     ·exact .inl (by simp [h])
     ·exact .inr ⟨c0,by simp [h],e⟩
theorem mergeR_bound:∀ (T:List REn) {C:List RCk} {b:Int},(∀ c∈C,-b<=c.2.2/\c.2.2<=b)->(∀ e∈T,-1<=e.2/\e.2<=1)->∀ c∈mergeR C T,-(b+T.length)<=c.2.2/\c.2.2<=b+T.length
 | [],C,b,h,_=>by simpa [mergeR] using h
 | e::T,C,b,h,ht=>by
   have he:=ht e (by simp)
   have h2:∀ c∈incR C e.1 e.2,-(b+1)<=c.2.2/\c.2.2<=b+1:=fun c hc=>by
    rcases incR_mem hc with hc|⟨c0,hc0,rfl⟩
    ·have:=h c hc;omega
    ·have:=h c0 hc0;simp only;omega
   have:=mergeR_bound T h2 fun e he=>ht e (by simp [he])
   intro c hc
   have:=this c hc
   simp only [List.length_cons];push_cast
   omega
theorem enC_drop (L:List REn) (n:Nat):enC (L.drop n)=(enC L).drop (n*2):=by
 induction n generalizing L with
 | zero=>simp
 | succ n ih =>
   cases L with
   | nil=>simp [enC]
   | cons e L =>
     have e1:enC (e::L)=.string e.1::.int .i64 e.2::enC L:=rfl
     rw [List.drop_succ_cons,ih,e1,show (n+1)*2=n*2+1+1 by omega,List.drop_succ_cons,List.drop_succ_cons]
theorem step_sliceL {P:Program} {w:World} {ops:Array Oper} {o:Oper} {a:Act} {K:Act->World->Prop} {Q:Exit->Act->World->Prop} {E:Prop} (hgd:o.guard=none) (t:TypeId) (x lo:Operand)
 (ho:o.op=.slice t x (some lo) none none) (u k v:Value) (hr:∀ w,(Instr.sliceAt t u (some k) none none).run P w=.ok v w) (hu:a.eval x=u) (hk:a.eval lo=k) (h:K (a.put o.dst v) w) :
 if Region.wanted o (yielded ops a.tmps)=true then Oper.wp P o a w K Q else E:=by
 have hw:Region.wanted o (yielded ops a.tmps)=true:=by simp [Region.wanted,hgd]
 rw [if_pos hw]
 unfold Oper.wp execOp
 simp only [ho,hu,hk,Option.map_some,Option.map_none,Sem.run_bind,hr,Result.andThen_ok]
 exact h
theorem wpList_sliceL {P:Program} {w:World} {ops:Array Oper} {rest:List Oper} {o:Oper} {a:Act} {Q:Exit->Act->World->Prop} (hgd:o.guard=none) (t:TypeId) (x lo:Operand)
 (ho:o.op=.slice t x (some lo) none none) (u k v:Value) (hr:∀ w,(Instr.sliceAt t u (some k) none none).run P w=.ok v w) (hu:a.eval x=u) (hk:a.eval lo=k) (h:wpList P ops Q rest (a.put o.dst v) w):wpList P ops Q (o::rest) a w :=
 wpList_step fun K hK=>step_sliceL hgd t x lo ho u k v hr hu hk (hK _ _ h)
theorem RdRow.tail {W:World} {aL:Option Addr} {cL n:Nat} {L:List REn} (h:RdRow W (.slice aL L.length cL) L.length 2 (enC L)) (hn:n<=L.length) :
 ∃ aM,(∀ w,(Instr.sliceAt 50 (.slice aL L.length cL) (some (.int .i64 (n:Int))) none none).run Tryz.prog w=.ok (.slice aM (L.length-n) (cL-n)) w)/\Yields W (.slice aM (L.length-n) (cL-n)) (L.length-n) (enC (L.drop n)):=by
 obtain ⟨a',c',e,hl,hc,h0,h1⟩:=h
 cases e
 refine ⟨if cL=n then aL else aL.map (·.add (n*2)),fun w=>?_,_,_,rfl,fun e=>?_,fun ad e j u hu=>?_⟩
 ·rw [run_sliceAt_slice w _ _ _ _ _ Tryz.underlying50,run_slice_l w _ _ _ _ Tryz.underlying50 .i64 (n:Int) (by omega) (by omega)]
  rfl
 ·split at e
  ·omega
  ·cases aL with
   | none=>have:=h0 rfl;omega
   | some a=>cases e
 ·rw [enC_drop,List.getElem?_drop] at hu
  split at e
  ·have:(enC L).length<=n*2+j:=by rw [hl];omega
   rw [List.getElem?_eq_none this] at hu;cases hu
  ·cases aL with
   | none=>cases e
   | some a =>
     obtain ⟨b,off,rfl,h2,h3⟩:=h1 a rfl
     simp only [Option.map_some,Option.some.injEq] at e
     subst e
     rw [addr_addO,addr_addO,Nat.add_assoc]
     exact h3 _ _ hu
structure MgW (w:World) (va vl:Value) (C:List RCk) (L:List REn) (v3:Value) (i:Nat) (wr:World):Prop where
 box:BoxW w va vl wr
 row:wr.ownsRow (w.heap.size+2) 175 3 v3 C.length (ckC (mergeR C (L.take i)))
theorem MgW.below {w wr W:World} {va vl v3:Value} {C:List RCk} {L:List REn} {i:Nat} (h:MgW w va vl C L v3 i wr) (hb:Below wr.heap.size wr W):MgW w va vl C L v3 i W :=
 ⟨h.box.below hb,own_same h.row fun j e=>hb.block j (h.row.lt j e).2⟩
theorem MgW.fin {w W:World} {v3 v7:Value} {D:List RCk} {E:List REn} {n3 n7:Nat} {aA aL:Option Addr} {nA cA nL cL:Nat} (h3:D.length=n3) (h7:E.length=n7) (o3:W.ownsRow (w.heap.size+2) 175 3 v3 n3 (ckC D)) (o7:W.ownsRow (w.heap.size+2) 188 2 v7 n7 (enC E))
 (hb:Below w.heap.size w ((W.setCell ⟨w.heap.size+1,0,none⟩ v3).setCell ⟨w.heap.size+1,1,none⟩ v7)) :
 (StR ((W.setCell ⟨w.heap.size+1,0,none⟩ v3).setCell ⟨w.heap.size+1,1,none⟩ v7) (.agg #[v3,v7]) D E/\Below w.heap.size w ((W.setCell ⟨w.heap.size+1,0,none⟩ v3).setCell ⟨w.heap.size+1,1,none⟩ v7))/\∀ P,StLoc P (.agg #[.slice aA nA cA,.slice aL nL cL])->StLoc (fun b=>P b\/w.heap.size<=b) (.agg #[v3,v7]):=by
 subst h3 h7
 have l3:=fun j e=>(o3.lt j e).1
 have l7:=fun j e=>(o7.lt j e).1
 have hx:¬(w.heap.size+2<=w.heap.size+1):=by omega
 refine ⟨⟨⟨v3,v7,rfl,((RdRow.own o3).setLoc (D:=fun b=>w.heap.size+2<=b) l3 hx v3).setLoc (D:=fun b=>w.heap.size+2<=b) l3 hx v7,((RdRow.own o7).setLoc (D:=fun b=>w.heap.size+2<=b) l7 hx v3).setLoc (D:=fun b=>w.heap.size+2<=b) l7 hx v7⟩,hb⟩,fun P _=>⟨v3,v7,rfl,fun g e=>.inr (by have:=l3 g e;omega),fun g e=>.inr (by have:=l7 g e;omega)⟩⟩
theorem Merge_rc (v:Value) (C:List RCk) (L:List REn) (lim:Int) (n:Nat) (w:World) (h:StR w v C L) (hC:C.length<=100000) (hL:L.length<=100000) (hn:min (max lim 0) (L.length:Int)=(n:Int)) (hc:∀ c∈C,-1000000<=c.2.2/\c.2.2<=1000000) (hby:∀ e∈L,-1<=e.2/\e.2<=1) :
 Calls Tryz.prog 49 #[v,.int .i64 lim] w fun e w'=>∃ v',e=.returned (.tuple #[v',.int .i64 (n:Int)])/\Hid ((StR w' v' (mergeR C (L.take n)) (L.drop n)/\Below w.heap.size w w')/\∀ D,StLoc D v->StLoc (fun b=>D b\/w.heap.size<=b) v'):=by
 obtain ⟨jC,hjC,hC0,hC1,hC2⟩:=info_parts infoCk
 obtain ⟨jE,hjE,hE0,hE1,hE2⟩:=info_parts infoEn
 have HST:=Hd h
 obtain ⟨va,vl,rfl,h2,h3⟩:=h
 obtain ⟨aA,cA,rfl,-⟩:=h2.form
 obtain ⟨aL,cL,rfl,-⟩:=h3.form
 have B0:=BoxW.start w (.slice aA C.length cA) (.slice aL L.length cL)
 obtain ⟨wb,hwb⟩:=exE ((w.alloc (.cells #[.slice aA C.length cA,.slice aL L.length cL] 52)).alloc (.cells #[.slice none 0 0,.slice none 0 0] 52))
 rw [hwb] at B0
 have HVL:=Hd h3
 have HVA:=Hd h2
 have HCC:=Hd hC
 have HLL:=Hd hL
 have HCB:=Hd hc
 have HBY:=Hd hby
 have hnl:n<=L.length:=by omega
 have HNL:=Hd hnl
 obtain ⟨x0,x1,x2,x3,x4⟩:=B0.cells
 have HB2:=Hd B0
 have HO1:Hid ((wb.alloc (.cells #[] 175)).ownsRow (w.heap.size+2) 175 3 (.slice (some ⟨wb.heap.size,0,none⟩) 0 0) 0 []):=Hd (World.ownsRow_lit wb #[] 0 (by have:=lt_of_heap B0.r;omega) (by decide) rfl)
 have HBa:=Hd (B0.below ((Below.refl _ _).alloc (Nat.le_refl _) (.cells #[] 175)))
 have HY1:Hid (Yields (wb.alloc (.cells #[] 175)) (.slice aA C.length cA) C.length (ckC C)):=Hd ((HVA.out.below (HBa.out.bel)).yields)
 have L1:=Hd (show 0+C.length<=maxLen/\(0+C.length)*40<=140737488355328 from ⟨by have:=HCC.out;unfold maxLen;omega,by have:=HCC.out;omega⟩)
 have HZ1:Hid (w.heap.size+2<=(wb.alloc (.cells #[] 175)).heap.size):=Hd (by have:=lt_of_heap B0.r;simp;omega)
 clear B0 h2 h3 hC hL hc hby hnl
 go_enter Tryz.func49,Tryz.ntmps49
 go_wp2_with (
  (refine chkA 49 49 ⟨_,_,by with_reducible rfl⟩ ?_
   refine wpList_append_y (by rfl) _ _ _ rfl (w.heap.size+2) 175 jC _ 3 40 Tryz.underlying49 hjC hC0 hC1 hC2 rfl (by decide) _ _ _ (by rfl) HO1.out _ C.length (ckC C) (by rfl) HY1.out (ckC_len C) (ckC_one C) L1.out.1 L1.out.2 HZ1.out ?_
   intro v3 W3 ho3 hg3 ha3
   rw [Nat.zero_add] at ho3
   rw [List.nil_append] at ho3
   obtain ⟨a3,c3,rfl⟩:∃ a c,v3=.slice a C.length c:=by
    rcases ho3.2 with ⟨e,h0⟩|⟨g,cap,cur,e,-⟩
    ·exact ⟨_,_,by rw [e,h0]⟩
    ·exact ⟨_,_,e⟩
   have R0:Hid (MgW w (.slice aA C.length cA) (.slice aL L.length cL) C L (.slice a3 C.length c3) 0 W3):=Hd ⟨HBa.out.grown hg3 fun j e=>(HO1.out.lt j e).1,ho3⟩
   clear ho3 hg3 ha3 HO1 HBa HY1 HZ1 L1))
 clear hwb x0 x1 x2 x3 x4
 go_loopg [8] n (fun g s8 wr=>∃ (i:Nat),g=n-i/\i<=n/\s8=.int .i64 (i:Int)/\Hid (MgW w (.slice aA C.length cA) (.slice aL L.length cL) C L (.slice a3 C.length c3) i wr))
 case atStart=>exact ⟨0,rfl,Nat.zero_le _,rfl,R0⟩
 case round =>
  obtain ⟨i,rfl,hi,rfl,HI⟩:=hrel
  clear R0
  by_cases hlt:i<n
  ·have hil:i<L.length:=by have:=HNL.out;omega
   obtain ⟨c1,c2⟩:=enC_get hil
   obtain ⟨b,off,rfl,hb,hcell⟩:=HVL.out.get c1
   have q1:=hcell _ _ c1
   have q2:w.cell? ⟨b,off+i*2+1,none⟩=some (.int .i64 L[i].2):=hcell _ _ c2
   have hby:=HBY.out _ (List.getElem_mem hil)
   have hll:=HLL.out
   have hMs:mergeR C (L.take (i+1))=incR (mergeR C (L.take i)) L[i].1 L[i].2:=by
    rw [List.take_succ_eq_append_getElem hil];exact mergeR_snoc C (L.take i) L[i]
   have hbd:=mergeR_bound (L.take i) HCB.out (fun e he=>HBY.out e (List.mem_of_mem_take he))
   have hnm:=ixR_names (mergeR_names C (L.take i)) L[i].1
   have hDl:=mergeR_len C (L.take i)
   have htl:((L.take i).length:Int)<=100000:=by rw [List.length_take];omega
   have HMS:=Hd hMs
   have HLT:=Hd hlt
   have hn5:n<=100000:=by have:=HNL.out;omega
   have CEL:Hid (∀ W,BoxW w (.slice aA C.length cA) (.slice (some ⟨b,off,none⟩) L.length cL) W->W.cell? ⟨w.heap.size,0,none⟩=some (.slice aA C.length cA)/\W.cell? ⟨w.heap.size,1,none⟩=some (.slice (some ⟨b,off,none⟩) L.length cL)/\W.cell? ⟨b,off+i*2,none⟩=some (.string L[i].1)/\W.cell? ⟨b,off+i*2+1,none⟩=some (.int .i64 L[i].2)):=Hd fun W hW=>⟨hW.cells.1,hW.cells.2.1,(hW.bel.cell (p:=⟨b,off+i*2,none⟩) hb).trans q1,(hW.bel.cell (p:=⟨b,off+i*2+1,none⟩) hb).trans q2⟩
   have HD:Hid (∃ D,mergeR C (L.take i)=D):=Hd ⟨_,rfl⟩
   obtain ⟨D,hD⟩:=HD.out
   have HI2:Hid (BoxW w (.slice aA C.length cA) (.slice (some ⟨b,off,none⟩) L.length cL) wr/\wr.ownsRow (w.heap.size+2) 175 3 (.slice a3 C.length c3) C.length (ckC D)):=Hd ⟨HI.out.box,by rw [<-hD];exact HI.out.row⟩
   have HNX:Hid (∀ W,BoxW w (.slice aA C.length cA) (.slice (some ⟨b,off,none⟩) L.length cL) W->W.ownsRow (w.heap.size+2) 175 3 (.slice a3 C.length c3) C.length (ckC (incR D L[i].1 L[i].2))->MgW w (.slice aA C.length cA) (.slice (some ⟨b,off,none⟩) L.length cL) C L (.slice a3 C.length c3) (i+1) W):=Hd fun W h1 h2=>⟨h1,by rw [hMs,hD];exact h2⟩
   rw [hD] at hbd hnm hDl
   clear hD HD hMs c1 c2 q1 q2 hcell hb HI HMS
   generalize L[i]=en at *
   obtain ⟨id,y⟩:=en
   simp only at hby hnm CEL HNX
   have AT:Hid (∀ W,Below wr.heap.size wr W->Calls Tryz.prog 102 #[.agg #[.slice aA C.length cA,.slice (some ⟨b,off,none⟩) L.length cL],.string id] W fun e w'=>e=.returned (.int .i64 (ixR D id))/\(w'.cell? ⟨w.heap.size,0,none⟩=some (.slice aA C.length cA)/\w'.cell? ⟨w.heap.size,1,none⟩=some (.slice (some ⟨b,off,none⟩) L.length cL)/\w'.cell? ⟨b,off+i*2,none⟩=some (.string id)/\w'.cell? ⟨b,off+i*2+1,none⟩=some (.int .i64 y))/\Hid (Below wr.heap.size wr w')):=Hd fun W hW=>by
    refine (At_rc (.agg #[.slice aA C.length cA,.slice (some ⟨b,off,none⟩) L.length cL]) C L id W (HST.out.below (HI2.out.1.below hW).bel) (by have:=HCC.out;omega)).mono ?_
    rintro e w' ⟨rfl,hb⟩
    have hbw:=hW.trans (hb.out.mono hW.size)
    rw [hnm]
    exact ⟨rfl,CEL.out w' (HI2.out.1.below hbw),Hd hbw⟩
   have A0:=AT.out _ (Below.refl wr.heap.size wr).drew
   obtain ⟨d0,d1,d2,d3⟩:=CEL.out _ HI2.out.1
   clear AT hnm
   cases hf:fndR D id with
   | none =>
     obtain ⟨hx,hno⟩:=ixR_none hf
     rw [hx] at A0
     have HN:Hid (∀ W,Below wr.heap.size wr W->MgW w (.slice aA C.length cA) (.slice (some ⟨b,off,none⟩) L.length cL) C L (.slice a3 C.length c3) (i+1) W):=Hd fun W hW=>HNX.out W (HI2.out.1.below hW) (by rw [incR_no hno];exact own_same HI2.out.2 fun j e=>hW.block j (HI2.out.2.lt j e).2)
     clear hx hno hf HNX HI2 hbd hDl htl hby
     go_wp2_with fail
     go_region_held3 (fun w'=>w'.cell? ⟨w.heap.size,0,none⟩=some (.slice aA C.length cA)/\w'.cell? ⟨w.heap.size,1,none⟩=some (.slice (some ⟨b,off,none⟩) L.length cL)/\w'.cell? ⟨b,off+i*2,none⟩=some (.string id)/\w'.cell? ⟨b,off+i*2+1,none⟩=some (.int .i64 y)) (go_keep) ((first
      | (go_at_call 102
         refine Calls.at_args A0 (by with_reducible rfl) ?_
         rintro e w4 ⟨rfl,hk4,HB4⟩)))
     all_goals (
      have HG:=Hd (HN.out _ HB4.out)
      go_wp2_with fail
      go_roundg (n-(i+1))
      case measure=>omega
      case rel=>exact ⟨i+1,rfl,HLT.out,by congr 1,HG⟩)
   | some c =>
     obtain ⟨kk,hkk,hck,hx,hno⟩:=ixR_some hf
     rw [hx] at A0
     have hid:D[kk].1=id:=by rw [hck];have:=List.find?_some hf;simpa using this
     have hkC:kk<C.length:=by omega
     have hq:=hbd c (by rw [<-hck];exact List.getElem_mem hkk)
     obtain ⟨g3,c3',hv,k3⟩:=own_form HI2.out.2 (by omega)
     cases hv
     have hgc:=(HI2.out.2.cellAt (kk*3+2) (by omega)).trans (ckC_get hkk).2.2
     rw [hck] at hgc
     have hgf:=HI2.out.2.frozenAt (kk*3+2)
     have hgl:=(HI2.out.2.lt g3 rfl).2
     have hset:(ckC D).set (kk*3+2) (.int .i64 (c.2.2+y))=ckC (incR D id y):=by rw [incR_set hkk hid hno,ckC_set D kk hkk,hck]
     have HN:Hid (∀ W,Below wr.heap.size wr W->MgW w (.slice aA C.length cA) (.slice (some ⟨b,off,none⟩) L.length cL) C L (.slice (some ⟨g3,0,none⟩) C.length c3) (i+1) (W.setCell ⟨g3,kk*3+2,none⟩ (.int .i64 (c.2.2+y)))):=Hd fun W hW=>by
      refine HNX.out _ ((HI2.out.1.below hW).setH k3 _ _) ?_
      have h1:=((own_same HI2.out.2 fun j e=>hW.block j (HI2.out.2.lt j e).2).stored (kk*3+2) (.int .i64 (c.2.2+y))).1
      rwa [hset] at h1
     have HGC:Hid (∀ W,Below wr.heap.size wr W->W.cell? ⟨g3,kk*3+2,none⟩=some (.int .i64 c.2.2)/\W.frozen? ⟨g3,kk*3+2,none⟩=false):=Hd fun W hW=>by
      have h1:=own_same HI2.out.2 fun j e=>hW.block j (HI2.out.2.lt j e).2
      exact ⟨(hW.cell (p:=⟨g3,kk*3+2,none⟩) hgl).trans hgc,h1.frozenAt (kk*3+2)⟩
     have hk0:decide ((kk:Int) >= 0)=true:=decide_eq_true (by omega)
     have kw:wrap64 (c.2.2+y)=c.2.2+y:=by unfold wrap64;omega
     have kw2:IntKind.i64.wrap (c.2.2+y)=c.2.2+y:=wrap_sgn (by omega) (by omega)
     have hCL:=HCC.out
     clear hx hno hf HNX hbd hDl htl hid hck hset hgc hgf hq hkk k3 hby
     generalize c.2.2=q at *
     go_wp2_with fail
     go_region_held3 (fun w'=>w'.cell? ⟨w.heap.size,0,none⟩=some (.slice aA C.length cA)/\w'.cell? ⟨w.heap.size,1,none⟩=some (.slice (some ⟨b,off,none⟩) L.length cL)/\w'.cell? ⟨b,off+i*2,none⟩=some (.string id)/\w'.cell? ⟨b,off+i*2+1,none⟩=some (.int .i64 y)) (go_keep) ((first
      | (go_at_call 102
         refine Calls.at_args A0 (by with_reducible rfl) ?_
         rintro e w4 ⟨rfl,hk4,HB4⟩)))
     all_goals (
      have HG:=Hd (HN.out _ HB4.out)
      obtain ⟨y0,y1⟩:=HGC.out _ HB4.out
      obtain ⟨z0,z1,z2,z3⟩:=hk4
      go_wp2_with fail
      go_region
      have HG2:=Hd (HG.out.below (Below.refl _ _).drew)
      go_wp2_with fail
      go_roundg (n-(i+1))
      case measure=>omega
      case rel=>exact ⟨i+1,rfl,HLT.out,by congr 1,HG2⟩)
  ·obtain rfl:i=n:=by omega
   have HBa:=Hd (HI.out.below ((Below.refl _ _).alloc (Nat.le_refl _) (.cells #[] 188)))
   obtain ⟨aM,hsl,hyl⟩:=(HVL.out.below HBa.out.box.bel).tail HNL.out
   have HYL:=Hd hyl
   have hz:w.heap.size+2<=wr.heap.size:=by have:=lt_of_heap HI.out.box.r;omega
   have HO1:Hid ((wr.alloc (.cells #[] 188)).ownsRow (w.heap.size+2) 188 2 (.slice (some ⟨wr.heap.size,0,none⟩) 0 0) 0 []):=Hd (World.ownsRow_lit wr #[] 0 hz (by decide) rfl)
   have L1:=Hd (show 0+(L.length-i)<=maxLen/\(0+(L.length-i))*24<=140737488355328 from ⟨by have:=HLL.out;unfold maxLen;omega,by have:=HLL.out;omega⟩)
   have HZ1:Hid (w.heap.size+2<=(wr.alloc (.cells #[] 188)).heap.size):=Hd (by simp;omega)
   have HLD:Hid ((enC (L.drop i)).length=(L.length-i)*2):=Hd (by rw [enC_len,List.length_drop])
   have HRW:Hid (∀ j,(Value.slice a3 C.length c3).ownBlock=some j->j<wr.heap.size/\w.heap.size+2<=j):=Hd fun j e=>⟨(HI.out.row.lt j e).2,(HI.out.row.lt j e).1⟩
   obtain ⟨x0,x1,x2,x3,x4⟩:=HI.out.box.cells
   clear hyl hz HI hlt hi
   go_wp2_with (first
    | (refine wpList_sliceL (by rfl) _ _ _ rfl (.slice aL L.length cL) (.int .i64 (i:Int)) (.slice aM (L.length-i) (cL-i)) hsl (by rfl) (by rfl) ?_)
    | (refine chkA 50 50 ⟨_,_,by with_reducible rfl⟩ ?_
       refine wpList_append_y (by rfl) _ _ _ rfl (w.heap.size+2) 188 jE _ 2 24 Tryz.underlying50 hjE hE0 hE1 hE2 rfl (by decide) _ _ _ (by rfl) HO1.out _ (L.length-i) (enC (L.drop i)) (by rfl) HYL.out HLD.out (enC_one _) L1.out.1 L1.out.2 HZ1.out ?_
       intro v7 W7 ho7 hg7 ha7
       rw [Nat.zero_add] at ho7
       rw [List.nil_append] at ho7
       obtain ⟨a7,c7,rfl⟩:∃ a c,v7=.slice a (L.length-i) c:=by
        rcases ho7.2 with ⟨e,h0⟩|⟨g,cap,cur,e,-⟩
        ·exact ⟨_,_,by rw [e,h0]⟩
        ·exact ⟨_,_,e⟩
       have hB7:=HBa.out.box.grown hg7 fun j e=>(HO1.out.lt j e).1
       have hR7:=own_same HBa.out.row fun j e=>hg7.block j (by have:=(HRW.out j e).1;simp;omega) (by have:=(HRW.out j e).1;intro e2;have e3:j=wr.heap.size:=Option.some.inj e2;omega)
       obtain ⟨r0,r1,r2,r3,r4⟩:=hB7.res
       obtain ⟨o1,o2,o3,o4,o5⟩:=hB7.out (.slice a3 C.length c3) (.slice a7 (L.length-i) c7)
       have HG:=Hd (MgW.fin (D:=mergeR C (L.take i)) (E:=L.drop i) (aA:=aA) (cA:=cA) (nA:=C.length) (aL:=aL) (cL:=cL) (nL:=L.length) (mergeR_len C _) (by rw [List.length_drop]) hR7 ho7 o5)
       clear ho7 hg7 ha7 hB7 hR7 o5))
   (try simp only [Exit.inBlock,Exit.then])
   refine bodyPost_ret (v:=.tuple #[.agg #[.slice a3 C.length c3,.slice a7 (L.length-i) c7],.int .i64 (i:Int)]) ?_ rfl ⟨_,rfl,HG⟩
   rw [results_cell_tmp rfl]
   go_simp
set_option maxHeartbeats 8000000
structure RcW (w:World) (va vl:Value) (D:List RCk) (v6:Value) (wr:World):Prop where
 box:BoxW w va vl wr
 row:wr.ownsRow (w.heap.size+2) 175 3 v6 D.length (ckC D)
theorem RcW.below {w wr W:World} {va vl v6:Value} {D:List RCk} (h:RcW w va vl D v6 wr) (hb:Below wr.heap.size wr W):RcW w va vl D v6 W :=
 ⟨h.box.below hb,own_same h.row fun j e=>hb.block j (h.row.lt j e).2⟩
theorem RcW.snoc {w wr W5:World} {va vl v v5:Value} {D:List RCk} {c:RCk} (h:RcW w va vl D v wr) (o:Obj) (hg:(wr.alloc o).grownBy W5 v.ownBlock) (h5:W5.ownsRow (w.heap.size+2) 175 3 v5 (D.length+1) (ckC D++[.string c.1,.string c.2.1,.int .i64 c.2.2])):RcW w va vl (D++[c]) v5 W5:=by
 have hb:=h.box.below ((Below.refl _ _).alloc (Nat.le_refl _) o)
 exact ⟨hb.grown hg fun j e=>(h.row.lt j e).1,by rw [List.length_append,List.length_singleton,ckC_snoc];exact h5⟩
theorem Reclaim_rc (v:Value) (C:List RCk) (L:List REn) (lim:Int) (w:World) (h:StR w v C L) (hC:C.length<=100000) (hL:L.length<=100000) (hby:∀ e∈L,-1<=e.2/\e.2<=1) (hlim:-9223372036854775808<=lim/\lim<9223372036854775808) :
 Calls Tryz.prog 50 #[v,.int .i64 lim] w fun e w'=>∃ v',e=.returned (.tuple #[v',.int .i64 ((reclR L lim 0 C).2:Int)])/\Hid ((StR w' v' (reclR L lim 0 C).1 L/\Below w.heap.size w w')/\∀ D,StLoc D v->StLoc (fun b=>D b\/w.heap.size<=b) v'):=by
 obtain ⟨jC,hjC,hC0,hC1,hC2⟩:=info_parts infoCk
 have HST:=Hd h
 obtain ⟨va,vl,rfl,h2,h3⟩:=h
 obtain ⟨aA,cA,rfl,-⟩:=h2.form
 obtain ⟨aL,cL,rfl,-⟩:=h3.form
 have B0:=BoxW.start w (.slice aA C.length cA) (.slice aL L.length cL)
 obtain ⟨wb,hwb⟩:=exE ((w.alloc (.cells #[.slice aA C.length cA,.slice aL L.length cL] 52)).alloc (.cells #[.slice none 0 0,.slice none 0 0] 52))
 rw [hwb] at B0
 have HVL:=Hd h3
 have HVA:=Hd h2
 have HCC:=Hd hC
 have HLM:=Hd hlim
 have HRC:Hid (∀ k (hk:k<C.length),reclR L lim 0 (C.take (k+1))=rstep L lim C[k] (reclR L lim 0 (C.take k))):=Hd fun k hk=>by rw [List.take_succ_eq_append_getElem hk,reclR_snoc]
 have HLE:Hid (∀ k,(reclR L lim 0 (C.take k)).1.length+(reclR L lim 0 (C.take k)).2<=C.length):=Hd fun k=>by
  rw [reclR_len,List.length_take];omega
 have PD:Hid (∀ id W,BoxW w (.slice aA C.length cA) (.slice aL L.length cL) W->Calls Tryz.prog 101 #[.agg #[.slice aA C.length cA,.slice aL L.length cL],.string id] W fun e w'=>e=.returned (.tuple #[.int .i64 (pendR L id).1,.int .i64 ((pendR L id).2:Int)])/\Hid (Below W.heap.size W w')):=Hd fun id W hW=>Pending_rc _ C L id W (HST.out.below hW.bel) hL hby
 have HPL:Hid (∀ id,(pendR L id).2<=100000):=Hd fun id=>Nat.le_trans (pendR_len L id) hL
 have R0:Hid (RcW w (.slice aA C.length cA) (.slice aL L.length cL) [] (.slice none 0 0) wb):=Hd ⟨B0,World.ownsRow_nil _ _ _ _⟩
 clear B0 h2 h3 hC hL hby hlim
 go_enter Tryz.func50,Tryz.ntmps50
 go_wp2_with fail
 go_loopg [6,7,8] C.length (fun g s6 s7 s8 wr=>∃ (k:Nat) (q:List RCk × Nat) (v6:Value),g=C.length-k/\k<=C.length/\v6=s6/\s7=.int .i64 (q.2:Int)/\s8=.int .i64 (k:Int)/\Hid (reclR L lim 0 (C.take k)=q)/\Hid (RcW w (.slice aA C.length cA) (.slice aL L.length cL) q.1 v6 wr))
 case atStart=>exact ⟨0,([],0),_,rfl,Nat.zero_le _,rfl,rfl,rfl,Hd rfl,R0⟩
 case round =>
  obtain ⟨k,⟨D,n⟩,v6,rfl,hk,rfl,rfl,rfl,HQ,HI⟩:=hrel
  clear R0
  simp only at HI ⊢
  by_cases hlt:k<C.length
  ·obtain ⟨c0,c1,c2⟩:=ckC_get hlt
   obtain ⟨b,off,rfl,hb,hcell⟩:=HVA.out.get c0
   have q0:=hcell _ _ c0
   have q1:=hcell _ _ c1
   have q2:=hcell _ _ c2
   have hrc:=HRC.out k hlt
   have hle:=HLE.out k
   have hle1:=HLE.out (k+1)
   rw [HQ.out] at hrc hle
   simp only at hrc hle
   have hcc:=HCC.out
   have HWR:=Hd (wrap_up hlt (by omega))
   have HWN:Hid (n<C.length->wrap64 ((n:Int)+1)=((n+1:Nat):Int)):=Hd fun hn=>wrap_up hn (by omega)
   have hpl:∀ pd,pendR L C[k].1=pd->pd.2<=100000:=fun pd h=>by rw [<-h];exact HPL.out _
   have hPD:∀ W,BoxW w (.slice (some ⟨b,off,none⟩) C.length cA) (.slice aL L.length cL) W->∀ pd,pendR L C[k].1=pd->Calls Tryz.prog 101 #[.agg #[.slice (some ⟨b,off,none⟩) C.length cA,.slice aL L.length cL],.string C[k].1] W fun e w'=>e=.returned (.tuple #[.int .i64 pd.1,.int .i64 (pd.2:Int)])/\Hid (Below W.heap.size W w'):=fun W hW pd h=>by rw [<-h];exact PD.out C[k].1 W hW
   have CEL:Hid (∀ W,BoxW w (.slice (some ⟨b,off,none⟩) C.length cA) (.slice aL L.length cL) W->W.cell? ⟨w.heap.size,0,none⟩=some (.slice (some ⟨b,off,none⟩) C.length cA)/\W.cell? ⟨w.heap.size,1,none⟩=some (.slice aL L.length cL)/\W.cell? ⟨b,off+k*3,none⟩=some (.string C[k].1)/\W.cell? ⟨b,off+k*3+1,none⟩=some (.string C[k].2.1)/\W.cell? ⟨b,off+k*3+2,none⟩=some (.int .i64 C[k].2.2)):=Hd fun W hW=>⟨hW.cells.1,hW.cells.2.1,(hW.bel.cell (p:=⟨b,off+k*3,none⟩) hb).trans q0,(hW.bel.cell (p:=⟨b,off+k*3+1,none⟩) hb).trans q1,(hW.bel.cell (p:=⟨b,off+k*3+2,none⟩) hb).trans q2⟩
   have HLT:=Hd hlt
   have HRX:=Hd hrc
   have HLX:=Hd hle
   clear hrc hle hle1 c0 c1 c2 hcell q0 q1 q2 hb HQ
   generalize C[k]=c at *
   obtain ⟨ci,ct,cn⟩:=c
   simp only at hPD CEL HRX hpl
   obtain ⟨⟨p1,p2⟩,hpd⟩:∃ pd,pendR L ci=pd:=⟨_,rfl⟩
   replace hpl:=hpl _ hpd
   replace hPD:=fun W hW=>hPD W hW _ hpd
   simp only at hpl hPD
   have HPP:=Hd hpd
   clear hpd
   obtain ⟨d0,d1,d2,d3,d4⟩:=CEL.out _ HI.out.box
   have PDW:Hid (∀ W,Below wr.heap.size wr W->Calls Tryz.prog 101 #[.agg #[.slice (some ⟨b,off,none⟩) C.length cA,.slice aL L.length cL],.string ci] W fun e w'=>e=.returned (.tuple #[.int .i64 p1,.int .i64 (p2:Int)])/\(w'.cell? ⟨w.heap.size,0,none⟩=some (.slice (some ⟨b,off,none⟩) C.length cA)/\w'.cell? ⟨w.heap.size,1,none⟩=some (.slice aL L.length cL)/\w'.cell? ⟨b,off+k*3,none⟩=some (.string ci)/\w'.cell? ⟨b,off+k*3+1,none⟩=some (.string ct)/\w'.cell? ⟨b,off+k*3+2,none⟩=some (.int .i64 cn))/\Hid (Below wr.heap.size wr w')):=Hd fun W hW=>by
    refine (hPD W (HI.out.box.below hW)).mono ?_
    rintro e w' ⟨rfl,hb⟩
    have hbw:=hW.trans (hb.out.mono hW.size)
    exact ⟨rfl,CEL.out w' (HI.out.box.below hbw),Hd hbw⟩
   have hdr:Below wr.heap.size wr wr.drew:=(Below.refl _ _).drew
   have PD0:=PDW.out _ hdr
   clear hPD PDW hdr
   have HNXN:Hid (∀ q,rstep L lim (ci,ct,cn) (D,n)=q->reclR L lim 0 (C.take (k+1))=q):=Hd fun q h=>HRX.out.trans h
   have HRS:Hid (rstep L lim (ci,ct,cn) (D,n)=if (n:Int)<lim/\cn<=0/\(pendR L ci).2=0 then (D,n+1) else (D++[(ci,ct,cn)],n)):=Hd rfl
   rw [HPP.out] at HRS
   clear HRX
   have HL1:=Hd (show D.length+1<=maxLen/\(D.length+1)*40<=140737488355328 from ⟨by have:=HLX.out;unfold maxLen;omega,by have:=HLX.out;omega⟩)
   have hnC:n<=100000:=by have:=HLX.out;omega
   go_wp2_with fail
   go_region_held3 (fun w'=>w'.cell? ⟨w.heap.size,0,none⟩=some (.slice (some ⟨b,off,none⟩) C.length cA)/\w'.cell? ⟨w.heap.size,1,none⟩=some (.slice aL L.length cL)/\w'.cell? ⟨b,off+k*3,none⟩=some (.string ci)/\w'.cell? ⟨b,off+k*3+1,none⟩=some (.string ct)/\w'.cell? ⟨b,off+k*3+2,none⟩=some (.int .i64 cn)) (go_keep) ((first
    | (go_at_call 101
       refine Calls.at_args PD0 (by with_reducible rfl) ?_
       rintro e w4 ⟨rfl,hk4,HB4⟩)))
   all_goals (
    clear d0 d1 d2 d3 d4
    obtain ⟨d0,d1,d2,d3,d4⟩:=hk4
    by_cases hcond:(n:Int)<lim/\cn<=0/\p2=0
    ·have g1:decide ((n:Int)<lim)=true:=decide_eq_true hcond.1
     have g2:decide (cn<=0)=true:=decide_eq_true hcond.2.1
     have g3:p2=0:=hcond.2.2
     have HE:=Hd (HNXN.out _ (HRS.out.trans (if_pos hcond)))
     have HG:=Hd (HI.out.below HB4.out)
     clear hcond PD0 HI HRS HNXN
     subst g3
     go_wp2_with fail
     go_roundg (C.length-(k+1))
     case measure=>have:=HLT.out;omega
     case rel=>exact ⟨k+1,(D,n+1),_,rfl,HLT.out,rfl,by congr 1,by congr 1,HE,HG⟩
    ·have HE:=Hd (HNXN.out _ (HRS.out.trans (if_neg hcond)))
     have HG:=Hd (HI.out.below HB4.out)
     have hco:decide ((n:Int)<lim)=false\/(decide ((n:Int)<lim)=true/\decide (cn<=0)=false)\/(decide ((n:Int)<lim)=true/\decide (cn<=0)=true/\((p2:Int) == 0)=false):=by
      by_cases h1:(n:Int)<lim
      ·by_cases h2:cn<=0
       ·refine .inr (.inr ⟨decide_eq_true h1,decide_eq_true h2,?_⟩)
        simp only [beq_eq_false_iff_ne,ne_eq]
        intro h3
        exact hcond ⟨h1,h2,by omega⟩
       ·exact .inr (.inl ⟨decide_eq_true h1,decide_eq_false h2⟩)
      ·exact .inl (decide_eq_false h1)
     have HST5:Hid (∀ (o:Obj) W5 v5,(w4.alloc o).grownBy W5 v6.ownBlock->W5.ownsRow (w.heap.size+2) 175 3 v5 (D.length+1) (ckC D++[.string ci,.string ct,.int .i64 cn])->RcW w (.slice (some ⟨b,off,none⟩) C.length cA) (.slice aL L.length cL) (D++[(ci,ct,cn)]) v5 W5):=Hd fun o W5 v5 h1 h2=>HG.out.snoc o h1 h2
     have HOW:=Hd HG.out.row
     have HZ:Hid (∀ o:Obj,w.heap.size+2<=(w4.alloc o).heap.size):=Hd fun o=>by have:=lt_of_heap HG.out.box.r;simp;omega
     clear hcond PD0 HI HRS HNXN HG
     rcases hco with g1|⟨g1,g2⟩|⟨g1,g2,g3⟩
     all_goals (
      go_wp2_with (
       (refine chkA 49 49 ⟨_,_,by with_reducible rfl⟩ ?_
        refine wpList_append_y (by rfl) _ _ _ rfl (w.heap.size+2) 175 jC _ 3 40 Tryz.underlying49 hjC hC0 hC1 hC2 rfl (by decide) _ _ _ (by rfl) (HOW.out.alloc _) _ 1 _ (by rfl) (yields_boxL _ #[.string ci,.string ct,.int .i64 cn] _ 1 1) rfl (one3 _ _ _ rfl rfl rfl) HL1.out.1 HL1.out.2 (HZ.out _) ?_
        intro v5 W5 ho5 hg5 ha5
        have HN5:=Hd (HST5.out _ W5 v5 hg5 ho5)
        clear ho5 hg5 ha5))
      go_roundg (C.length-(k+1))
      case measure=>have:=HLT.out;omega
      case rel=>exact ⟨k+1,(D++[(ci,ct,cn)],n),_,rfl,HLT.out,rfl,rfl,by congr 1,HE,HN5⟩))
  ·obtain rfl:k=C.length:=by omega
   have hq:=HQ.out
   rw [List.take_length] at hq
   obtain ⟨a6,c6,rfl⟩:∃ a c,v6=.slice a D.length c:=by
    rcases HI.out.row.2 with ⟨e,h0⟩|⟨g,cap,cur,e,-⟩
    ·exact ⟨_,_,by rw [e,h0]⟩
    ·exact ⟨_,_,e⟩
   obtain ⟨x0,x1,x2,x3,x4⟩:=HI.out.box.cells
   have hB5:=HI.out.box.set (.slice a6 D.length c6)
   obtain ⟨z0,z1,z2,z3,z4⟩:=hB5.cells
   obtain ⟨r0,r1,r2,r3,r4⟩:=hB5.res
   obtain ⟨o1,o2,o3,o4,o5⟩:=hB5.out (.slice a6 D.length c6) (.slice aL L.length cL)
   have hx0:¬(w.heap.size+2<=w.heap.size):=by omega
   have hx1:¬(w.heap.size+2<=w.heap.size+1):=by omega
   have l6:=fun j e=>(HI.out.row.lt j e).1
   have HE:=Hd hq
   have HG:=Hd (And.intro (And.intro (show StR _ (.agg #[.slice a6 D.length c6,.slice aL L.length cL]) D L from ⟨_,_,rfl,(((RdRow.own HI.out.row).setLoc (D:=fun b=>w.heap.size+2<=b) l6 hx0 (.slice a6 D.length c6)).setLoc (D:=fun b=>w.heap.size+2<=b) l6 hx1 (.slice a6 D.length c6)).setLoc (D:=fun b=>w.heap.size+2<=b) l6 hx1 (.slice aL L.length cL),HVL.out.below o5⟩) o5) (fun P (hD:StLoc P (.agg #[.slice aA C.length cA,.slice aL L.length cL]))=>show StLoc (fun b=>P b\/w.heap.size<=b) (.agg #[.slice a6 D.length c6,.slice aL L.length cL]) from by
    obtain ⟨p1,p2,e,g1,g2⟩:=hD
    cases e
    exact ⟨_,_,rfl,fun g e=>.inr (by have:=l6 g e;omega),fun g e=>.inl (g2 g e)⟩))
   clear HI HQ hq hlt hk hB5 o5 l6 hx0 hx1
   go_wp2_with fail
   (try simp only [Exit.inBlock,Exit.then])
   refine bodyPost_ret (v:=.tuple #[.agg #[.slice a6 D.length c6,.slice aL L.length cL],.int .i64 (n:Int)]) ?_ rfl ⟨_,by rw [HE.out],by rw [HE.out];exact HG⟩
   rw [results_cell_tmp rfl]
   go_simp
set_option maxHeartbeats 4000000
section
variable (w1 w w0:World) (K:Nat->Prop) (sb rb ti tl n N a nx:Nat) (C:List Ck) (L:List Lg) (X:List (Nat × ByteArray))
theorem Apply_yes (id:ByteArray) (up:Bool) (c:Ck) (h:Hid (Chs w1 w0 w K sb rb ti tl n N a C L nx X)) (hN:a<N/\N<=1000) (hf:cAt C id=some c) (hcb:-1000000<=c.cnt/\c.cnt<=1000000) :
 Calls Tryz.prog 96 #[.pointer (some ⟨sb,0,none⟩),.string id,.int .i64 (byI up)] w fun e w'=>e=.returned (.int .i64 0)/\Hid (∃ C',PutC (c.add (byI up)) C C'/\Chs w1 w0 w' K sb rb ti tl n N (a+1) C' L nx X):=by
 obtain ⟨x,hx⟩:=exE (w.heap.size)
 obtain ⟨wb,hwb⟩:=exE (w.alloc (.cells #[.int .i64 0] 34))
 have E0:Hid (ChE w1 w x 0 wb K sb rb ti tl n N a C L nx X):=Hd (by subst hx hwb;exact ChE.start h.out)
 obtain ⟨k,MK⟩:=Mark_k w1 wb wb _ sb rb ti tl n N a nx C L X (Hd E0.out.st)
 obtain ⟨hm,hid⟩:=cAt_some hf
 have hok:=h.out.ok.1 c hm
 have his:id.size=33:=by rw [<-hid];exact hok.id
 have FY:=find_yes id c (Hd E0.out.st) ⟨by omega,hN.2⟩ (by omega) hf
 rw [show c.v=.agg #[.int .i64 (c.page:Int),.int .i64 (c.text.size:Int),.int .i64 c.cnt] from rfl] at FY
 have hbb:-1<=byI up/\byI up<=1:=by unfold byI;split <;> omega
 have KP:Hid (∀ W,Hid (ChE w1 w x 0 W K sb rb ti tl n N a C L nx X)->Calls Tryz.prog 68 #[.pointer (some ⟨sb,0,none⟩),.string id,.agg #[.int .i64 (c.page:Int),.int .i64 (c.text.size:Int),.int .i64 (c.cnt+byI up)]] W fun e w'=>e=.returned (.int .i64 0)/\Hid (∃ C2,PutC (c.add (byI up)) C C2/\ChE w1 w x 0 w' K sb rb ti tl n N (a+1) C2 L nx X)):=Hd fun W hW=>by
  have hk:=keep_k w1 W W _ sb rb ti tl n N a nx C L X (c.add (byI up)) (Ck.add_ok hok (by omega) (by omega)) (Hd hW.out.st) hN
  rw [show (c.add (byI up)).id=id from hid] at hk
  refine hk.mono ?_
  rintro e w' ⟨rfl,hE⟩
  obtain ⟨C2,h1,h2⟩:=hE.out
  exact ⟨rfl,Hd ⟨C2,h2,hW.out.step h1⟩⟩
 have kw:IntKind.i64.wrap (c.cnt+byI up)=c.cnt+byI up:=wrap_sgn (by omega) (by omega)
 have HH:=Hd h.out
 generalize c.add (byI up)=ca at *
 generalize c.page=z0 at *
 generalize (c.text.size:Int)=z1 at *
 generalize c.cnt=z2 at *
 clear h hN hf hcb hm hid hok his hbb
 cases up
 all_goals (
  first
   | rw [show byI true=1 from rfl] at *
   | rw [show byI false=-1 from rfl] at *
  go_enter_defers Tryz.func96,Tryz.ntmps96
  go_wp2_with fail
  subst hx
  refine MK.mono ?_
  rintro e wm ⟨rfl,rfl⟩
  go_wp2_with fail
  refine FY.mono ?_
  rintro e w2 ⟨rfl,G2⟩
  have E2:=Hd (E0.out.step G2.out)
  obtain ⟨cx,fx,lx⟩:=E2.out.cell
  obtain ⟨s0,s1,s2⟩:=E2.out.st.sbk.cells
  have lsb:sb<w2.heap.size:=lt_of_heap E2.out.st.sbk.1
  have nsb:sb≠w.heap.size:=E2.out.ne.1.symm
  clear FY MK G2
  go_wp2_with fail
  refine (KP.out _ (Hd ((E2.out.set 0).below ((Below.refl _ _).alloc (Nat.le_refl _) _)))).mono ?_
  rintro e w7 ⟨rfl,H7⟩
  obtain ⟨C2,hp,E7⟩:=H7.out
  have HP:=Hd hp
  have E7:=Hd E7
  clear hp H7 KP cx fx lx s0 s1 s2 lsb nsb
  obtain ⟨cx,fx,lx⟩:=E7.out.cell
  have E8:=Hd (E7.out.set 0)
  have hfin:=E8.out.cell.1
  go_wp2_with fail
  refine leaves_cons (f:=60) (args:=#[.pointer (some ⟨sb,0,none⟩),.int .i64 (k:Int),.pointer (some ⟨w.heap.size,0,none⟩)]) (by simp) (by simp [go_sem]) ?_
  refine (undo_d _ _ _ _ _ hfin).mono ?_
  rintro e u' w9 ⟨rfl,rfl,rfl⟩
  have HGO:=Hd (ChE.end_ HH.out E8.out)
  simp [Leaves,settle,results,Tryz.results96,go_sem,hfin]
  exact Hd ⟨C2,HP.out,HGO.out⟩)
theorem Put_err (t:ByteArray) (h:Hid (Chs w1 w0 w K sb rb ti tl n N a C L nx X)) (hN:a<=N/\N<=1000) (ht:t.size<1\/128<t.size) :
 Calls Tryz.prog 18 #[.pointer (some ⟨sb,0,none⟩),.string t] w fun e w'=>e=.returned (.tuple #[.string ⟨#[]⟩,.bool false,.int .i64 1])/\Hid (Chs w1 w0 w' K sb rb ti tl n N a C L nx X):=by
 obtain ⟨x,hx⟩:=exE (w.heap.size)
 obtain ⟨wb,hwb⟩:=exE (w.alloc (.cells #[.int .i64 0] 34))
 have E0:Hid (ChE w1 w x 0 wb K sb rb ti tl n N a C L nx X):=Hd (by subst hx hwb;exact ChE.start h.out)
 obtain ⟨puts,S,o0,o1,M,MK⟩:=E0.out.st.mark
 have S0:=Hd (ChS.start E0.out M)
 obtain ⟨p,q,c,-,FA⟩:=find_any ⟨#[]⟩ M hN S0.out.st
 have HM:=Hd M
 have BK:Hid (∀ W er,ChS w1 w x er W K sb rb ti tl n (300*a) S->_):=Hd fun W er hW=>hW.back (by omega) M h.out.kept
 obtain ⟨pl,hpl⟩:∃ pl:Int,(puts.length:Int)=pl:=⟨_,rfl⟩
 rw [hpl] at MK BK
 clear h hN M E0 hpl
 have hd:decide ((t.size:Int)<1)=true\/(decide ((t.size:Int)<1)=false/\decide ((t.size:Int) > 128)=true):=by
  rcases Nat.lt_or_ge t.size 1 with q1|q1
  ·exact .inl (decide_eq_true (by omega))
  ·exact .inr ⟨decide_eq_false (by omega),decide_eq_true (by omega)⟩
 clear ht
 rcases hd with d0|⟨d0,d1⟩
 all_goals (
  go_enter_defers Tryz.func18,Tryz.ntmps18
  go_wp2_with fail
  subst hx
  refine MK.mono ?_
  rintro e wm ⟨rfl,rfl⟩
  go_wp2_with fail
  refine FA.mono ?_
  rintro e w2 ⟨rfl,G2⟩
  have E2:=Hd (S0.out.step G2.out)
  obtain ⟨cx,fx,lx⟩:=E2.out.cell
  have E3:=Hd fun o=>(E2.out.set 1).below ((Below.refl _ _).alloc (Nat.le_refl _) o)
  have hfin:=fun o=>(E3.out o).cell.1
  have B3:=fun o=>BK.out _ _ (E3.out o)
  clear FA MK G2 BK
  go_wp2_with fail
  refine leaves_cons (f:=60) (args:=#[.pointer (some ⟨sb,0,none⟩),.int .i64 pl,.pointer (some ⟨w.heap.size,0,none⟩)]) (by simp) (by simp [go_sem]) ?_
  refine (undo_back _ _ _ _ _ (hfin _) (by decide) (B3 _)).mono ?_
  rintro e u' w9 ⟨rfl,rfl,HQ⟩
  have hq:=HQ.out.1
  have HG:=Hd HQ.out.2
  simp [Leaves,settle,results,Tryz.results18,go_sem,hq]
  exact HG)
theorem find_none {w1 w w0:World} {K:Nat->Prop} {sb rb ti tl n N a nx:Nat} {C:List Ck} {L:List Lg} {X:List (Nat × ByteArray)} (id:ByteArray) (h:Hid (Chs w1 w0 w K sb rb ti tl n N a C L nx X)) (hN:a<=N/\N<=1000) (hf:cAt C id=none) :
 Calls Tryz.prog 62 #[.pointer (some ⟨sb,0,none⟩),.string id] w fun e w'=>e=.returned (.tuple #[ck0,.bool false,.int .i64 0])/\Hid (Chs w1 w0 w' K sb rb ti tl n N a C L nx X):=by
 by_cases hi:id.size<=96
 ·exact find_no id h hN hi hf
 ·obtain ⟨S,o0,o1,h1,h2,h3,h4⟩:=h.out
  refine (find_longC w1 w K sb rb ti tl n (300*a) S id h1.1 (by omega) (by omega)).mono ?_
  rintro e w' ⟨rfl,hE⟩
  exact ⟨rfl,Hd ⟨S,o0,o1,⟨hE.out.1,h1.2.trans hE.out.2⟩,h2,h3,h4⟩⟩
theorem Get_none2 (id:ByteArray) (h:Hid (Chs w1 w0 w K sb rb ti tl n N a C L nx X)) (hN:a<=N/\N<=1000) (hf:cAt C id=none) :
 Calls Tryz.prog 29 #[.pointer (some ⟨sb,0,none⟩),.string id] w fun e w'=>e=.returned (.tuple #[.string ⟨#[]⟩,.int .i64 6])/\Hid (Chs w1 w0 w' K sb rb ti tl n N a C L nx X):=by
 have FN:=find_none id h hN hf
 rw [show ck0=.agg #[.int .i64 0,.int .i64 0,.int .i64 0] from rfl] at FN
 clear h hN hf
 go_enter Tryz.func29,Tryz.ntmps29
 go_wp2_with fail
 refine FN.mono ?_
 rintro e w2 ⟨rfl,G2⟩
 go_wp2_with fail
 go_ret2
 exact ⟨rfl,Hd (G2.out.below ((Below.refl _ _).alloc (Nat.le_refl _) _))⟩
theorem Count_none2 (id:ByteArray) (h:Hid (Chs w1 w0 w K sb rb ti tl n N a C L nx X)) (hN:a<=N/\N<=1000) (hf:cAt C id=none) :
 Calls Tryz.prog 21 #[.pointer (some ⟨sb,0,none⟩),.string id] w fun e w'=>e=.returned (.tuple #[.int .i64 0,.int .i64 0,.int .i64 6])/\Hid (Chs w1 w0 w' K sb rb ti tl n N a C L nx X):=by
 have FN:=find_none id h hN hf
 rw [show ck0=.agg #[.int .i64 0,.int .i64 0,.int .i64 0] from rfl] at FN
 clear h hN hf
 go_enter Tryz.func21,Tryz.ntmps21
 go_wp2_with fail
 refine FN.mono ?_
 rintro e w2 ⟨rfl,G2⟩
 go_wp2_with fail
 go_ret3
 exact ⟨rfl,Hd (G2.out.below ((Below.refl _ _).alloc (Nat.le_refl _) _))⟩
end
def KR (K:Nat->Prop) (x r:Nat) (va vw:Value):Nat->Prop:=fun k=>(((K k\/k=x)\/va.ownBlock=some k)\/vw.ownBlock=some k)\/k=r
structure RclS (w1 w:World) (x r:Nat) (va vw:Value) (C0:List Ck) (L0:List Lg) (Q:List (ByteArray × Bool)) (K:Nat->Prop) (sb rb ti tl n N a:Nat) (C:List Ck) (L:List Lg) (nx:Nat) (X:List (Nat × ByteArray)) (wr:World):Prop where
 st:Chs w1 wr wr (KR K x r va vw) sb rb ti tl n N a C L nx X
 kp:Kept K w wr
 bx:wr.heap[x]?=some (.cells #[.int .i64 0] 34 (0,0))
 rowA:wr.ownsRow 0 106 3 va C0.length (chkC C0)
 rowW:wr.ownsRow 0 146 3 vw L0.length (entC L0)
 map:MapIs kStr Value.bool wr r Q
 lx:w1.heap.size<=x/\x≠sb/\x≠ti/\x≠tl
 lr:w1.heap.size<=r/\r≠sb/\r≠ti/\r≠tl
 nk:¬K x/\¬K r
section
variable {w1 w wr w' W:World} {x r:Nat} {va vw:Value} {C0:List Ck} {L0:List Lg} {Q Q':List (ByteArray × Bool)} {K K2:Nat->Prop} {sb rb ti tl n N a a' nx nx':Nat} {C C':List Ck} {L L':List Lg} {X X':List (Nat × ByteArray)}
theorem RclS.step (h:RclS w1 w x r va vw C0 L0 Q K sb rb ti tl n N a C L nx X wr) (g:Chs w1 wr w' (KR K x r va vw) sb rb ti tl n N a' C' L' nx' X'):RclS w1 w x r va vw C0 L0 Q K sb rb ti tl n N a' C' L' nx' X' w':=by
 have k:=g.kept
 exact ⟨g.reset,h.kp.trans (k.mono fun j hj=>.inl (.inl (.inl (.inl hj)))),(k x (.inl (.inl (.inl (.inr rfl))))).trans h.bx,own_same h.rowA fun j e=>k j (.inl (.inl (.inr e))),own_same h.rowW fun j e=>k j (.inl (.inr e)),h.map.of_heap (k r (.inr rfl)),h.lx,h.lr,h.nk⟩
theorem RclS.below (h:RclS w1 w x r va vw C0 L0 Q K sb rb ti tl n N a C L nx X wr) (hb:Below wr.heap.size wr w'):RclS w1 w x r va vw C0 L0 Q K sb rb ti tl n N a C L nx X w':=h.step (h.st.below hb)
theorem RclS.cell (h:RclS w1 w x r va vw C0 L0 Q K sb rb ti tl n N a C L nx X wr):wr.cell? ⟨x,0,none⟩=some (.int .i64 0)/\wr.frozen? ⟨x,0,none⟩=false/\x<wr.heap.size:=⟨cell_lit h.bx rfl,frozen_lit h.bx 0,lt_of_heap h.bx⟩
theorem RclS.new (h:RclS w1 w x r va vw C0 L0 Q K sb rb ti tl n N a C L nx X wr) (o:Obj):RclS w1 (wr.alloc o) x r va vw C0 L0 Q (fun k=>K k\/k=wr.heap.size) sb rb ti tl n N a C L nx X (wr.alloc o):=by
 have hb:Below wr.heap.size wr (wr.alloc o):=(Below.refl wr.heap.size wr).alloc (Nat.le_refl _) _
 have hx:=lt_of_heap h.bx
 have hr:=h.map.lt
 refine ⟨(h.st.new hb wr.heap.size (Nat.le_refl _) (by simp)).mono fun k hk=>?_,fun _ _=>rfl,(hb.block x hx).trans h.bx,own_same h.rowA fun j e=>hb.block j (h.rowA.lt j e).2,own_same h.rowW fun j e=>hb.block j (h.rowW.lt j e).2,h.map.alloc o,h.lx,h.lr,?_,?_⟩
 ·rcases hk with ((((hk|hk)|hk)|hk)|hk)|hk
  ·exact .inl (.inl (.inl (.inl (.inl hk))))
  ·exact .inr hk
  ·exact .inl (.inl (.inl (.inl (.inr hk))))
  ·exact .inl (.inl (.inl (.inr hk)))
  ·exact .inl (.inl (.inr hk))
  ·exact .inl (.inr hk)
 ·rintro (hk|hk)
  ·exact h.nk.1 hk
  ·omega
 ·rintro (hk|hk)
  ·exact h.nk.2 hk
  ·omega
theorem RclS.old {o:Obj} (h:RclS w1 w x r va vw C0 L0 Q K sb rb ti tl n N a C L nx X wr) (g:RclS w1 (wr.alloc o) x r va vw C0 L0 Q' (fun k=>K k\/K2 k) sb rb ti tl n N a' C' L' nx' X' w'):RclS w1 w x r va vw C0 L0 Q' K sb rb ti tl n N a' C' L' nx' X' w':=by
 have hb:Below wr.heap.size wr (wr.alloc o):=(Below.refl wr.heap.size wr).alloc (Nat.le_refl _) _
 refine ⟨g.st.mono fun k hk=>?_,?_,g.bx,g.rowA,g.rowW,g.map,h.lx,h.lr,h.nk⟩
 ·rcases hk with (((hk|hk)|hk)|hk)|hk
  ·exact .inl (.inl (.inl (.inl (.inl hk))))
  ·exact .inl (.inl (.inl (.inr hk)))
  ·exact .inl (.inl (.inr hk))
  ·exact .inl (.inr hk)
  ·exact .inr hk
 ·exact (h.kp.trans ((h.st.keep hb).mono fun k hk=>.inl (.inl (.inl (.inl hk))))).trans (g.kp.mono fun k hk=>.inl hk)
theorem RclS.upd (h:RclS w1 w x r va vw C0 L0 Q K sb rb ti tl n N a C L nx X wr) (hu:Upd (·=r) wr w') (hm:MapIs kStr Value.bool w' r Q'):RclS w1 w x r va vw C0 L0 Q' K sb rb ti tl n N a C L nx X w':=by
 have hx:x≠r:=fun e=>by
  subst e
  obtain ⟨es,clock,m0,hb,-⟩:=h.map
  rw [h.bx] at hb;cases hb
 have hA:∀ j,va.ownBlock=some j->j≠r:=fun j e e2=>by
  subst e2
  obtain ⟨es,clock,m0,hb,-⟩:=h.map
  obtain ⟨cur,hc⟩:=ownsRow_cells h.rowA e
  rw [hc] at hb;cases hb
 have hW:∀ j,vw.ownBlock=some j->j≠r:=fun j e e2=>by
  subst e2
  obtain ⟨es,clock,m0,hb,-⟩:=h.map
  obtain ⟨cur,hc⟩:=ownsRow_cells h.rowW e
  rw [hc] at hb;cases hb
 refine ⟨h.st.upd hu fun k hk=>by subst hk;exact ⟨.inr rfl,h.lr⟩,fun k hk=>?_,(hu.block x (lt_of_heap h.bx) hx).trans h.bx,own_same h.rowA fun j e=>hu.block j (h.rowA.lt j e).2 (hA j e),own_same h.rowW fun j e=>hu.block j (h.rowW.lt j e).2 (hW j e),hm,h.lx,h.lr,h.nk⟩
 have hl:k<wr.heap.size:=h.st.klt (.inl (.inl (.inl (.inl hk))))
 exact (hu.block k hl fun e=>h.nk.2 (by rw [<-e];exact hk)).trans (h.kp k hk)
theorem RclS.fin {w0:World} (h:RclS w1 w x r va vw C0 L0 Q K sb rb ti tl n N a C L nx X wr) (hk:Kept K w0 w):Chs w1 w0 (wr.setCell ⟨x,0,none⟩ (.int .i64 0)) K sb rb ti tl n N a C L nx X/\(wr.setCell ⟨x,0,none⟩ (.int .i64 0)).cell? ⟨x,0,none⟩=some (.int .i64 0):=by
 obtain ⟨S,o0,o1,h1,h2⟩:=h.st
 refine ⟨⟨S,o0,o1,⟨(h1.1.set (.inl (.inl (.inl (.inr rfl)))) h.lx.1 h.lx.2 0 _).mono fun k hk=>.inl (.inl (.inl (.inl hk))),fun k hk2=>?_⟩,h2⟩,cell_lit (heap_set_lit h.bx _) rfl⟩
 have hne:k≠x:=fun e=>h.nk.1 (by rw [<-e];exact hk2)
 rw [heap_set_ne _ hne,h.kp k hk2,hk k hk2]
end
def BusyM (L:List Lg) (Q:List (ByteArray × Bool)):Prop:=∀ id,look Q id=if busyL L id then some true else none
theorem BusyM.nil:BusyM [] []:=fun id=>rfl
theorem busyL_snoc (L:List Lg) (e:Lg) (id:ByteArray):busyL (L++[e]) id=(busyL L id || decide (e.id=id)):=by simp [busyL]
theorem BusyM.put {L:List Lg} {Q:List (ByteArray × Bool)} (h:BusyM L Q) (e:Lg):BusyM (L++[e]) (put Q e.id true):=fun id=>by
 rw [look_put,busyL_snoc,h id]
 by_cases he:e.id=id
 ·simp [he]
 ·simp [he]
def rclC (L:List Lg) (lim:Int) (C:List Ck) (i:Nat):List Ck:=(reclK L lim 0 (C.take i)).1++C.drop i
def rclN (L:List Lg) (lim:Int) (C:List Ck) (i:Nat):Nat:=(reclK L lim 0 (C.take i)).2
theorem rcl_step {L:List Lg} {lim:Int} {C:List Ck} {i:Nat} (h:i<C.length) :
 (¬((rclN L lim C i:Int)<lim/\C[i].cnt<=0/\busyL L C[i].id=false)->rclC L lim C (i+1)=rclC L lim C i/\rclN L lim C (i+1)=rclN L lim C i) /\
 (((rclN L lim C i:Int)<lim/\C[i].cnt<=0/\busyL L C[i].id=false)->rclN L lim C (i+1)=rclN L lim C i+1/\∃ K R,rclC L lim C i=K++C[i]::R/\rclC L lim C (i+1)=K++R):=by
 have e1:C.take (i+1)=C.take i++[C[i]]:=List.take_succ_eq_append_getElem h
 have e2:C.drop i=C[i]::C.drop (i+1):=List.drop_eq_getElem_cons h
 unfold rclC rclN
 rw [e1,reclK_snoc,e2]
 unfold kstep
 refine ⟨fun hn=>?_,fun hy=>?_⟩
 ·rw [if_neg hn];exact ⟨by simp,rfl⟩
 ·rw [if_pos hy];exact ⟨rfl,_,_,rfl,rfl⟩
theorem rcl_zero (L:List Lg) (lim:Int) (C:List Ck):rclC L lim C 0=C/\rclN L lim C 0=0:=by simp [rclC,rclN,reclK]
theorem rcl_end (L:List Lg) (lim:Int) (C:List Ck):rclC L lim C C.length=(reclK L lim 0 C).1/\rclN L lim C C.length=(reclK L lim 0 C).2:=by simp [rclC,rclN]
theorem rcl_stop {L:List Lg} {lim:Int} {C:List Ck} {i:Nat} (h:lim<=rclN L lim C i):rclC L lim C i=(reclK L lim 0 C).1/\rclN L lim C i=(reclK L lim 0 C).2:=by
 have h1:=reclK_app L lim (C.drop i) (C.take i) 0
 rw [List.take_append_drop,reclK_full L lim (C.drop i) (reclK L lim 0 (C.take i)).2 h] at h1
 unfold rclC rclN
 rw [h1]
 exact ⟨rfl,rfl⟩
theorem rcl_len (L:List Lg) (lim:Int) (C:List Ck) (i:Nat):rclN L lim C i<=C.length:=by
 have:=reclK_len L lim (C.take i) 0
 rw [List.length_take] at this
 unfold rclN;omega
set_option maxHeartbeats 8000000
theorem chkC_at:∀ {C:List Ck} {k:Nat} (h:k<C.length),(chkC C)[k*3]?=some (.string C[k].id)/\(chkC C)[k*3+1]?=some (.int .i64 (C[k].text.size:Int))/\(chkC C)[k*3+2]?=some (.int .i64 C[k].cnt)
 | [],k,h=>by simp at h
 | c::C,0,h=>⟨rfl,rfl,rfl⟩
 | c::C,k+1,h=>by
   have ih:=chkC_at (C:=C) (k:=k) (by simpa using h)
   have e:chkC (c::C)=.string c.id::.int .i64 (c.text.size:Int)::.int .i64 c.cnt::chkC C:=rfl
   rw [e,show (k+1)*3=k*3+1+1+1 by omega]
   simp only [List.getElem?_cons_succ,List.getElem_cons_succ]
   exact ih
theorem ChE.rowA {w1 w wb w4:World} {K:Nat->Prop} {sb rb ti tl n N a nx:Nat} {C:List Ck} {L:List Lg} {X:List (Nat × ByteArray)} {x:Nat} {v:Value} (h:ChE w1 w x 0 wb K sb rb ti tl n N a C L nx X) (hs:AllEnd w1 wb w4 (fun k=>K k\/k=x) sb rb ti tl n N a C L nx X v) :
 ChE w1 w4 x 0 w4 (fun k=>K k\/v.ownBlock=some k) sb rb ti tl n N a C L nx X:=by
 have bx:=(hs.2.2 x (.inr rfl)).trans h.bx
 refine ⟨hs.2.1.mono fun k hk=>?_,fun _ _=>rfl,bx,h.lo,h.ne,?_⟩
 ·rcases hk with (hk|hk)|hk
  ·exact .inl (.inl hk)
  ·exact .inr hk
  ·exact .inl (.inr hk)
 ·rintro (hk|hk)
  ·exact h.nk hk
  ·obtain ⟨cur,hc⟩:=ownsRow_cells hs.1 hk
   rw [bx] at hc
   simp at hc
section
variable (w1 w w0:World) (K:Nat->Prop) (sb rb ti tl n N a nx:Nat) (C:List Ck) (L:List Lg)
theorem RclS.start {wb w2 w4:World} {x:Nat} {va vw:Value} (h:Chs w1 w0 w K sb rb ti tl n N a C L nx (cpg C)) (E0:ChE w1 w x 0 wb K sb rb ti tl n N a C L nx (cpg C)) (H2:AllEnd w1 wb w2 (fun k=>K k\/k=x) sb rb ti tl n N a C L nx (cpg C) va)
 (HS:FirstEnd w1 (w2.setCell ⟨x,0,none⟩ (.int .i64 0)) w4 (fun k=>(K k\/va.ownBlock=some k)\/k=x) sb rb ti tl n N a C L nx (cpg C) L vw) :
 RclS w1 w x w4.heap.size va vw C L [] K sb rb ti tl n N a C L nx (cpg C) ((w4.setCell ⟨x,0,none⟩ (.int .i64 0)).alloc (.map #[] 0)):=by
 have E2:=ChE.rowA E0 H2
 have E3:=E2.set 0
 have E4:=ChE.row w1 w2 (fun k=>K k\/va.ownBlock=some k) sb rb ti tl n N a nx C L (cpg C) E3 HS
 have E5:=E4.set 0
 have E6:=E5.new (.map #[] 0)
 have hs4:(w4.setCell ⟨x,0,none⟩ (.int .i64 0)).heap.size=w4.heap.size:=by simp
 have hb:Below w4.heap.size (w4.setCell ⟨x,0,none⟩ (.int .i64 0)) ((w4.setCell ⟨x,0,none⟩ (.int .i64 0)).alloc (.map #[] 0)):=(Below.refl w4.heap.size _).alloc (by rw [hs4];exact Nat.le_refl _) _
 have bx4:=E4.bx
 have hxl:=lt_of_heap bx4
 have hne:∀ j,K j->j≠x:=fun j hj e=>E0.nk (by rw [<-e];exact hj)
 have nA:∀ j,va.ownBlock=some j->j≠x:=fun j hj e=>E2.nk (.inr (by rw [<-e];exact hj))
 have nW:∀ j,vw.ownBlock=some j->j≠x:=fun j hj e=>E4.nk (.inr (by rw [<-e];exact hj))
 have hs:=E5.st.sbk
 have l1:=lt_of_heap hs.1
 have l2:=lt_of_heap hs.2.1
 have l3:=lt_of_heap hs.2.2
 have l0:=E5.st.bel.size
 rw [hs4] at l0 l1 l2 l3
 refine ⟨E6.st.mono fun k hk=>?_,?_,E6.bx,?_,?_,?_,⟨E0.lo.1,E0.ne⟩,⟨l0,by omega,by omega,by omega⟩,E0.nk,fun hk=>?_⟩
 ·rcases hk with (((hk|hk)|hk)|hk)|hk
  ·exact .inl (.inl (.inl (.inl hk)))
  ·exact .inr hk
  ·exact .inl (.inl (.inl (.inr hk)))
  ·exact .inl (.inl (.inr hk))
  ·exact .inl (.inr (by rw [hs4];exact hk))
 ·intro k hk
  have h1:k<w.heap.size:=h.klt hk
  have g1:=E0.kp k hk
  have g2:=H2.2.2 k (.inl hk)
  have g3:(w2.setCell ⟨x,0,none⟩ (.int .i64 0)).heap[k]?=w2.heap[k]?:=heap_set_ne _ (hne k hk)
  have g4:=HS.2.2 k (.inl (.inl hk))
  have g5:(w4.setCell ⟨x,0,none⟩ (.int .i64 0)).heap[k]?=w4.heap[k]?:=heap_set_ne _ (hne k hk)
  have hk4:k<w4.heap.size:=by
   have:=E4.st.klt (.inl (.inl (.inl hk)));exact this
  rw [hb.block k hk4,g5,g4,g3,g2,g1]
 ·refine own_same H2.1 fun j e=>?_
  have hj4:j<w4.heap.size:=E4.st.klt (.inl (.inl (.inr e)))
  rw [hb.block j hj4,heap_set_ne _ (nA j e),HS.2.2 j (.inl (.inr e)),heap_set_ne _ (nA j e)]
 ·refine own_le (own_same HS.1 fun j e=>?_) (Nat.zero_le _)
  have hj4:j<w4.heap.size:=(HS.1.lt j e).2
  rw [hb.block j hj4,heap_set_ne _ (nW j e)]
 ·have:=MapIs.made (K:=kStr) (V:=Value.bool) (w4.setCell ⟨x,0,none⟩ (.int .i64 0))
  rwa [hs4] at this
 ·have:=E4.st.klt (.inl (.inl (.inl hk)));omega
end
section
variable (w1 w w0:World) (K:Nat->Prop) (sb rb ti tl n N a nx:Nat) (C:List Ck) (L:List Lg)
theorem Reclaim_k (lim:Int) (h:Hid (Chs w1 w0 w K sb rb ti tl n N a C L nx (cpg C))) (hN:a+2*C.length<=N/\N<=1000) (hL:L.length<=100000) :
 Calls Tryz.prog 48 #[.pointer (some ⟨sb,0,none⟩),.int .i64 lim] w fun e w'=>e=.returned (.tuple #[.int .i64 ((reclK L lim 0 C).2:Int),.int .i64 0])/\Hid (Chs w1 w0 w' K sb rb ti tl n N (a+2*(reclK L lim 0 C).2) (reclK L lim 0 C).1 L nx (cpg (reclK L lim 0 C).1)):=by
 obtain ⟨x,hx⟩:=exE (w.heap.size)
 obtain ⟨wb,hwb⟩:=exE (w.alloc (.cells #[.int .i64 0] 34))
 have E0:Hid (ChE w1 w x 0 wb K sb rb ti tl n N a C L nx (cpg C)):=Hd (by subst hx hwb;exact ChE.start h.out)
 obtain ⟨k,MK⟩:=Mark_k w1 wb wb _ sb rb ti tl n N a nx C L (cpg C) (Hd E0.out.st)
 have AL:=All_k w1 wb wb _ sb rb ti tl n N a nx C L (cpg C) (Hd E0.out.st) ⟨by omega,hN.2⟩ (by omega)
 have HN:=Hd hN
 have HL:=Hd hL
 have HH:=Hd h.out
 have hmm:=@run_makeMap Tryz.prog
 clear h hN hL
 go_enter_defers Tryz.func48,Tryz.ntmps48
 go_wp2_with fail
 subst hx
 refine MK.mono ?_
 rintro e wm ⟨rfl,rfl⟩
 go_wp2_with fail
 refine AL.mono ?_
 rintro e w2 ⟨v,rfl,H2⟩
 obtain ⟨va,vc,hv⟩:∃ va vc,v=.slice va C.length vc:=by
  rcases H2.out.1.2 with ⟨rfl,h0⟩|⟨g,cap,cur,rfl,-⟩
  ·exact ⟨_,_,by rw [h0]⟩
  ·exact ⟨_,_,rfl⟩
 subst hv
 have E2:=Hd (ChE.rowA E0.out H2.out)
 have E3:=Hd (E2.out.set 0)
 obtain ⟨cx,fx,lx⟩:=E2.out.cell
 have cx3:=E3.out.cell.1
 have FA:=first_all w1 _ _ _ sb rb ti tl n N a nx C L (cpg C) (Hd E3.out.st) ⟨by have:=HN.out;omega,HN.out.2⟩ (by have:=HL.out;omega)
 clear AL MK
 go_wp2_with fail
 refine FA.mono ?_
 rintro e w4 ⟨vwa,vwc,rfl,HS⟩
 have R0:=Hd (RclS.start w1 w w0 K sb rb ti tl n N a nx C L HH.out E0.out H2.out HS.out)
 have E4:=Hd (ChE.row w1 w2 (fun k=>K k\/(Value.slice va C.length vc).ownBlock=some k) sb rb ti tl n N a nx C L (cpg C) E3.out HS.out)
 clear FA cx fx lx cx3
 obtain ⟨cx,fx,lx⟩:=E4.out.cell
 have cx4:=(E4.out.set 0).cell.1
 clear E4 E3 E2 H2 HS
 have R1:Hid (∃ Q,BusyM (L.take 0) Q/\RclS w1 w w.heap.size w4.heap.size (.slice va C.length vc) (.slice vwa L.length vwc) C L Q K sb rb ti tl n N a C L nx (cpg C) ((w4.setCell ⟨w.heap.size,0,none⟩ (.int .i64 0)).alloc (.map #[] 0))):=Hd ⟨[],BusyM.nil,R0.out⟩
 clear R0
 obtain ⟨r,hr⟩:=exE (w4.heap.size)
 rw [hr] at R1
 go_wp2_with fail
 go_loopg [38] L.length (fun g s38 wr=>∃ (i:Nat),g=L.length-i/\i<=L.length/\s38=.int .i64 (i:Int)/\Hid (∃ Q,BusyM (L.take i) Q/\RclS w1 w w.heap.size r (.slice va C.length vc) (.slice vwa L.length vwc) C L Q K sb rb ti tl n N a C L nx (cpg C) wr))
 case atStart=>exact ⟨0,rfl,Nat.zero_le _,rfl,R1⟩
 case round =>
  obtain ⟨i,rfl,hi,rfl,HR⟩:=hrel
  clear R1 cx fx lx cx4 hr
  by_cases hlt:i<L.length
  ·obtain ⟨Q,hQ,HI⟩:=HR.out
   obtain ⟨g,rfl⟩:∃ g,vwa=some ⟨g,0,none⟩:=by
    rcases HI.rowW.2 with ⟨e,h0⟩|⟨g,cap,cur,e,-⟩
    ·omega
    ·cases e;exact ⟨g,rfl⟩
   obtain ⟨e0,e1,e2⟩:=entC_get L i hlt
   have c0:=(HI.rowW.cellAt (i*3) (by omega)).trans e0
   have c1:=(HI.rowW.cellAt (i*3+1) (by omega)).trans e1
   have c2:=(HI.rowW.cellAt (i*3+2) (by omega)).trans e2
   obtain ⟨w3,hup,hm3,hu3⟩:=run_mapUpdate (P:=Tryz.prog) (HI.map.alloc (.cells #[.string (lkey L[i].n),.string L[i].id,.int .i64 L[i].by] 146)) Tryz.underlying66 Tryz.underlying9 L[i].id true
   have HNX:Hid (∃ Q,BusyM (L.take (i+1)) Q/\RclS w1 w w.heap.size r (.slice va C.length vc) (.slice (some ⟨g,0,none⟩) L.length vwc) C L Q K sb rb ti tl n N a C L nx (cpg C) w3):=Hd ⟨_,by rw [List.take_succ_eq_append_getElem hlt];exact hQ.put L[i],(HI.below ((Below.refl _ _).alloc (Nat.le_refl _) _)).upd hu3 hm3⟩
   have HLT:=Hd hlt
   have hsm:L.length<=100000:=HL.out
   rw [show kStr.enc L[i].id=.string L[i].id from rfl,show Value.bool true=.bool true from rfl] at hup
   clear HI hQ e0 e1 e2 hm3 hu3 HR
   generalize L[i].by=by_ at *
   generalize lkey L[i].n=ky at *
   generalize L[i].id=id at *
   go_wp2_with fail
   go_roundg (L.length-(i+1))
   case measure=>have:=HLT.out;omega
   case rel=>exact ⟨i+1,rfl,HLT.out,by congr 1,HNX⟩
  ·obtain rfl:i=L.length:=by omega
   obtain ⟨Q,hQ,HI⟩:=HR.out
   rw [List.take_length] at hQ
   have HQ:=Hd hQ
   have z0:=rcl_zero L lim C
   have R2:Hid (RclS w1 w w.heap.size r (.slice va C.length vc) (.slice vwa L.length vwc) C L Q K sb rb ti tl n N (a+2*rclN L lim C 0) (rclC L lim C 0) L nx (cpg (rclC L lim C 0)) wr):=Hd (by rw [z0.1,z0.2];exact HI)
   have hz0:((rclN L lim C 0:Nat):Int)=0:=by rw [z0.2];rfl
   have HZ:=Hd hz0
   clear hQ HI z0 hz0 HR hlt hi
   go_wp2_with fail
   go_loopg [4,48] C.length (fun g s4 s48 wr=>∃ (i:Nat),g=C.length-i/\i<=C.length/\s4=.int .i64 (rclN L lim C i:Int)/\s48=.int .i64 (i:Int)/\Hid (RclS w1 w w.heap.size r (.slice va C.length vc) (.slice vwa L.length vwc) C L Q K sb rb ti tl n N (a+2*rclN L lim C i) (rclC L lim C i) L nx (cpg (rclC L lim C i)) wr))
   case atStart=>exact ⟨0,rfl,Nat.zero_le _,congrArg (Value.int .i64) HZ.out.symm,rfl,R2⟩
   case round =>
    obtain ⟨i,rfl,hi,rfl,rfl,HR⟩:=hrel
    clear R2
    by_cases hlt:i<C.length
    ·obtain ⟨g,rfl⟩:∃ g,va=some ⟨g,0,none⟩:=by
      rcases HR.out.rowA.2 with ⟨e,h0⟩|⟨g,cap,cur,e,-⟩
      ·omega
      ·cases e;exact ⟨g,rfl⟩
     obtain ⟨c,hc⟩:=exE (C[i])
     have HCI:=Hd hc
     have hat:(chkC C)[i*3]?=some (.string c.id)/\(chkC C)[i*3+1]?=some (.int .i64 (c.text.size:Int))/\(chkC C)[i*3+2]?=some (.int .i64 c.cnt):=by rw [<-hc];exact chkC_at hlt
     have HST:Hid ((¬((rclN L lim C i:Int)<lim/\c.cnt<=0/\busyL L c.id=false)->rclC L lim C (i+1)=rclC L lim C i/\rclN L lim C (i+1)=rclN L lim C i)/\(((rclN L lim C i:Int)<lim/\c.cnt<=0/\busyL L c.id=false)->rclN L lim C (i+1)=rclN L lim C i+1/\∃ K R,rclC L lim C i=K++c::R/\rclC L lim C (i+1)=K++R)):=Hd (by rw [<-hc];exact rcl_step hlt)
     have c0:=(HR.out.rowA.cellAt (i*3) (by omega)).trans hat.1
     have c1:=(HR.out.rowA.cellAt (i*3+1) (by omega)).trans hat.2.1
     have c2:=(HR.out.rowA.cellAt (i*3+2) (by omega)).trans hat.2.2
     have HSP:=Hd (rcl_stop (L:=L) (lim:=lim) (C:=C) (i:=i))
     have hln:=rcl_len L lim C i
     have HLT:=Hd hlt
     have hC5:C.length<=500:=by have:=HN.out;omega
     clear hc hat
     obtain ⟨nn,hnn⟩:=exE (rclN L lim C i)
     have HNN:=Hd hnn
     rw [hnn] at hln HST HSP HR
     rw [hnn]
     clear hnn
     by_cases hstop:lim<=(nn:Int)
     ·have d0:decide ((nn:Int) >= lim)=true:=decide_eq_true hstop
      obtain ⟨hz1,hz2⟩:=HSP.out hstop
      rw [hz2,hz1] at HR
      have hnn2:nn=(reclK L lim 0 C).2:=hz2
      obtain ⟨cx,fx,lx⟩:=HR.out.cell
      have HFI:Hid (∀ o,Chs w1 w0 ((wr.setCell ⟨w.heap.size,0,none⟩ (.int .i64 0)).alloc o) K sb rb ti tl n N (a+2*(reclK L lim 0 C).2) (reclK L lim 0 C).1 L nx (cpg (reclK L lim 0 C).1)):=Hd fun o=>(HR.out.fin HH.out.kept).1.below ((Below.refl _ _).alloc (Nat.le_refl _) o)
      have hfin:∀ o,((wr.setCell ⟨w.heap.size,0,none⟩ (.int .i64 0)).alloc o).cell? ⟨w.heap.size,0,none⟩=some (.int .i64 0):=fun o=>((Below.refl (wr.setCell ⟨w.heap.size,0,none⟩ (.int .i64 0)).heap.size _).alloc (Nat.le_refl _) o).cell (p:=⟨w.heap.size,0,none⟩) (by simpa using lx) |>.trans (HR.out.fin HH.out.kept).2
      clear HR hz1 hz2 HST HSP hstop hln
      obtain ⟨qn,hqn⟩:=exE ((reclK L lim 0 C).2)
      obtain ⟨qC,hqC⟩:=exE ((reclK L lim 0 C).1)
      rw [hqn] at hnn2
      rw [hqn,hqC] at HFI
      have HQN:=Hd hqn
      have HQC:=Hd hqC
      subst hnn2
      clear hqn hqC
      generalize c.cnt=z2 at *
      generalize (c.text.size:Int)=z1 at *
      generalize c.id=id at *
      go_wp2_with fail
      refine leaves_cons (f:=60) (args:=#[.pointer (some ⟨sb,0,none⟩),.int .i64 (k:Int),.pointer (some ⟨w.heap.size,0,none⟩)]) (by simp) (by simp [go_sem]) ?_
      refine (undo_d _ _ _ _ _ (hfin _)).mono ?_
      rintro e u' w9 ⟨rfl,rfl,rfl⟩
      have HG:=HFI.out (.cells #[.string id,.int .i64 z1,.int .i64 z2] 106)
      simp [Leaves,settle,results,Tryz.results48,go_sem,hfin]
      rw [HQN.out,HQC.out]
      exact ⟨rfl,Hd HG⟩
     ·have d0:decide ((nn:Int) >= lim)=false:=decide_eq_false hstop
      have hlk:=run_lookup (P:=Tryz.prog) (HR.out.map.alloc (.cells #[.string c.id,.int .i64 (c.text.size:Int),.int .i64 c.cnt] 106)) Tryz.underlying66 Tryz.underlying9 (z:=.bool false) (by rfl) c.id
      rw [HQ.out c.id,show kStr.enc c.id=.string c.id from rfl] at hlk
      by_cases hcnt:0<c.cnt
      ·have d1:decide (c.cnt > 0)=true:=decide_eq_true hcnt
       have hz:=HST.out.1 fun h=>by omega
       have HG:Hid (RclS w1 w w.heap.size r (.slice (some ⟨g,0,none⟩) C.length vc) (.slice vwa L.length vwc) C L Q K sb rb ti tl n N (a+2*rclN L lim C (i+1)) (rclC L lim C (i+1)) L nx (cpg (rclC L lim C (i+1))) (wr.alloc (.cells #[.string c.id,.int .i64 (c.text.size:Int),.int .i64 c.cnt] 106))):=Hd (by rw [hz.1,hz.2];exact HR.out.below ((Below.refl _ _).alloc (Nat.le_refl _) _))
       have HZN:=Hd hz.2
       clear hz HST HSP hstop hln hlk HR hcnt
       generalize c.cnt=z2 at *
       generalize (c.text.size:Int)=z1 at *
       generalize c.id=id at *
       go_wp2_with fail
       go_roundg (C.length-(i+1))
       case measure=>have:=HLT.out;omega
       case rel=>exact ⟨i+1,rfl,HLT.out,by rw [HZN.out],by congr 1,HG⟩
      ·have d1:decide (c.cnt > 0)=false:=decide_eq_false hcnt
       cases hb:busyL L c.id with
       | true =>
         rw [hb,if_pos rfl] at hlk
         have hz:=HST.out.1 fun h=>by rw [hb] at h;exact absurd h.2.2 (by simp)
         have HG:Hid (RclS w1 w w.heap.size r (.slice (some ⟨g,0,none⟩) C.length vc) (.slice vwa L.length vwc) C L Q K sb rb ti tl n N (a+2*rclN L lim C (i+1)) (rclC L lim C (i+1)) L nx (cpg (rclC L lim C (i+1))) (wr.alloc (.cells #[.string c.id,.int .i64 (c.text.size:Int),.int .i64 c.cnt] 106))):=Hd (by rw [hz.1,hz.2];exact HR.out.below ((Below.refl _ _).alloc (Nat.le_refl _) _))
         have HZN:=Hd hz.2
         clear hz HST HSP hstop hln HR hcnt hb
         have hlk2:(Instr.lookup 66 (.map (some r)) (.string c.id) false).run Tryz.prog (wr.alloc (.cells #[.string c.id,.int .i64 (c.text.size:Int),.int .i64 c.cnt] 106))=.ok (.bool true) (wr.alloc (.cells #[.string c.id,.int .i64 (c.text.size:Int),.int .i64 c.cnt] 106)):=hlk
         clear hlk
         generalize c.cnt=z2 at *
         generalize (c.text.size:Int)=z1 at *
         generalize c.id=id at *
         go_wp2_with fail
         go_roundg (C.length-(i+1))
         case measure=>have:=HLT.out;omega
         case rel=>exact ⟨i+1,rfl,HLT.out,by rw [HZN.out],by congr 1,HG⟩
       | false =>
         rw [hb,if_neg (by simp)] at hlk
         obtain ⟨hz1,K1,R1,hz2,hz3⟩:=HST.out.2 ⟨by omega,by omega,hb⟩
         have hlen1:=rcl_len L lim C (i+1)
         rw [hz1] at hlen1
         rw [hz2] at HR
         have hNN:=HN.out
         have hsrt:CSrt (K1++c::R1):=HR.out.st.ok.2.1
         have hcat:cAt (K1++c::R1) c.id=some c:=cAt_of hsrt (by simp)
         have hok:=HR.out.st.ok.1 c (by simp)
         have hid33:=hok.id
         have ht128:=hok.t2
         have N1:=Hd (HR.out.new (.cells #[.string c.id,.int .i64 (c.text.size:Int),.int .i64 c.cnt] 106))
         have FY:=find_yes c.id c (Hd N1.out.st) ⟨by omega,hNN.2⟩ (by omega) hcat
         rw [show c.v=.agg #[.int .i64 (c.page:Int),.int .i64 (c.text.size:Int),.int .i64 c.cnt] from rfl] at FY
         have DP:Hid (∀ wA K3 W,RclS w1 wA w.heap.size r (.slice (some ⟨g,0,none⟩) C.length vc) (.slice vwa L.length vwc) C L Q K3 sb rb ti tl n N (a+2*nn) (K1++c::R1) L nx (cpg (K1++c::R1)) W->Calls Tryz.prog 103 #[.pointer (some ⟨rb,0,none⟩),.int .i64 (c.page:Int)] W fun e w'=>e=.returned (.int .i64 0)/\RclS w1 wA w.heap.size r (.slice (some ⟨g,0,none⟩) C.length vc) (.slice vwa L.length vwc) C L Q K3 sb rb ti tl n N (a+2*nn+1) (K1++c::R1) L nx (cpg (K1++R1)) w'):=Hd fun wA K3 W hW=>by
          refine (blob_drop w1 W W _ sb rb ti tl n N (a+2*nn) nx _ L (cpg (K1++R1)) c.page c.text ht128 (Hd (hW.st.perm (cpg_mid K1 R1 c))) (by omega)).mono ?_
          rintro e w' ⟨rfl,hE⟩
          exact ⟨rfl,hW.step hE.out⟩
         have DL:Hid (∀ wA K3 W,RclS w1 wA w.heap.size r (.slice (some ⟨g,0,none⟩) C.length vc) (.slice vwa L.length vwc) C L Q K3 sb rb ti tl n N (a+2*nn+1) (K1++c::R1) L nx (cpg (K1++R1)) W->Calls Tryz.prog 74 #[.pointer (some ⟨ti,0,none⟩),.string c.id] W fun e w'=>e=.returned (.tuple #[.bool true,.int .i64 0])/\RclS w1 wA w.heap.size r (.slice (some ⟨g,0,none⟩) C.length vc) (.slice vwa L.length vwc) C L Q K3 sb rb ti tl n N (a+2*(nn+1)) (K1++R1) L nx (cpg (K1++R1)) w'):=Hd fun wA K3 W hW=>by
          refine (idx_del w1 W W _ sb rb ti tl n N (a+2*nn+1) nx _ L (cpg (K1++R1)) c.id c (Hd hW.st) (by omega) hcat).mono ?_
          rintro e w' ⟨rfl,hE⟩
          obtain ⟨C',h1,h2⟩:=hE.out
          have h3:=h2.mid hsrt
          subst h3
          exact ⟨rfl,hW.step h1⟩
         have HEND:Hid (∀ W,RclS w1 w w.heap.size r (.slice (some ⟨g,0,none⟩) C.length vc) (.slice vwa L.length vwc) C L Q K sb rb ti tl n N (a+2*(nn+1)) (K1++R1) L nx (cpg (K1++R1)) W->RclS w1 w w.heap.size r (.slice (some ⟨g,0,none⟩) C.length vc) (.slice vwa L.length vwc) C L Q K sb rb ti tl n N (a+2*rclN L lim C (i+1)) (rclC L lim C (i+1)) L nx (cpg (rclC L lim C (i+1))) W):=Hd fun W hW=>by rw [hz1,hz3];exact hW
         have HZN:=Hd hz1
         have hlk2:(Instr.lookup 66 (.map (some r)) (.string c.id) false).run Tryz.prog (wr.alloc (.cells #[.string c.id,.int .i64 (c.text.size:Int),.int .i64 c.cnt] 106))=.ok (.bool false) (wr.alloc (.cells #[.string c.id,.int .i64 (c.text.size:Int),.int .i64 c.cnt] 106)):=hlk
         have HR':=Hd HR.out
         have nn1:Hid (wrap64 ((nn:Int)+1)=((nn+1:Nat):Int)):=Hd (by unfold wrap64;push_cast;omega)
         have hnn5:nn<=500:=by omega
         clear hz1 hz2 hz3 HST HSP hstop hln HR hcnt hb hlk hlen1 hsrt hcat hok hid33 ht128 HCI
         generalize c.page=z0 at *
         generalize c.cnt=z2 at *
         generalize (c.text.size:Int)=z1 at *
         generalize c.id=id at *
         have blk:Hid ((wr.alloc (.cells #[.string id,.int .i64 z1,.int .i64 z2] 106)).heap[wr.heap.size]?=some (.cells #[.string id,.int .i64 z1,.int .i64 z2] 106 (0,0))):=Hd (heap_alloc_new _ _)
         go_wp2_with fail
         refine FY.mono ?_
         rintro e w6 ⟨rfl,G6⟩
         have N6:=Hd (N1.out.step G6.out)
         have N7:=Hd (N6.out.new (.cells #[.int .i64 (z0:Int),.int .i64 z1,.int .i64 z2] 124))
         have CY:Hid (∀ W C2 a2 X2,RclS w1 (w6.alloc (.cells #[.int .i64 (z0:Int),.int .i64 z1,.int .i64 z2] 124)) w.heap.size r (.slice (some ⟨g,0,none⟩) C.length vc) (.slice vwa L.length vwc) C L Q (fun k=>(K k\/k=wr.heap.size)\/k=w6.heap.size) sb rb ti tl n N a2 C2 L nx X2 W->(W.cell? ⟨sb,0,none⟩=some (.pointer (some ⟨rb,0,none⟩))/\W.cell? ⟨w6.heap.size,0,none⟩=some (.int .i64 (z0:Int)))/\W.cell? ⟨sb,1,none⟩=some (.pointer (some ⟨ti,0,none⟩))/\W.cell? ⟨wr.heap.size,0,none⟩=some (.string id)):=Hd fun W C2 a2 X2 hW=>by
          have hs:=hW.st.sbk.cells
          have b1:W.heap[w6.heap.size]?=some (.cells #[.int .i64 (z0:Int),.int .i64 z1,.int .i64 z2] 124 (0,0)):=(hW.kp _ (.inr rfl)).trans (heap_alloc_new _ _)
          have y6:w6.heap[wr.heap.size]?=some (.cells #[.string id,.int .i64 z1,.int .i64 z2] 106 (0,0)):=(N6.out.kp _ (.inr rfl)).trans blk.out
          have b2:W.heap[wr.heap.size]?=some (.cells #[.string id,.int .i64 z1,.int .i64 z2] 106 (0,0)):=(hW.kp _ (.inl (.inr rfl))).trans ((heap_alloc_lt _ (lt_of_heap y6)).trans y6)
          exact ⟨⟨hs.1,cell_lit b1 rfl⟩,hs.2.1,cell_lit b2 rfl⟩
         obtain ⟨⟨t0,t1⟩,t2,t3⟩:=CY.out _ _ _ _ N7.out
         have N7d:=Hd (N7.out.below (Below.refl _ _).drew)
         have D7:Calls Tryz.prog 103 #[.pointer (some ⟨rb,0,none⟩),.int .i64 (z0:Int)] (w6.alloc (.cells #[.int .i64 (z0:Int),.int .i64 z1,.int .i64 z2] 124)).drew fun e w'=>e=.returned (.int .i64 0)/\(w'.cell? ⟨sb,0,none⟩=some (.pointer (some ⟨rb,0,none⟩))/\w'.cell? ⟨w6.heap.size,0,none⟩=some (.int .i64 (z0:Int)))/\Hid (RclS w1 (w6.alloc (.cells #[.int .i64 (z0:Int),.int .i64 z1,.int .i64 z2] 124)) w.heap.size r (.slice (some ⟨g,0,none⟩) C.length vc) (.slice vwa L.length vwc) C L Q (fun k=>(K k\/k=wr.heap.size)\/k=w6.heap.size) sb rb ti tl n N (a+2*nn+1) (K1++c::R1) L nx (cpg (K1++R1)) w'):=by
          refine (DP.out _ _ _ N7d.out).mono ?_
          rintro e w' ⟨rfl,h⟩
          exact ⟨rfl,(CY.out _ _ _ _ h).1,Hd h⟩
         have D8:Hid (∀ W,RclS w1 (w6.alloc (.cells #[.int .i64 (z0:Int),.int .i64 z1,.int .i64 z2] 124)) w.heap.size r (.slice (some ⟨g,0,none⟩) C.length vc) (.slice vwa L.length vwc) C L Q (fun k=>(K k\/k=wr.heap.size)\/k=w6.heap.size) sb rb ti tl n N (a+2*nn+1) (K1++c::R1) L nx (cpg (K1++R1)) W->Calls Tryz.prog 74 #[.pointer (some ⟨ti,0,none⟩),.string id] W fun e w'=>e=.returned (.tuple #[.bool true,.int .i64 0])/\(w'.cell? ⟨sb,1,none⟩=some (.pointer (some ⟨ti,0,none⟩))/\w'.cell? ⟨wr.heap.size,0,none⟩=some (.string id))/\Hid (RclS w1 (w6.alloc (.cells #[.int .i64 (z0:Int),.int .i64 z1,.int .i64 z2] 124)) w.heap.size r (.slice (some ⟨g,0,none⟩) C.length vc) (.slice vwa L.length vwc) C L Q (fun k=>(K k\/k=wr.heap.size)\/k=w6.heap.size) sb rb ti tl n N (a+2*(nn+1)) (K1++R1) L nx (cpg (K1++R1)) w')):=Hd fun W hW=>by
          refine (DL.out _ _ _ hW).mono ?_
          rintro e w' ⟨rfl,h⟩
          exact ⟨rfl,(CY.out _ _ _ _ h).2,Hd h⟩
         clear FY G6 hlk2 DP DL
         go_wp2_with fail
         go_region_held3 (fun w'=>w'.cell? ⟨sb,0,none⟩=some (.pointer (some ⟨rb,0,none⟩))/\w'.cell? ⟨w6.heap.size,0,none⟩=some (.int .i64 (z0:Int))) (go_keep) ((first
          | (go_at_call 103
             refine Calls.at_args D7 (by with_reducible rfl) ?_
             rintro e w8 ⟨rfl,hk8,N8⟩)))
         all_goals (
          clear t0 t1 t2 t3
          obtain ⟨⟨t0,t1⟩,t2,t3⟩:=CY.out _ _ _ _ N8.out
          have N8d:=Hd (N8.out.below (Below.refl _ _).drew)
          have E8:=D8.out _ N8d.out
          go_wp2_with fail
          go_region_held3 (fun w'=>w'.cell? ⟨sb,1,none⟩=some (.pointer (some ⟨ti,0,none⟩))/\w'.cell? ⟨wr.heap.size,0,none⟩=some (.string id)) (go_keep) ((first
           | (go_at_call 74
              refine Calls.at_args E8 (by with_reducible rfl) ?_
              rintro e w9 ⟨rfl,hk9,N9⟩))))
         all_goals (
          have HG:=Hd (HEND.out _ (HR'.out.old (N6.out.old N9.out)))
          go_wp2_with fail
          go_roundg (C.length-(i+1))
          case measure=>have:=HLT.out;omega
          case rel=>exact ⟨i+1,rfl,HLT.out,by rw [HZN.out];congr 1,by congr 1,HG⟩)
    ·obtain rfl:i=C.length:=by omega
     obtain ⟨hz1,hz2⟩:=rcl_end L lim C
     obtain ⟨cx,fx,lx⟩:=HR.out.cell
     rw [hz1,hz2] at HR
     rw [hz2]
     have HFI:=Hd (HR.out.fin HH.out.kept).1
     have hfin:=(HR.out.fin HH.out.kept).2
     obtain ⟨qn,hqn⟩:=exE ((reclK L lim 0 C).2)
     obtain ⟨qC,hqC⟩:=exE ((reclK L lim 0 C).1)
     rw [hqn,hqC] at HFI
     rw [hqn]
     have HQN:=Hd hqn
     have HQC:=Hd hqC
     clear HR hz1 hz2 hqn hqC hlt hi
     go_wp2_with fail
     refine leaves_cons (f:=60) (args:=#[.pointer (some ⟨sb,0,none⟩),.int .i64 (k:Int),.pointer (some ⟨w.heap.size,0,none⟩)]) (by simp) (by simp [go_sem]) ?_
     refine (undo_d _ _ _ _ _ hfin).mono ?_
     rintro e u' w9 ⟨rfl,rfl,rfl⟩
     have HG:=HFI.out
     simp [Leaves,settle,results,Tryz.results48,go_sem,hfin]
     rw [HQN.out,HQC.out]
     exact ⟨rfl,Hd HG⟩
end
set_option maxHeartbeats 4000000
theorem turn_ix (k:Int) (n:Nat) (hn:0<n) (hb:n<=1000000):∃ (r:Int) (i:Nat),Int.tmod k n=r/\wrap64 (r+n)=r+n/\Int.tmod (r+n) n=(i:Int)/\i<n:=by
 have h1:-(n:Int)<Int.tmod k n:=Int.lt_tmod_of_pos k (by omega)
 have h2:Int.tmod k n<n:=Int.tmod_lt_of_pos k (by omega)
 have h3:0<=Int.tmod (Int.tmod k n+n) n:=Int.tmod_nonneg _ (by omega)
 have h4:Int.tmod (Int.tmod k n+n) n<n:=Int.tmod_lt_of_pos _ (by omega)
 exact ⟨_,(Int.tmod (Int.tmod k n+n) n).toNat,rfl,by unfold wrap64;omega,by omega,by omega⟩
theorem nameL_c (v:Value) (C:List RCk) (L:List REn) (p:AcT) (w:World) (h:StR w v C L) (hC:C.length<=100000) :
 Calls Tryz.prog 98 #[v,actV p] w fun e w'=>∃ id,e=.returned (.string id)/\Hid (Below w.heap.size w w'):=by
 obtain ⟨what,n,by_,t,raw⟩:=p
 obtain ⟨va,vl,rfl,h1,h2⟩:=h
 obtain ⟨aA,cA,rfl,-⟩:=h1.form
 have hb0:Below w.heap.size w (w.alloc (.cells #[.slice aA C.length cA,vl] 52)):=(Below.refl _ _).alloc (Nat.le_refl _) _
 obtain ⟨wb,hwb⟩:=exE ((w.alloc (.cells #[.slice aA C.length cA,vl] 52)).alloc (.cells #[.int .i64 what,.int .i64 n,.int .i64 by_,.string t,.bool raw] 96))
 have HB:Hid (Below w.heap.size w wb):=Hd (by rw [<-hwb];exact hb0.alloc hb0.size _)
 have k0:wb.heap[w.heap.size]?=some (.cells #[.slice aA C.length cA,vl] 52 (0,0)):=by rw [<-hwb,heap_alloc_lt _ (by simp)];exact heap_alloc_new _ _
 have k1:wb.heap[w.heap.size+1]?=some (.cells #[.int .i64 what,.int .i64 n,.int .i64 by_,.string t,.bool raw] 96 (0,0)):=by
  rw [<-hwb]
  have:=heap_alloc_new (w.alloc (.cells #[.slice aA C.length cA,vl] 52)) (.cells #[.int .i64 what,.int .i64 n,.int .i64 by_,.string t,.bool raw] 96)
  simpa using this
 have x0:=cell_lit k0 (i:=0) rfl
 have y1:=cell_lit k1 (i:=1) rfl
 have y3:=cell_lit k1 (i:=3) rfl
 have y4:=cell_lit k1 (i:=4) rfl
 have HV:=Hd h1
 unfold actV
 simp only
 clear h1 h2 hb0 k0 k1
 cases raw with
 | true =>
   go_enter Tryz.func98,Tryz.ntmps98
   go_wp2_with fail
   go_ret
   exact ⟨_,rfl,HB⟩
 | false =>
   by_cases hl:C.length=0
   ·have hz:((C.length:Int) == 0)=true:=by rw [hl];rfl
    clear hl
    go_enter Tryz.func98,Tryz.ntmps98
    go_wp2_with fail
    go_ret
    exact ⟨_,rfl,HB⟩
   ·obtain ⟨r,i,hr,e1,hr2,hi⟩:=turn_ix n C.length (by omega) (by omega)
    obtain ⟨c0,-,-⟩:=ckC_get hi
    obtain ⟨b,off,rfl,hb,hcell⟩:=HV.out.get c0
    have q0:=(HB.out.cell (p:=⟨b,off+i*3,none⟩) hb).trans (hcell _ _ c0)
    have hz:((C.length:Int) == 0)=false:=beq_eq_false_iff_ne.2 (by omega)
    have hC5:C.length<=100000:=hC
    clear c0 hcell hb HV
    generalize C[i].1=id at *
    go_enter Tryz.func98,Tryz.ntmps98
    go_wp2_with fail
    clear hwb
    go_region
    go_wp2_with fail
    go_ret
    exact ⟨_,rfl,Hd HB.out.drew⟩
theorem RnL.laid {w1 wr w4 w6:World} {B sb rb ti tl k a a' nx nx' nb:Nat} {v0 v1 x0 x1:Value} {K:Nat->Prop} {C C':List Ck} {L L':List Lg} (h:RnL w1 B sb rb ti tl k v0 v1 K C L nx a wr) (q:Chs w1 wr w4 K sb rb ti tl 30000 1000 a' C' L' nx' (cpg C')) (b6:Below w4.heap.size w4 w6) (r6:StR w6 (.agg #[x0,x1]) (rC C') (rL L')) (l6:∀ D,StLoc D (.agg #[v0,v1])->StLoc (fun b=>D b\/w4.heap.size<=b) (.agg #[x0,x1]))
 (hb:RBud (k+1) a' C' L') (hnb:w6.heap[nb]?=some (.cells #[x0,x1] 52 (0,0))) :
 (w6.cell? ⟨nb,0,none⟩=some x0/\w6.cell? ⟨nb,1,none⟩=some x1) /\
 (w6.cell? ⟨B,0,none⟩=some v0/\w6.frozen? ⟨B,0,none⟩=false/\(w6.setCell ⟨B,0,none⟩ x0).cell? ⟨B,1,none⟩=some v1/\(w6.setCell ⟨B,0,none⟩ x0).frozen? ⟨B,1,none⟩=false) /\
 Hid (∃ v0' v1' K' C2 L2 nx2 a2,RnL w1 B sb rb ti tl (k+1) v0' v1' K' C2 L2 nx2 a2 ((w6.setCell ⟨B,0,none⟩ x0).setCell ⟨B,1,none⟩ x1)):=by
 have hB4:B<w4.heap.size:=q.klt h.kb
 have hbx:w6.heap[B]?=some (.cells #[v0,v1] 52 (0,0)):=(b6.block B hB4).trans ((q.kept B h.kb).trans h.box)
 have hs1:=heap_set_lit (i:=0) hbx x0
 obtain ⟨K',hR⟩:=h.next q b6 r6 l6 hb
 exact ⟨⟨cell_lit hnb rfl,cell_lit hnb rfl⟩,⟨cell_lit hbx rfl,frozen_lit hbx 0,cell_lit hs1 rfl,frozen_lit hs1 1⟩,Hd ⟨_,_,K',_,_,_,_,hR⟩⟩
def Nxt (w1:World) (B sb rb ti tl k nb:Nat) (v0 v1 x0 x1:Value) (w6:World):Prop :=
 (w6.cell? ⟨nb,0,none⟩=some x0/\w6.cell? ⟨nb,1,none⟩=some x1) /\
 (w6.cell? ⟨B,0,none⟩=some v0/\w6.frozen? ⟨B,0,none⟩=false/\(w6.setCell ⟨B,0,none⟩ x0).cell? ⟨B,1,none⟩=some v1/\(w6.setCell ⟨B,0,none⟩ x0).frozen? ⟨B,1,none⟩=false) /\
 Hid (∃ v0' v1' K' C2 L2 nx2 a2,RnL w1 B sb rb ti tl (k+1) v0' v1' K' C2 L2 nx2 a2 ((w6.setCell ⟨B,0,none⟩ x0).setCell ⟨B,1,none⟩ x1))
theorem RnL.acts {w1 wr w4:World} {B sb rb ti tl k a a' nx nx':Nat} {v0 v1:Value} {K:Nat->Prop} {C C':List Ck} {L L':List Lg} (h:RnL w1 B sb rb ti tl k v0 v1 K C L nx a wr) (q:Chs w1 wr w4 K sb rb ti tl 30000 1000 a' C' L' nx' (cpg C'))
 (hb:RBud (k+1) a' C' L') :
 (∀ w5 x0 x1,StR w5 (.agg #[x0,x1]) (rC C') (rL L')->Below w4.heap.size w4 w5->(∀ D,StLoc D (.agg #[v0,v1])->StLoc (fun b=>D b\/w4.heap.size<=b) (.agg #[x0,x1]))->∀ o,o=.cells #[x0,x1] 52->Nxt w1 B sb rb ti tl k w5.heap.size v0 v1 x0 x1 (w5.alloc o)) /\
 (∀ wz w5 x0 x1,wz=(w4.alloc (.cells #[.slice none 0 0,.slice none 0 0] 52))->StR w5 (.agg #[x0,x1]) (rC C') (rL L')->Below wz.heap.size wz w5->(∀ D,StLoc D (.agg #[v0,v1])->StLoc (fun b=>D b\/wz.heap.size<=b) (.agg #[x0,x1])) ->
   ((w5.cell? ⟨w4.heap.size,0,none⟩=some (.slice none 0 0)/\w5.frozen? ⟨w4.heap.size,0,none⟩=false)/\((w5.setCell ⟨w4.heap.size,0,none⟩ x0).cell? ⟨w4.heap.size,1,none⟩=some (.slice none 0 0)/\(w5.setCell ⟨w4.heap.size,0,none⟩ x0).frozen? ⟨w4.heap.size,1,none⟩=false)) /\
   Nxt w1 B sb rb ti tl k w4.heap.size v0 v1 x0 x1 ((w5.setCell ⟨w4.heap.size,0,none⟩ x0).setCell ⟨w4.heap.size,1,none⟩ x1)):=by
 refine ⟨fun w5 x0 x1 r5 b5 l5 o ho=>?_,fun wz w5 x0 x1 hz r5 b5 l5=>?_⟩
 ·subst ho
  have b6:Below w5.heap.size w5 (w5.alloc (.cells #[x0,x1] 52)):=(Below.refl _ _).alloc (Nat.le_refl _) _
  exact h.laid q (b5.trans (b6.mono b5.size)) (r5.below b6) l5 hb (heap_alloc_new _ _)
 ·have hzs:wz.heap.size=w4.heap.size+1:=by rw [hz];simp
  have bz:Below w4.heap.size w4 wz:=by rw [hz];exact (Below.refl _ _).alloc (Nat.le_refl _) _
  have hnz:wz.heap[w4.heap.size]?=some (.cells #[.slice none 0 0,.slice none 0 0] 52 (0,0)):=by rw [hz];exact heap_alloc_new _ _
  have hn5:=(b5.block _ (lt_of_heap hnz)).trans hnz
  have hs1:=heap_set_lit (i:=0) hn5 x0
  have hs2:=heap_set_lit (i:=1) hs1 x1
  have b45:Below w4.heap.size w4 w5:=bz.trans (b5.mono (by omega))
  have b46:Below w4.heap.size w4 ((w5.setCell ⟨w4.heap.size,0,none⟩ x0).setCell ⟨w4.heap.size,1,none⟩ x1):=(b45.setCell (p:=⟨w4.heap.size,0,none⟩) (Nat.le_refl _) _).setCell (p:=⟨w4.heap.size,1,none⟩) (Nat.le_refl _) _
  have hl:=l5 _ h.loc
  have hn:¬((K w4.heap.size/\w4.heap.size≠B)\/wz.heap.size<=w4.heap.size):=by
   rintro (⟨hk,-⟩|h2)
   ·have:=q.klt hk;omega
   ·omega
  refine ⟨⟨⟨cell_lit hn5 rfl,frozen_lit hn5 0⟩,⟨cell_lit hs1 rfl,frozen_lit hs1 1⟩⟩,h.laid q b46 ((r5.setLoc hl hn x0).setLoc hl hn x1) (fun D hD=>(l5 D hD).mono fun b hb=>hb.imp id fun h=>by omega) hb hs2⟩
theorem RnL.new {w1 wr:World} {B sb rb ti tl k a nx:Nat} {v0 v1:Value} {K:Nat->Prop} {C:List Ck} {L:List Lg} (h:RnL w1 B sb rb ti tl k v0 v1 K C L nx a wr) (o:Obj):RnL w1 B sb rb ti tl k v0 v1 (fun j=>K j\/j=wr.heap.size) C L nx a (wr.alloc o):=by
 have hb:Below wr.heap.size wr (wr.alloc o):=(Below.refl _ _).alloc (Nat.le_refl _) _
 exact ⟨h.st.new hb wr.heap.size (Nat.le_refl _) (by simp),(hb.block _ (lt_of_heap h.box)).trans h.box,.inl h.kb,h.ref.below hb,h.loc.mono fun j hj=>⟨.inl hj.1,hj.2⟩,h.lo,h.bud⟩
set_option maxHeartbeats 8000000
def actO (what n by_:Int) (t:ByteArray) (raw:Bool):Obj:=.cells #[.int .i64 what,.int .i64 n,.int .i64 by_,.string t,.bool raw] 96
theorem act_cells {W1 W:World} {y:Nat} {K:Nat->Prop} {what n by_:Int} {t:ByteArray} {raw:Bool} (hk:Kept (fun j=>K j\/j=y) W1 W) (h:W1.heap[y]?=some (actO what n by_ t raw)):W.cell? ⟨y,0,none⟩=some (.int .i64 what)/\W.cell? ⟨y,1,none⟩=some (.int .i64 n)/\W.cell? ⟨y,2,none⟩=some (.int .i64 by_)/\W.cell? ⟨y,3,none⟩=some (.string t)/\W.cell? ⟨y,4,none⟩=some (.bool raw):=by
 have hb:=(hk y (.inr rfl)).trans h
 exact ⟨cell_lit hb rfl,cell_lit hb rfl,cell_lit hb rfl,cell_lit hb rfl,cell_lit hb rfl⟩
def ActS (B y:Nat) (v0 v1:Value) (what n by_:Int) (t:ByteArray) (raw:Bool) (W:World):Prop :=
 (W.cell? ⟨B,0,none⟩=some v0/\W.cell? ⟨B,1,none⟩=some v1/\W.cell? ⟨y,0,none⟩=some (.int .i64 what)/\W.cell? ⟨y,1,none⟩=some (.int .i64 n)/\W.cell? ⟨y,2,none⟩=some (.int .i64 by_)/\W.cell? ⟨y,3,none⟩=some (.string t)/\W.cell? ⟨y,4,none⟩=some (.bool raw))
theorem ActS.of {W:World} {B y:Nat} {v0 v1:Value} {what n by_:Int} {t:ByteArray} {raw:Bool} (h1:W.heap[B]?=some (.cells #[v0,v1] 52 (0,0))) (h2:W.heap[y]?=some (actO what n by_ t raw)):ActS B y v0 v1 what n by_ t raw W :=
 ⟨cell_lit h1 rfl,cell_lit h1 rfl,cell_lit h2 rfl,cell_lit h2 rfl,cell_lit h2 rfl,cell_lit h2 rfl,cell_lit h2 rfl⟩
theorem RnL.calls {w1 wr w4:World} {B sb rb ti tl k a a' nx nx' y:Nat} {v0 v1:Value} {K:Nat->Prop} {C C':List Ck} {L L':List Lg} {what n by_:Int} {t:ByteArray} {raw:Bool} {fn:Nat} {args:Array Value} {rt:Value->Value}
 (h:RnL w1 B sb rb ti tl k v0 v1 (fun j=>K j\/j=y) C L nx a wr) (q0:Chs w1 wr w4 (fun j=>K j\/j=y) sb rb ti tl 30000 1000 a' C' L' nx' (cpg C')) (hy:wr.heap[y]?=some (actO what n by_ t raw))
 (hb:RBud (k+1) a' C' L')
 (RP:∀ W,StR W (.agg #[v0,v1]) (rC C) (rL L)->Calls Tryz.prog fn args W fun e w'=>∃ v',e=.returned (rt v')/\Hid ((StR w' v' (rC C') (rL L')/\Below W.heap.size W w')/\∀ D,StLoc D (.agg #[v0,v1])->StLoc (fun b=>D b\/W.heap.size<=b) v')) :
 ActS B y v0 v1 what n by_ t raw w4.drew/\(∀ o,ActS B y v0 v1 what n by_ t raw (w4.drew.alloc o)) /\
 (Calls Tryz.prog fn args w4.drew fun e w'=>∃ g0 n0 c0 g1 n1 c1,e=.returned (rt (.agg #[.slice g0 n0 c0,.slice g1 n1 c1]))/\ActS B y v0 v1 what n by_ t raw w'/\(∀ o,ActS B y v0 v1 what n by_ t raw (w'.alloc o))/\Hid (∀ o,o=.cells #[.slice g0 n0 c0,.slice g1 n1 c1] 52->Nxt w1 B sb rb ti tl k w'.heap.size v0 v1 (.slice g0 n0 c0) (.slice g1 n1 c1) (w'.alloc o))) /\
 (Calls Tryz.prog fn args (w4.drew.alloc (.cells #[.slice none 0 0,.slice none 0 0] 52)) fun e w'=>∃ g0 n0 c0 g1 n1 c1,e=.returned (rt (.agg #[.slice g0 n0 c0,.slice g1 n1 c1]))/\ActS B y v0 v1 what n by_ t raw w'/\ActS B y v0 v1 what n by_ t raw ((w'.setCell ⟨w4.heap.size,0,none⟩ (.slice g0 n0 c0)).setCell ⟨w4.heap.size,1,none⟩ (.slice g1 n1 c1)) /\
   ((w'.cell? ⟨w4.heap.size,0,none⟩=some (.slice none 0 0)/\w'.frozen? ⟨w4.heap.size,0,none⟩=false)/\((w'.setCell ⟨w4.heap.size,0,none⟩ (.slice g0 n0 c0)).cell? ⟨w4.heap.size,1,none⟩=some (.slice none 0 0)/\(w'.setCell ⟨w4.heap.size,0,none⟩ (.slice g0 n0 c0)).frozen? ⟨w4.heap.size,1,none⟩=false)) /\
   Hid (Nxt w1 B sb rb ti tl k w4.heap.size v0 v1 (.slice g0 n0 c0) (.slice g1 n1 c1) ((w'.setCell ⟨w4.heap.size,0,none⟩ (.slice g0 n0 c0)).setCell ⟨w4.heap.size,1,none⟩ (.slice g1 n1 c1)))):=by
 have q:=q0.below (Below.refl w4.heap.size w4).drew
 have hwd:w4.drew.heap.size=w4.heap.size:=rfl
 obtain ⟨A1,A2⟩:=h.acts q hb
 have hbx4:w4.drew.heap[B]?=some (.cells #[v0,v1] 52 (0,0)):=(q.kept B h.kb).trans h.box
 have hy4:w4.drew.heap[y]?=some (actO what n by_ t raw):=(q.kept y (.inr rfl)).trans hy
 have hst4:StR w4.drew (.agg #[v0,v1]) (rC C) (rL L):=h.ref.keepW (h.loc.mono fun j hj=>hj.1) q.kept fun j e=>q.klt e
 have hS:∀ W,Below w4.drew.heap.size w4.drew W->ActS B y v0 v1 what n by_ t raw W:=fun W hW=>ActS.of ((hW.block B (lt_of_heap hbx4)).trans hbx4) ((hW.block y (lt_of_heap hy4)).trans hy4)
 refine ⟨hS _ (Below.refl _ _),fun o=>hS _ ((Below.refl _ _).alloc (Nat.le_refl _) o),(RP _ hst4).mono ?_,(RP _ (hst4.below ((Below.refl _ _).alloc (Nat.le_refl _) _))).mono ?_⟩
 ·rintro e w' ⟨v',rfl,hE⟩
  obtain ⟨⟨g1,g2⟩,g3⟩:=hE.out
  obtain ⟨xa,xl,rfl,r1,r2⟩:=g1
  obtain ⟨f0,fc0,rfl,-⟩:=r1.form
  obtain ⟨f1,fc1,rfl,-⟩:=r2.form
  exact ⟨_,_,_,_,_,_,rfl,hS w' g2,fun o=>hS _ (g2.alloc g2.size o),Hd (A1 w' _ _ ⟨_,_,rfl,r1,r2⟩ g2 g3)⟩
 ·rintro e w' ⟨v',rfl,hE⟩
  obtain ⟨⟨g1,g2⟩,g3⟩:=hE.out
  obtain ⟨xa,xl,rfl,r1,r2⟩:=g1
  obtain ⟨f0,fc0,rfl,-⟩:=r1.form
  obtain ⟨f1,fc1,rfl,-⟩:=r2.form
  obtain ⟨t1,t2⟩:=A2 _ w' _ _ rfl ⟨_,_,rfl,r1,r2⟩ g2 g3
  have b4:Below w4.drew.heap.size w4.drew w':=((Below.refl w4.drew.heap.size w4.drew).alloc (Nat.le_refl _) (.cells #[.slice none 0 0,.slice none 0 0] 52)).trans (g2.mono (by simp))
  exact ⟨_,_,_,_,_,_,rfl,hS w' b4,hS _ ((b4.setCell (p:=⟨w4.heap.size,0,none⟩) (Nat.le_refl _) _).setCell (p:=⟨w4.heap.size,1,none⟩) (Nat.le_refl _) _),t1,Hd t2⟩
set_option maxHeartbeats 4000000
def Both (w1 W:World) (K:Nat->Prop) (B sb rb ti tl k:Nat) (v0 v1:Value) (C:List Ck) (L:List Lg) (pf rf:Nat) (pargs rargs:Array Value) (pr:Value) (rt:Value->Value):Prop :=
 ∃ D E,(Calls Tryz.prog pf pargs W fun e w'=>e=.returned pr/\Hid (∃ a' C' L' nx',rC C'=D/\rL L'=E/\RBud (k+1) a' C' L'/\Chs w1 W w' K sb rb ti tl 30000 1000 a' C' L' nx' (cpg C'))) /\
  (∀ W2,StR W2 (.agg #[v0,v1]) (rC C) (rL L)->Calls Tryz.prog rf rargs W2 fun e w'=>∃ v',e=.returned (rt v')/\Hid ((StR w' v' D E/\Below W2.heap.size W2 w')/\∀ P,StLoc P (.agg #[v0,v1])->StLoc (fun b=>P b\/W2.heap.size<=b) v'))
section
variable {w1 W:World} {B sb rb ti tl k a nx:Nat} {v0 v1:Value} {K:Nat->Prop} {C:List Ck} {L:List Lg}
theorem rC_lenC (C:List Ck):(rC C).length=C.length:=by unfold rC;rw [List.length_map]
theorem rL_lenC (L:List Lg):(rL L).length=L.length:=by unfold rL;rw [List.length_map]
theorem cAt_id {C:List Ck} {id:ByteArray} {c:Ck} (h:cAt C id=some c) (hok:∀ c∈C,c.Ok):id.size=33:=by
 obtain ⟨h1,h2⟩:=cAt_some h
 rw [<-h2];exact (hok c h1).id
theorem RnL.sm (h:RnL w1 B sb rb ti tl k v0 v1 K C L nx a W) (hk:k<80):(a<=320/\L.length<=80/\C.length<=160)/\Cnts C 80:=by
 obtain ⟨h1,h2,h3⟩:=h.bud
 exact ⟨by omega,fun c hc=>by have:=h3 c hc;omega⟩
theorem RnL.put (h:RnL w1 B sb rb ti tl k v0 v1 K C L nx a W) (hk:k<80) (t:ByteArray) :
 ∃ (id:ByteArray) (fr:Bool) (er:Int),(er == 4)=false/\Both w1 W K B sb rb ti tl k v0 v1 C L 18 97 #[.pointer (some ⟨sb,0,none⟩),.string t] #[.agg #[v0,v1],.string t] (.tuple #[.string id,.bool fr,.int .i64 er]) (fun v'=>.tuple #[v',.string id,.bool fr,.int .i64 er]):=by
 obtain ⟨⟨s1,s2,s3⟩,s4⟩:=h.sm hk
 by_cases ht:t.size<1\/128<t.size
 ·refine ⟨⟨#[]⟩,false,1,rfl,rC C,rL L,?_,fun W2 h2=>Put_rc0 _ (rC C) (rL L) t W2 h2 ht⟩
  refine (Put_err w1 W W _ sb rb ti tl 30000 1000 a nx C L (cpg C) t (Hd h.st) ⟨by omega,by decide⟩ ht).mono ?_
  rintro e w' ⟨rfl,hE⟩
  exact ⟨rfl,Hd ⟨a,C,L,nx,rfl,rfl,h.bud.same,hE.out⟩⟩
 ·have t1:1<=t.size:=by omega
  have t2:t.size<=128:=by omega
  refine ⟨(putR (rC C) t).2.1,(putR (rC C) t).2.2.1,0,rfl,(putR (rC C) t).1,rL L,?_,?_⟩
  ·refine (Put_k w1 W W _ sb rb ti tl 30000 1000 a nx C L (cpg C) t (Hd h.st) ⟨by omega,by decide⟩ t1 t2 (by omega) (fun c hc=>List.mem_map.2 ⟨c,hc,rfl⟩)).mono ?_
   rintro e w' ⟨id,fresh,rfl,hE⟩
   rcases hE.out with ⟨rfl,kk,c,hkk,rfl,hc,ht',hno,hE⟩|⟨rfl,kk,page,C',hkk,rfl,hc,hf,hno,hp,hE⟩
   ·have hput:=putR_hit t1 t2 hkk hc ht' hno
    rw [hput]
    exact ⟨rfl,Hd ⟨a,C,L,nx,rfl,rfl,h.bud.same,hE⟩⟩
   ·have hput:=putR_new t1 t2 hkk hc hf hno hp
    have hq:=hE.perm (cpg_new (c:=⟨nameB (prB t) kk,page,0,t⟩) hc hp)
    have hl:C'.length=C.length+1:=by
     have h1:=ins_rC hp hc
     have h2:=ins_len (rC C) (nameB (prB t) kk,t,0)
     simp only at h1
     rw [h1,rC_lenC,rC_lenC] at h2
     exact h2
    obtain ⟨b1,b2,b3⟩:=h.bud
    rw [hput]
    refine ⟨rfl,Hd ⟨a+2,C',L,nx,rfl,rfl,⟨by omega,by omega,fun d hd=>?_⟩,hq⟩⟩
    rcases hp.mem d hd with rfl|hd
    ·simp only;omega
    ·have:=b3 d hd;omega
  ·intro W2 h2
   have hR:=Put_rc _ (rC C) (rL L) t W2 h2 (by rw [rC_lenC];omega) t1 t2
   have h0:(putR (rC C) t).2.2.2=0:=by
    cases hh:(List.range 256).find? (hitR (rC C) (prB t) t) with
    | some kk=>unfold putR;rw [if_neg ht];simp only [hh]
    | none =>
      cases hg:(List.range 256).find? (freeR (rC C) (prB t)) with
      | some kk=>unfold putR;rw [if_neg ht];simp only [hh,hg]
      | none =>
        exfalso
        rw [List.find?_range_eq_none] at hg
        have hnn:∀ j,j<256->cAt C (nameB (prB t) j)≠none:=fun j hj hc=>by
         have:=hg j hj
         unfold freeR at this
         rw [fnd_rC,hc] at this
         simp at this
        have:=names_len (Nat.le_refl 256) hnn
        omega
   rw [h0] at hR
   exact hR
theorem RnL.add (h:RnL w1 B sb rb ti tl k v0 v1 K C L nx a W) (hk:k<80) (id:ByteArray) (by_:Int) :
 ∃ (er:Int),(er == 4)=false/\Both w1 W K B sb rb ti tl k v0 v1 C L 19 99 #[.pointer (some ⟨sb,0,none⟩),.string id,.int .i64 by_] #[.agg #[v0,v1],.string id,.int .i64 by_] (.int .i64 er) (fun v'=>.tuple #[v',.int .i64 er]):=by
 obtain ⟨⟨s1,s2,s3⟩,s4⟩:=h.sm hk
 have ERR:∀ er:Int,(er == 4)=false->(((by_≠1/\by_≠-1)/\er=1)\/((by_=1\/by_=-1)/\cAt C id=none/\er=6))->∃ (er:Int),(er == 4)=false/\Both w1 W K B sb rb ti tl k v0 v1 C L 19 99 #[.pointer (some ⟨sb,0,none⟩),.string id,.int .i64 by_] #[.agg #[v0,v1],.string id,.int .i64 by_] (.int .i64 er) (fun v'=>.tuple #[v',.int .i64 er]):=fun er h4 hc=>by
  refine ⟨er,h4,rC C,rL L,?_,fun W2 h2=>Add_rc0 _ (rC C) (rL L) id by_ er W2 h2 (by rw [rC_lenC];omega) (hc.imp (fun g=>g) fun g=>⟨g.1,by rw [fnd_rC,g.2.1];rfl,g.2.2⟩)⟩
  refine (Add_err w1 W W _ sb rb ti tl 30000 1000 a nx C L (cpg C) id by_ er (Hd h.st) ⟨by omega,by decide⟩ hc).mono ?_
  rintro e w' ⟨rfl,hE⟩
  exact ⟨rfl,Hd ⟨a,C,L,nx,rfl,rfl,h.bud.same,hE.out⟩⟩
 by_cases hb:by_=1\/by_=-1
 ·cases hf:cAt C id with
  | none=>exact ERR 6 rfl (.inr ⟨hb,hf,rfl⟩)
  | some c =>
    obtain ⟨up,hup⟩:∃ up,by_=byI up:=by
     rcases hb with rfl|rfl
     ·exact ⟨true,rfl⟩
     ·exact ⟨false,rfl⟩
    have hi:=cAt_id hf h.st.ok.1
    refine ⟨0,rfl,rC C,rL L++[(id,by_)],?_,fun W2 h2=>Add_rc1 _ (rC C) (rL L) id by_ W2 h2 (by rw [rC_lenC];omega) (by rw [rL_lenC];omega) hb _ (by rw [fnd_rC,hf];rfl)⟩
    rw [hup]
    refine (Add_yes w1 W W _ sb rb ti tl 30000 1000 a nx C L (cpg C) id up c (Hd h.st) ⟨by omega,by decide⟩ hi hf).mono ?_
    rintro e w' ⟨rfl,hE⟩
    obtain ⟨b1,b2,b3⟩:=h.bud
    refine ⟨rfl,Hd ⟨_,C,_,_,rfl,by rw [rL_snoc];rfl,⟨?_,?_,fun c hc=>?_⟩,hE.out⟩⟩
    ·simp only [List.length_append,List.length_singleton];omega
    ·simp only [List.length_append,List.length_singleton];omega
    ·have:=b3 c hc
     simp only [List.length_append,List.length_singleton];push_cast;omega
 ·exact ERR 1 rfl (.inl ⟨⟨fun e=>hb (.inl e),fun e=>hb (.inr e)⟩,rfl⟩)
theorem RnL.apply (h:RnL w1 B sb rb ti tl k v0 v1 K C L nx a W) (hk:k<80) (id:ByteArray) (by_:Int) :
 ∃ (er:Int),Both w1 W K B sb rb ti tl k v0 v1 C L 96 100 #[.pointer (some ⟨sb,0,none⟩),.string id,.int .i64 by_] #[.agg #[v0,v1],.string id,.int .i64 by_] (.int .i64 er) (fun v'=>.tuple #[v',.int .i64 er]):=by
 obtain ⟨⟨s1,s2,s3⟩,s4⟩:=h.sm hk
 have ERR:∀ er:Int,(((by_≠1/\by_≠-1)/\er=1)\/((by_=1\/by_=-1)/\cAt C id=none/\er=6))->∃ (er:Int),Both w1 W K B sb rb ti tl k v0 v1 C L 96 100 #[.pointer (some ⟨sb,0,none⟩),.string id,.int .i64 by_] #[.agg #[v0,v1],.string id,.int .i64 by_] (.int .i64 er) (fun v'=>.tuple #[v',.int .i64 er]):=fun er hc=>by
  refine ⟨er,rC C,rL L,?_,fun W2 h2=>Apply_rc0 _ (rC C) (rL L) id by_ er W2 h2 (by rw [rC_lenC];omega) (hc.imp (fun g=>g) fun g=>⟨g.1,by rw [fnd_rC,g.2.1];rfl,g.2.2⟩)⟩
  refine (Apply_err w1 W W _ sb rb ti tl 30000 1000 a nx C L (cpg C) id by_ er (Hd h.st) ⟨by omega,by decide⟩ hc).mono ?_
  rintro e w' ⟨rfl,hE⟩
  exact ⟨rfl,Hd ⟨a,C,L,nx,rfl,rfl,h.bud.same,hE.out⟩⟩
 by_cases hb:by_=1\/by_=-1
 ·cases hf:cAt C id with
  | none=>exact ERR 6 (.inr ⟨hb,hf,rfl⟩)
  | some c =>
    obtain ⟨up,hup⟩:∃ up,by_=byI up:=by
     rcases hb with rfl|rfl
     ·exact ⟨true,rfl⟩
     ·exact ⟨false,rfl⟩
    have hm:=(cAt_some hf).1
    have hcb:=s4 c hm
    refine ⟨0,incR (rC C) id by_,rL L,?_,fun W2 h2=>Apply_rc1 _ (rC C) (rL L) id by_ W2 h2 (by rw [rC_lenC];omega) hb _ (by rw [fnd_rC,hf];rfl) (by simp only;omega)⟩
    rw [hup]
    refine (Apply_yes w1 W W _ sb rb ti tl 30000 1000 a nx C L (cpg C) id up c (Hd h.st) ⟨by omega,by decide⟩ hf (by omega)).mono ?_
    rintro e w' ⟨rfl,hE⟩
    obtain ⟨C',hp,hE⟩:=hE.out
    obtain ⟨g1,g2⟩:=incR_rC hf hp
    rw [<-g2] at hE
    have hl:C'.length=C.length:=by
     have:=congrArg List.length g1
     rwa [incR_len,rC_lenC,rC_lenC] at this
    have hby:-1<=byI up/\byI up<=1:=by unfold byI;split <;> omega
    obtain ⟨b1,b2,b3⟩:=h.bud
    refine ⟨rfl,Hd ⟨_,C',L,_,g1,rfl,⟨by omega,by omega,fun d hd=>?_⟩,hE⟩⟩
    rcases hp.mem d hd with rfl|hd
    ·have:=b3 c hm
     show -((k+1:Nat):Int)<=c.cnt+byI up-L.length/\c.cnt+byI up+L.length<=(k+1:Nat)
     push_cast;omega
    ·have:=b3 d hd;push_cast;omega
 ·exact ERR 1 (.inl ⟨⟨fun e=>hb (.inl e),fun e=>hb (.inr e)⟩,rfl⟩)
theorem lg_by (L:List Lg):∀ e∈rL L,-1<=e.2/\e.2<=1:=fun e he=>by
 obtain ⟨x,-,rfl⟩:=List.mem_map.1 he
 show -1<=x.by/\x.by<=1
 unfold Lg.by;split <;> omega
theorem rL_take (L:List Lg) (m:Nat):rL (L.take m)=(rL L).take m:=by unfold rL;rw [List.map_take]
theorem rL_drop (L:List Lg) (m:Nat):rL (L.drop m)=(rL L).drop m:=by unfold rL;rw [List.map_drop]
theorem mergeR_cnt:∀ (T:List Lg) {C:List RCk} {lo hi:Int},(∀ c∈C,lo<=c.2.2/\c.2.2<=hi)->∀ c∈mergeR C (rL T),lo-T.length<=c.2.2/\c.2.2<=hi+T.length
 | [],C,lo,hi,h=>by simpa [mergeR,rL] using h
 | e::T,C,lo,hi,h=>by
   have he:-1<=e.by/\e.by<=1:=by unfold Lg.by;split <;> omega
   have h2:∀ c∈incR C e.id e.by,lo-1<=c.2.2/\c.2.2<=hi+1:=fun c hc=>by
    rcases incR_mem hc with hc|⟨c0,hc0,rfl⟩
    ·have:=h c hc;omega
    ·have:=h c0 hc0;simp only;omega
   have:=mergeR_cnt T h2
   intro c hc
   have:=this c hc
   simp only [List.length_cons];push_cast
   omega
theorem RnL.merge (h:RnL w1 B sb rb ti tl k v0 v1 K C L nx a W) (hk:k<80) (n:Int) (hn:I64 n) :
 ∃ (m:Nat),Both w1 W K B sb rb ti tl k v0 v1 C L 20 49 #[.pointer (some ⟨sb,0,none⟩),.int .i64 n] #[.agg #[v0,v1],.int .i64 n] (.tuple #[.int .i64 (m:Int),.int .i64 0]) (fun v'=>.tuple #[v',.int .i64 (m:Int)]):=by
 obtain ⟨⟨s1,s2,s3⟩,s4⟩:=h.sm hk
 unfold I64 at hn
 have hlim:max n 0=((n.toNat:Nat):Int):=by omega
 have hm:(L.take n.toNat).length=min n.toNat L.length:=List.length_take
 have e1:(rL L).take (min n.toNat L.length)=(rL L).take n.toNat:=by
  rw [<-rL_lenC L]
  by_cases hc:n.toNat<=(rL L).length
  ·rw [Nat.min_eq_left hc]
  ·rw [Nat.min_eq_right (by omega),List.take_length,List.take_of_length_le (by omega)]
 have e2:(rL L).drop (min n.toNat L.length)=(rL L).drop n.toNat:=by
  rw [<-rL_lenC L]
  by_cases hc:n.toNat<=(rL L).length
  ·rw [Nat.min_eq_left hc]
  ·rw [Nat.min_eq_right (by omega),List.drop_length,List.drop_of_length_le (by omega)]
 refine ⟨(L.take n.toNat).length,mergeR (rC C) ((rL L).take n.toNat),(rL L).drop n.toNat,?_,fun W2 h2=>?_⟩
 ·refine (Merge_k w1 W W _ sb rb ti tl 30000 1000 a nx C L (cpg C) n n.toNat hlim (by omega) (Hd h.st) ⟨by omega,by decide⟩ (fun c hc=>by have:=s4 c hc;omega)).mono ?_
  rintro e w' ⟨rfl,hE⟩
  obtain ⟨C',hM,hE⟩:=hE.out
  obtain ⟨g1,g2⟩:=hM.ref
  rw [<-g2] at hE
  have hl:C'.length=C.length:=by
   have:=congrArg List.length g1
   rwa [mergeR_len,rC_lenC,rC_lenC] at this
  obtain ⟨b1,b2,b3⟩:=h.bud
  have hll:(L.take n.toNat).length+(L.drop n.toNat).length=L.length:=by rw [<-List.length_append,List.take_append_drop]
  refine ⟨rfl,Hd ⟨_,C',L.drop n.toNat,_,by rw [g1,rL_take],rL_drop L _,⟨by omega,by omega,fun d hd=>?_⟩,hE⟩⟩
  have hbd:=mergeR_cnt (L.take n.toNat) (C:=rC C) (lo:=-(k:Int)+L.length) (hi:=k-L.length) (fun c hc=>by
   obtain ⟨x,hx,rfl⟩:=List.mem_map.1 hc
   have:=b3 x hx
   simp only;omega) (d.id,d.text,d.cnt) (by rw [<-g1];exact List.mem_map.2 ⟨d,hd,rfl⟩)
  simp only at hbd
  push_cast;omega
 ·have:=Merge_rc _ (rC C) (rL L) n (min n.toNat L.length) W2 h2 (by rw [rC_lenC];omega) (by rw [rL_lenC];omega) (by rw [rL_lenC];omega) (fun c hc=>by
   obtain ⟨x,hx,rfl⟩:=List.mem_map.1 hc
   have:=s4 x hx
   simp only;omega) (lg_by L)
  rw [e1,e2] at this
  rw [hm]
  exact this
theorem RnL.recl (h:RnL w1 B sb rb ti tl k v0 v1 K C L nx a W) (hk:k<80) (n:Int) (hn:I64 n) :
 ∃ (m:Nat),Both w1 W K B sb rb ti tl k v0 v1 C L 48 50 #[.pointer (some ⟨sb,0,none⟩),.int .i64 n] #[.agg #[v0,v1],.int .i64 n] (.tuple #[.int .i64 (m:Int),.int .i64 0]) (fun v'=>.tuple #[v',.int .i64 (m:Int)]):=by
 obtain ⟨⟨s1,s2,s3⟩,s4⟩:=h.sm hk
 have hrr:=recl_rC L n C 0
 have hr1:(reclR (rL L) n 0 (rC C)).1=rC (reclK L n 0 C).1:=by rw [hrr]
 have hr2:(reclR (rL L) n 0 (rC C)).2=(reclK L n 0 C).2:=by rw [hrr]
 refine ⟨(reclK L n 0 C).2,rC (reclK L n 0 C).1,rL L,?_,fun W2 h2=>?_⟩
 ·refine (Reclaim_k w1 W W _ sb rb ti tl 30000 1000 a nx C L n (Hd h.st) ⟨by omega,by decide⟩ (by omega)).mono ?_
  rintro e w' ⟨rfl,hE⟩
  obtain ⟨b1,b2,b3⟩:=h.bud
  have hln:=reclK_len L n C 0
  refine ⟨rfl,Hd ⟨_,_,L,_,rfl,rfl,⟨by omega,by omega,fun d hd=>?_⟩,hE.out⟩⟩
  have:=b3 d (reclK_mem L n C 0 d hd)
  push_cast;omega
 ·have:=Reclaim_rc _ (rC C) (rL L) n W2 h2 (by rw [rC_lenC];omega) (by rw [rL_lenC];omega) (lg_by L) hn
  rw [hr1,hr2] at this
  exact this
end
set_option maxHeartbeats 8000000
section
variable {w1 wr:World} {B sb rb ti tl k a nx:Nat} {v0 v1:Value} {K:Nat->Prop} {C:List Ck} {L:List Lg}
theorem Do_put (n by_:Int) (t:ByteArray) (raw:Bool) (h:Hid (RnL w1 B sb rb ti tl k v0 v1 K C L nx a wr)) (hk:k<80) :
 Calls Tryz.prog 47 #[.pointer (some ⟨sb,0,none⟩),.pointer (some ⟨B,0,none⟩),.agg #[.int .i64 0,.int .i64 n,.int .i64 by_,.string t,.bool raw]] wr fun e w'=>e=.returned (.tuple #[.bool true,.bool false])/\Hid (∃ v0' v1' K' C2 L2 nx2 a2,RnL w1 B sb rb ti tl (k+1) v0' v1' K' C2 L2 nx2 a2 w'):=by
 have hN:=h.out.new (actO 0 n by_ t raw)
 obtain ⟨W1,hW1⟩:=exE (wr.alloc (.cells #[.int .i64 0,.int .i64 n,.int .i64 by_,.string t,.bool raw] 96))
 rw [show wr.alloc (actO 0 n by_ t raw)=W1 from hW1] at hN
 have hy:W1.heap[wr.heap.size]?=some (actO 0 n by_ t raw):=by rw [<-hW1];exact heap_alloc_new _ _
 obtain ⟨f0,fc0,f1,fc1,hf⟩:=h.out.ref.form
 cases hf
 have HN:=Hd hN
 have HY:=Hd hy
 obtain ⟨y0,y1,y2,y3,y4⟩:=act_cells (K:=K) (fun _ _=>rfl) hy
 obtain ⟨id,fr,er,her,hbo⟩:=HN.out.put hk t
 obtain ⟨D,E,PE,RP⟩:=hbo
 clear hN hy h
 go_enter Tryz.func47,Tryz.ntmps47
 go_wp2_with fail
 clear hW1
 refine PE.mono ?_
 rintro e w4 ⟨rfl,q4⟩
 obtain ⟨a',C',L',nx',hD,hE,hbud',q4⟩:=q4.out
 clear y0 y1 y2 y3 y4 PE
 obtain ⟨y0,y1,y2,y3,y4⟩:=act_cells q4.kept HY.out
 have bx4:=(q4.kept B HN.out.kb).trans HN.out.box
 have x0:=cell_lit bx4 (i:=0) rfl
 have x1:=cell_lit bx4 (i:=1) rfl
 obtain ⟨hS0,hSa,RA,RB⟩:=RnL.calls (rt:=fun v'=>.tuple #[v',.string id,.bool fr,.int .i64 er]) (fn:=97) (args:=#[.agg #[.slice f0 (rC C).length fc0,.slice f1 (rL L).length fc1],.string t]) HN.out q4 HY.out hbud' (fun W hW=>by rw [hD,hE];exact RP W hW)
 unfold ActS at hS0 hSa RA RB
 clear RP bx4 HY HN q4 hbud' hD hE
 go_wp2_with fail
 go_region_held3 (fun w'=>w'.cell? ⟨B,0,none⟩=some (.slice f0 (rC C).length fc0)/\w'.cell? ⟨B,1,none⟩=some (.slice f1 (rL L).length fc1)/\w'.cell? ⟨wr.heap.size,0,none⟩=some (.int .i64 0)/\w'.cell? ⟨wr.heap.size,1,none⟩=some (.int .i64 n)/\w'.cell? ⟨wr.heap.size,2,none⟩=some (.int .i64 by_)/\w'.cell? ⟨wr.heap.size,3,none⟩=some (.string t)/\w'.cell? ⟨wr.heap.size,4,none⟩=some (.bool raw)) (first|(go_keep;done)|exact hSa _|exact hka _|exact hkb) ((first
  | (go_at_call 97
     refine Calls.at_args RA (by with_reducible rfl) ?_
     rintro e w5 ⟨g0,n0,c0,g1,n1,c1,rfl,hk5,hka,HA⟩)
  | (go_at_call 97
     refine Calls.at_args RB (by with_reducible rfl) ?_
     rintro e w5 ⟨g0,n0,c0,g1,n1,c1,rfl,hk5,hkb,⟨⟨t0,t1⟩,t2,t3⟩,HA⟩)))
 all_goals (
  clear x0 x1 y0 y1 y2 y3 y4
  first
   | obtain ⟨⟨z0,z1⟩,⟨b0,b1,b2,b3⟩,HG⟩:=HA.out _ rfl
   | obtain ⟨⟨z0,z1⟩,⟨b0,b1,b2,b3⟩,HG⟩:=HA.out
  go_wp2_with fail
  go_ret2
  exact ⟨by simp,HG⟩)
theorem Do_add (n by_:Int) (t:ByteArray) (raw:Bool) (h:Hid (RnL w1 B sb rb ti tl k v0 v1 K C L nx a wr)) (hk:k<80) :
 Calls Tryz.prog 47 #[.pointer (some ⟨sb,0,none⟩),.pointer (some ⟨B,0,none⟩),.agg #[.int .i64 1,.int .i64 n,.int .i64 by_,.string t,.bool raw]] wr fun e w'=>e=.returned (.tuple #[.bool true,.bool false])/\Hid (∃ v0' v1' K' C2 L2 nx2 a2,RnL w1 B sb rb ti tl (k+1) v0' v1' K' C2 L2 nx2 a2 w'):=by
 have hN:=h.out.new (actO 1 n by_ t raw)
 obtain ⟨W1,hW1⟩:=exE (wr.alloc (.cells #[.int .i64 1,.int .i64 n,.int .i64 by_,.string t,.bool raw] 96))
 rw [show wr.alloc (actO 1 n by_ t raw)=W1 from hW1] at hN
 have hy:W1.heap[wr.heap.size]?=some (actO 1 n by_ t raw):=by rw [<-hW1];exact heap_alloc_new _ _
 obtain ⟨f0,fc0,f1,fc1,hf⟩:=h.out.ref.form
 cases hf
 have HN0:=Hd hN
 obtain ⟨y0,y1,y2,y3,y4⟩:=act_cells (K:=K) (fun _ _=>rfl) hy
 have x0:=cell_lit hN.box (i:=0) rfl
 have x1:=cell_lit hN.box (i:=1) rfl
 obtain ⟨⟨s1,s2,s3⟩,-⟩:=hN.sm hk
 have NM:Calls Tryz.prog 98 #[.agg #[.slice f0 (rC C).length fc0,.slice f1 (rL L).length fc1],.agg #[.int .i64 1,.int .i64 n,.int .i64 by_,.string t,.bool raw]] W1.drew fun e w'=>∃ id,e=.returned (.string id)/\(w'.cell? ⟨B,0,none⟩=some (.slice f0 (rC C).length fc0)/\w'.cell? ⟨B,1,none⟩=some (.slice f1 (rL L).length fc1)/\w'.cell? ⟨wr.heap.size,0,none⟩=some (.int .i64 1)/\w'.cell? ⟨wr.heap.size,1,none⟩=some (.int .i64 n)/\w'.cell? ⟨wr.heap.size,2,none⟩=some (.int .i64 by_)/\w'.cell? ⟨wr.heap.size,3,none⟩=some (.string t)/\w'.cell? ⟨wr.heap.size,4,none⟩=some (.bool raw))/\Hid (Below W1.heap.size W1 w'):=by
  refine (nameL_c (.agg #[.slice f0 (rC C).length fc0,.slice f1 (rL L).length fc1]) (rC C) (rL L) (1,n,by_,t,raw) W1.drew (hN.ref.below (Below.refl _ _).drew) (by rw [rC_lenC];omega)).mono ?_
  rintro e w' ⟨id,rfl,hb⟩
  have hb2:Below W1.heap.size W1 w':=(Below.refl W1.heap.size W1).drew.trans hb.out
  have q1:=(hb2.block _ (lt_of_heap hN.box)).trans hN.box
  have q2:=(hb2.block _ (lt_of_heap hy)).trans hy
  exact ⟨id,rfl,ActS.of q1 q2,Hd hb2⟩
 have HY0:=Hd hy
 clear hN hy h s1 s2 s3
 go_enter Tryz.func47,Tryz.ntmps47
 go_wp2_with fail
 clear hW1
 go_region_held3 (fun w'=>w'.cell? ⟨B,0,none⟩=some (.slice f0 (rC C).length fc0)/\w'.cell? ⟨B,1,none⟩=some (.slice f1 (rL L).length fc1)/\w'.cell? ⟨wr.heap.size,0,none⟩=some (.int .i64 1)/\w'.cell? ⟨wr.heap.size,1,none⟩=some (.int .i64 n)/\w'.cell? ⟨wr.heap.size,2,none⟩=some (.int .i64 by_)/\w'.cell? ⟨wr.heap.size,3,none⟩=some (.string t)/\w'.cell? ⟨wr.heap.size,4,none⟩=some (.bool raw)) (go_keep) ((first
  | (go_at_call 98
     refine Calls.at_args NM (by with_reducible rfl) ?_
     rintro e w2 ⟨id,rfl,hk2,HB2⟩)))
 have hN:=HN0.out.below HB2.out
 have hy:=(HB2.out.block _ (lt_of_heap HY0.out)).trans HY0.out
 have HN:=Hd hN
 have HY:=Hd hy
 clear x0 x1 y0 y1 y2 y3 y4
 obtain ⟨x0,x1,y0,y1,y2,y3,y4⟩:=hk2
 obtain ⟨er,her,hbo⟩:=HN.out.add hk id by_
 obtain ⟨D,E,PE,RP⟩:=hbo
 clear hN hy HN0 HY0 HB2 NM
 go_wp2_with fail
 refine PE.mono ?_
 rintro e w4 ⟨rfl,q4⟩
 obtain ⟨a',C',L',nx',hD,hE,hbud',q4⟩:=q4.out
 clear x0 x1 y0 y1 y2 y3 y4 PE
 obtain ⟨y0,y1,y2,y3,y4⟩:=act_cells q4.kept HY.out
 have bx4:=(q4.kept B HN.out.kb).trans HN.out.box
 have x0:=cell_lit bx4 (i:=0) rfl
 have x1:=cell_lit bx4 (i:=1) rfl
 obtain ⟨hS0,hSa,RA,RB⟩:=RnL.calls (rt:=fun v'=>.tuple #[v',.int .i64 er]) (fn:=99) (args:=#[.agg #[.slice f0 (rC C).length fc0,.slice f1 (rL L).length fc1],.string id,.int .i64 by_]) HN.out q4 HY.out hbud' (fun W hW=>by rw [hD,hE];exact RP W hW)
 unfold ActS at hS0 hSa RA RB
 clear RP bx4 HY HN q4 hbud' hD hE
 go_wp2_with fail
 go_region_held3 (fun w'=>w'.cell? ⟨B,0,none⟩=some (.slice f0 (rC C).length fc0)/\w'.cell? ⟨B,1,none⟩=some (.slice f1 (rL L).length fc1)/\w'.cell? ⟨wr.heap.size,0,none⟩=some (.int .i64 1)/\w'.cell? ⟨wr.heap.size,1,none⟩=some (.int .i64 n)/\w'.cell? ⟨wr.heap.size,2,none⟩=some (.int .i64 by_)/\w'.cell? ⟨wr.heap.size,3,none⟩=some (.string t)/\w'.cell? ⟨wr.heap.size,4,none⟩=some (.bool raw)) (first|(go_keep;done)|exact hSa _|exact hka _|exact hkb) ((first
  | (go_at_call 99
     refine Calls.at_args RA (by with_reducible rfl) ?_
     rintro e w5 ⟨g0,n0,c0,g1,n1,c1,rfl,hk5,hka,HA⟩)
  | (go_at_call 99
     refine Calls.at_args RB (by with_reducible rfl) ?_
     rintro e w5 ⟨g0,n0,c0,g1,n1,c1,rfl,hk5,hkb,⟨⟨t0,t1⟩,t2,t3⟩,HA⟩)))
 all_goals (
  clear x0 x1 y0 y1 y2 y3 y4
  first
   | obtain ⟨⟨z0,z1⟩,⟨b0,b1,b2,b3⟩,HG⟩:=HA.out _ rfl
   | obtain ⟨⟨z0,z1⟩,⟨b0,b1,b2,b3⟩,HG⟩:=HA.out
  go_wp2_with fail
  go_ret2
  exact ⟨by simp,HG⟩)
theorem Do_apply (n by_:Int) (t:ByteArray) (raw:Bool) (h:Hid (RnL w1 B sb rb ti tl k v0 v1 K C L nx a wr)) (hk:k<80) :
 Calls Tryz.prog 47 #[.pointer (some ⟨sb,0,none⟩),.pointer (some ⟨B,0,none⟩),.agg #[.int .i64 5,.int .i64 n,.int .i64 by_,.string t,.bool raw]] wr fun e w'=>e=.returned (.tuple #[.bool true,.bool false])/\Hid (∃ v0' v1' K' C2 L2 nx2 a2,RnL w1 B sb rb ti tl (k+1) v0' v1' K' C2 L2 nx2 a2 w'):=by
 have hN:=h.out.new (actO 5 n by_ t raw)
 obtain ⟨W1,hW1⟩:=exE (wr.alloc (.cells #[.int .i64 5,.int .i64 n,.int .i64 by_,.string t,.bool raw] 96))
 rw [show wr.alloc (actO 5 n by_ t raw)=W1 from hW1] at hN
 have hy:W1.heap[wr.heap.size]?=some (actO 5 n by_ t raw):=by rw [<-hW1];exact heap_alloc_new _ _
 obtain ⟨f0,fc0,f1,fc1,hf⟩:=h.out.ref.form
 cases hf
 have HN0:=Hd hN
 obtain ⟨y0,y1,y2,y3,y4⟩:=act_cells (K:=K) (fun _ _=>rfl) hy
 have x0:=cell_lit hN.box (i:=0) rfl
 have x1:=cell_lit hN.box (i:=1) rfl
 obtain ⟨⟨s1,s2,s3⟩,-⟩:=hN.sm hk
 have NM:Calls Tryz.prog 98 #[.agg #[.slice f0 (rC C).length fc0,.slice f1 (rL L).length fc1],.agg #[.int .i64 5,.int .i64 n,.int .i64 by_,.string t,.bool raw]] W1.drew fun e w'=>∃ id,e=.returned (.string id)/\(w'.cell? ⟨B,0,none⟩=some (.slice f0 (rC C).length fc0)/\w'.cell? ⟨B,1,none⟩=some (.slice f1 (rL L).length fc1)/\w'.cell? ⟨wr.heap.size,0,none⟩=some (.int .i64 5)/\w'.cell? ⟨wr.heap.size,1,none⟩=some (.int .i64 n)/\w'.cell? ⟨wr.heap.size,2,none⟩=some (.int .i64 by_)/\w'.cell? ⟨wr.heap.size,3,none⟩=some (.string t)/\w'.cell? ⟨wr.heap.size,4,none⟩=some (.bool raw))/\Hid (Below W1.heap.size W1 w'):=by
  refine (nameL_c (.agg #[.slice f0 (rC C).length fc0,.slice f1 (rL L).length fc1]) (rC C) (rL L) (5,n,by_,t,raw) W1.drew (hN.ref.below (Below.refl _ _).drew) (by rw [rC_lenC];omega)).mono ?_
  rintro e w' ⟨id,rfl,hb⟩
  have hb2:Below W1.heap.size W1 w':=(Below.refl W1.heap.size W1).drew.trans hb.out
  have q1:=(hb2.block _ (lt_of_heap hN.box)).trans hN.box
  have q2:=(hb2.block _ (lt_of_heap hy)).trans hy
  exact ⟨id,rfl,ActS.of q1 q2,Hd hb2⟩
 have HY0:=Hd hy
 clear hN hy h s1 s2 s3
 go_enter Tryz.func47,Tryz.ntmps47
 go_wp2_with fail
 clear hW1
 go_region_held3 (fun w'=>w'.cell? ⟨B,0,none⟩=some (.slice f0 (rC C).length fc0)/\w'.cell? ⟨B,1,none⟩=some (.slice f1 (rL L).length fc1)/\w'.cell? ⟨wr.heap.size,0,none⟩=some (.int .i64 5)/\w'.cell? ⟨wr.heap.size,1,none⟩=some (.int .i64 n)/\w'.cell? ⟨wr.heap.size,2,none⟩=some (.int .i64 by_)/\w'.cell? ⟨wr.heap.size,3,none⟩=some (.string t)/\w'.cell? ⟨wr.heap.size,4,none⟩=some (.bool raw)) (go_keep) ((first
  | (go_at_call 98
     refine Calls.at_args NM (by with_reducible rfl) ?_
     rintro e w2 ⟨id,rfl,hk2,HB2⟩)))
 have hN:=HN0.out.below HB2.out
 have hy:=(HB2.out.block _ (lt_of_heap HY0.out)).trans HY0.out
 have HN:=Hd hN
 have HY:=Hd hy
 clear x0 x1 y0 y1 y2 y3 y4
 obtain ⟨x0,x1,y0,y1,y2,y3,y4⟩:=hk2
 obtain ⟨er,hbo⟩:=HN.out.apply hk id by_
 obtain ⟨D,E,PE,RP⟩:=hbo
 clear hN hy HN0 HY0 HB2 NM
 go_wp2_with fail
 refine PE.mono ?_
 rintro e w4 ⟨rfl,q4⟩
 obtain ⟨a',C',L',nx',hD,hE,hbud',q4⟩:=q4.out
 clear x0 x1 y0 y1 y2 y3 y4 PE
 obtain ⟨y0,y1,y2,y3,y4⟩:=act_cells q4.kept HY.out
 have bx4:=(q4.kept B HN.out.kb).trans HN.out.box
 have x0:=cell_lit bx4 (i:=0) rfl
 have x1:=cell_lit bx4 (i:=1) rfl
 obtain ⟨hS0,hSa,RA,RB⟩:=RnL.calls (rt:=fun v'=>.tuple #[v',.int .i64 er]) (fn:=100) (args:=#[.agg #[.slice f0 (rC C).length fc0,.slice f1 (rL L).length fc1],.string id,.int .i64 by_]) HN.out q4 HY.out hbud' (fun W hW=>by rw [hD,hE];exact RP W hW)
 unfold ActS at hS0 hSa RA RB
 clear RP bx4 HY HN q4 hbud' hD hE
 go_wp2_with fail
 go_region_held3 (fun w'=>w'.cell? ⟨B,0,none⟩=some (.slice f0 (rC C).length fc0)/\w'.cell? ⟨B,1,none⟩=some (.slice f1 (rL L).length fc1)/\w'.cell? ⟨wr.heap.size,0,none⟩=some (.int .i64 5)/\w'.cell? ⟨wr.heap.size,1,none⟩=some (.int .i64 n)/\w'.cell? ⟨wr.heap.size,2,none⟩=some (.int .i64 by_)/\w'.cell? ⟨wr.heap.size,3,none⟩=some (.string t)/\w'.cell? ⟨wr.heap.size,4,none⟩=some (.bool raw)) (first|(go_keep;done)|exact hSa _|exact hka _|exact hkb) ((first
  | (go_at_call 100
     refine Calls.at_args RA (by with_reducible rfl) ?_
     rintro e w5 ⟨g0,n0,c0,g1,n1,c1,rfl,hk5,hka,HA⟩)
  | (go_at_call 100
     refine Calls.at_args RB (by with_reducible rfl) ?_
     rintro e w5 ⟨g0,n0,c0,g1,n1,c1,rfl,hk5,hkb,⟨⟨t0,t1⟩,t2,t3⟩,HA⟩)))
 all_goals (
  clear x0 x1 y0 y1 y2 y3 y4
  first
   | obtain ⟨⟨z0,z1⟩,⟨b0,b1,b2,b3⟩,HG⟩:=HA.out _ rfl
   | obtain ⟨⟨z0,z1⟩,⟨b0,b1,b2,b3⟩,HG⟩:=HA.out
  go_wp2_with fail
  go_ret2
  exact ⟨by simp,HG⟩)
theorem Do_merge (n by_:Int) (t:ByteArray) (raw:Bool) (h:Hid (RnL w1 B sb rb ti tl k v0 v1 K C L nx a wr)) (hk:k<80) (hn:I64 n) :
 Calls Tryz.prog 47 #[.pointer (some ⟨sb,0,none⟩),.pointer (some ⟨B,0,none⟩),.agg #[.int .i64 2,.int .i64 n,.int .i64 by_,.string t,.bool raw]] wr fun e w'=>e=.returned (.tuple #[.bool true,.bool false])/\Hid (∃ v0' v1' K' C2 L2 nx2 a2,RnL w1 B sb rb ti tl (k+1) v0' v1' K' C2 L2 nx2 a2 w'):=by
 have hN:=h.out.new (actO 2 n by_ t raw)
 obtain ⟨W1,hW1⟩:=exE (wr.alloc (.cells #[.int .i64 2,.int .i64 n,.int .i64 by_,.string t,.bool raw] 96))
 rw [show wr.alloc (actO 2 n by_ t raw)=W1 from hW1] at hN
 have hy:W1.heap[wr.heap.size]?=some (actO 2 n by_ t raw):=by rw [<-hW1];exact heap_alloc_new _ _
 obtain ⟨f0,fc0,f1,fc1,hf⟩:=h.out.ref.form
 cases hf
 have HN:=Hd hN
 have HY:=Hd hy
 obtain ⟨y0,y1,y2,y3,y4⟩:=act_cells (K:=K) (fun _ _=>rfl) hy
 obtain ⟨m,hbo⟩:=HN.out.merge hk n hn
 obtain ⟨D,E,PE,RP⟩:=hbo
 clear hN hy h
 go_enter Tryz.func47,Tryz.ntmps47
 go_wp2_with fail
 clear hW1
 refine PE.mono ?_
 rintro e w4 ⟨rfl,q4⟩
 obtain ⟨a',C',L',nx',hD,hE,hbud',q4⟩:=q4.out
 clear y0 y1 y2 y3 y4 PE
 obtain ⟨y0,y1,y2,y3,y4⟩:=act_cells q4.kept HY.out
 have bx4:=(q4.kept B HN.out.kb).trans HN.out.box
 have x0:=cell_lit bx4 (i:=0) rfl
 have x1:=cell_lit bx4 (i:=1) rfl
 obtain ⟨hS0,hSa,RA,RB⟩:=RnL.calls (rt:=fun v'=>.tuple #[v',.int .i64 (m:Int)]) (fn:=49) (args:=#[.agg #[.slice f0 (rC C).length fc0,.slice f1 (rL L).length fc1],.int .i64 n]) HN.out q4 HY.out hbud' (fun W hW=>by rw [hD,hE];exact RP W hW)
 unfold ActS at hS0 hSa RA RB
 clear RP bx4 HY HN q4 hbud' hD hE
 go_wp2_with fail
 go_region_held3 (fun w'=>w'.cell? ⟨B,0,none⟩=some (.slice f0 (rC C).length fc0)/\w'.cell? ⟨B,1,none⟩=some (.slice f1 (rL L).length fc1)/\w'.cell? ⟨wr.heap.size,0,none⟩=some (.int .i64 2)/\w'.cell? ⟨wr.heap.size,1,none⟩=some (.int .i64 n)/\w'.cell? ⟨wr.heap.size,2,none⟩=some (.int .i64 by_)/\w'.cell? ⟨wr.heap.size,3,none⟩=some (.string t)/\w'.cell? ⟨wr.heap.size,4,none⟩=some (.bool raw)) (first|(go_keep;done)|exact hSa _|exact hka _|exact hkb) ((first
  | (go_at_call 49
     refine Calls.at_args RA (by with_reducible rfl) ?_
     rintro e w5 ⟨g0,n0,c0,g1,n1,c1,rfl,hk5,hka,HA⟩)
  | (go_at_call 49
     refine Calls.at_args RB (by with_reducible rfl) ?_
     rintro e w5 ⟨g0,n0,c0,g1,n1,c1,rfl,hk5,hkb,⟨⟨t0,t1⟩,t2,t3⟩,HA⟩)))
 all_goals (
  clear x0 x1 y0 y1 y2 y3 y4
  first
   | obtain ⟨⟨z0,z1⟩,⟨b0,b1,b2,b3⟩,HG⟩:=HA.out _ rfl
   | obtain ⟨⟨z0,z1⟩,⟨b0,b1,b2,b3⟩,HG⟩:=HA.out
  go_wp2_with fail
  go_ret2
  exact ⟨by simp,HG⟩)
theorem Do_recl (n by_:Int) (t:ByteArray) (raw:Bool) (h:Hid (RnL w1 B sb rb ti tl k v0 v1 K C L nx a wr)) (hk:k<80) (hn:I64 n) :
 Calls Tryz.prog 47 #[.pointer (some ⟨sb,0,none⟩),.pointer (some ⟨B,0,none⟩),.agg #[.int .i64 3,.int .i64 n,.int .i64 by_,.string t,.bool raw]] wr fun e w'=>e=.returned (.tuple #[.bool true,.bool false])/\Hid (∃ v0' v1' K' C2 L2 nx2 a2,RnL w1 B sb rb ti tl (k+1) v0' v1' K' C2 L2 nx2 a2 w'):=by
 have hN:=h.out.new (actO 3 n by_ t raw)
 obtain ⟨W1,hW1⟩:=exE (wr.alloc (.cells #[.int .i64 3,.int .i64 n,.int .i64 by_,.string t,.bool raw] 96))
 rw [show wr.alloc (actO 3 n by_ t raw)=W1 from hW1] at hN
 have hy:W1.heap[wr.heap.size]?=some (actO 3 n by_ t raw):=by rw [<-hW1];exact heap_alloc_new _ _
 obtain ⟨f0,fc0,f1,fc1,hf⟩:=h.out.ref.form
 cases hf
 have HN:=Hd hN
 have HY:=Hd hy
 obtain ⟨y0,y1,y2,y3,y4⟩:=act_cells (K:=K) (fun _ _=>rfl) hy
 obtain ⟨m,hbo⟩:=HN.out.recl hk n hn
 obtain ⟨D,E,PE,RP⟩:=hbo
 clear hN hy h
 go_enter Tryz.func47,Tryz.ntmps47
 go_wp2_with fail
 clear hW1
 refine PE.mono ?_
 rintro e w4 ⟨rfl,q4⟩
 obtain ⟨a',C',L',nx',hD,hE,hbud',q4⟩:=q4.out
 clear y0 y1 y2 y3 y4 PE
 obtain ⟨y0,y1,y2,y3,y4⟩:=act_cells q4.kept HY.out
 have bx4:=(q4.kept B HN.out.kb).trans HN.out.box
 have x0:=cell_lit bx4 (i:=0) rfl
 have x1:=cell_lit bx4 (i:=1) rfl
 obtain ⟨hS0,hSa,RA,RB⟩:=RnL.calls (rt:=fun v'=>.tuple #[v',.int .i64 (m:Int)]) (fn:=50) (args:=#[.agg #[.slice f0 (rC C).length fc0,.slice f1 (rL L).length fc1],.int .i64 n]) HN.out q4 HY.out hbud' (fun W hW=>by rw [hD,hE];exact RP W hW)
 unfold ActS at hS0 hSa RA RB
 clear RP bx4 HY HN q4 hbud' hD hE
 go_wp2_with fail
 go_region_held3 (fun w'=>w'.cell? ⟨B,0,none⟩=some (.slice f0 (rC C).length fc0)/\w'.cell? ⟨B,1,none⟩=some (.slice f1 (rL L).length fc1)/\w'.cell? ⟨wr.heap.size,0,none⟩=some (.int .i64 3)/\w'.cell? ⟨wr.heap.size,1,none⟩=some (.int .i64 n)/\w'.cell? ⟨wr.heap.size,2,none⟩=some (.int .i64 by_)/\w'.cell? ⟨wr.heap.size,3,none⟩=some (.string t)/\w'.cell? ⟨wr.heap.size,4,none⟩=some (.bool raw)) (first|(go_keep;done)|exact hSa _|exact hka _|exact hkb) ((first
  | (go_at_call 50
     refine Calls.at_args RA (by with_reducible rfl) ?_
     rintro e w5 ⟨g0,n0,c0,g1,n1,c1,rfl,hk5,hka,HA⟩)
  | (go_at_call 50
     refine Calls.at_args RB (by with_reducible rfl) ?_
     rintro e w5 ⟨g0,n0,c0,g1,n1,c1,rfl,hk5,hkb,⟨⟨t0,t1⟩,t2,t3⟩,HA⟩)))
 all_goals (
  clear x0 x1 y0 y1 y2 y3 y4
  first
   | obtain ⟨⟨z0,z1⟩,⟨b0,b1,b2,b3⟩,HG⟩:=HA.out _ rfl
   | obtain ⟨⟨z0,z1⟩,⟨b0,b1,b2,b3⟩,HG⟩:=HA.out
  go_wp2_with fail
  go_ret2
  exact ⟨by simp,HG⟩)
end
section
variable {w1 wr w':World} {B sb rb ti tl k a nx:Nat} {v0 v1:Value} {K:Nat->Prop} {C:List Ck} {L:List Lg}
theorem RnL.stay (h:RnL w1 B sb rb ti tl k v0 v1 K C L nx a wr) (q:Chs w1 wr w' K sb rb ti tl 30000 1000 a C L nx (cpg C)):RnL w1 B sb rb ti tl k v0 v1 K C L nx a w':=by
 have hk:=q.kept
 exact ⟨q.reset,(hk B h.kb).trans h.box,h.kb,h.ref.keepW (h.loc.mono fun j hj=>hj.1) hk fun j e=>q.klt e,h.loc,h.lo,h.bud⟩
theorem RnL.up (h:RnL w1 B sb rb ti tl k v0 v1 K C L nx a wr):RnL w1 B sb rb ti tl (k+1) v0 v1 K C L nx a wr:=⟨h.st,h.box,h.kb,h.ref,h.loc,h.lo,h.bud.same⟩
theorem RnL.xs (h:RnL w1 B sb rb ti tl k v0 v1 K C L nx a wr):wr.cell? ⟨B,0,none⟩=some v0/\wr.cell? ⟨B,1,none⟩=some v1:=⟨cell_lit h.box rfl,cell_lit h.box rfl⟩
theorem Do_else (what n by_:Int) (t:ByteArray) (raw:Bool) (h:Hid (RnL w1 B sb rb ti tl k v0 v1 K C L nx a wr)) (hw:what≠0/\what≠1/\what≠2/\what≠3/\what≠4/\what≠5) :
 Calls Tryz.prog 47 #[.pointer (some ⟨sb,0,none⟩),.pointer (some ⟨B,0,none⟩),.agg #[.int .i64 what,.int .i64 n,.int .i64 by_,.string t,.bool raw]] wr fun e w'=>e=.returned (.tuple #[.bool true,.bool false])/\Hid (∃ v0' v1' K' C2 L2 nx2 a2,RnL w1 B sb rb ti tl (k+1) v0' v1' K' C2 L2 nx2 a2 w'):=by
 obtain ⟨h0,h1,h2,h3,h4,h5⟩:=hw
 have d0:(what == 0)=false:=by simpa using h0
 have d1:(what == 1)=false:=by simpa using h1
 have d2:(what == 2)=false:=by simpa using h2
 have d3:(what == 3)=false:=by simpa using h3
 have d4:(what == 4)=false:=by simpa using h4
 have d5:(what == 5)=false:=by simpa using h5
 have HG:=Hd (h.out.below ((Below.refl _ _).alloc (Nat.le_refl _) (.cells #[.int .i64 what,.int .i64 n,.int .i64 by_,.string t,.bool raw] 96))).up
 clear h h0 h1 h2 h3 h4 h5
 go_enter Tryz.func47,Tryz.ntmps47
 go_wp2_with fail
 go_ret2
 exact ⟨rfl,Hd ⟨_,_,_,_,_,_,_,HG.out⟩⟩
theorem Do_get (n by_:Int) (t:ByteArray) (raw:Bool) (h:Hid (RnL w1 B sb rb ti tl k v0 v1 K C L nx a wr)) (hk:k<80) :
 Calls Tryz.prog 47 #[.pointer (some ⟨sb,0,none⟩),.pointer (some ⟨B,0,none⟩),.agg #[.int .i64 4,.int .i64 n,.int .i64 by_,.string t,.bool raw]] wr fun e w'=>e=.returned (.tuple #[.bool true,.bool false])/\Hid (∃ v0' v1' K' C2 L2 nx2 a2,RnL w1 B sb rb ti tl (k+1) v0' v1' K' C2 L2 nx2 a2 w'):=by
 have hN:=h.out.new (actO 4 n by_ t raw)
 obtain ⟨W1,hW1⟩:=exE (wr.alloc (.cells #[.int .i64 4,.int .i64 n,.int .i64 by_,.string t,.bool raw] 96))
 rw [show wr.alloc (actO 4 n by_ t raw)=W1 from hW1] at hN
 have hy:W1.heap[wr.heap.size]?=some (actO 4 n by_ t raw):=by rw [<-hW1];exact heap_alloc_new _ _
 obtain ⟨f0,fc0,f1,fc1,hf⟩:=h.out.ref.form
 cases hf
 have HN0:=Hd hN
 obtain ⟨y0,y1,y2,y3,y4⟩:=act_cells (K:=K) (fun _ _=>rfl) hy
 have x0:=cell_lit hN.box (i:=0) rfl
 have x1:=cell_lit hN.box (i:=1) rfl
 obtain ⟨⟨s1,s2,s3⟩,-⟩:=hN.sm hk
 have NM:Calls Tryz.prog 98 #[.agg #[.slice f0 (rC C).length fc0,.slice f1 (rL L).length fc1],.agg #[.int .i64 4,.int .i64 n,.int .i64 by_,.string t,.bool raw]] W1.drew fun e w'=>∃ id,e=.returned (.string id)/\(w'.cell? ⟨B,0,none⟩=some (.slice f0 (rC C).length fc0)/\w'.cell? ⟨B,1,none⟩=some (.slice f1 (rL L).length fc1)/\w'.cell? ⟨wr.heap.size,0,none⟩=some (.int .i64 4)/\w'.cell? ⟨wr.heap.size,1,none⟩=some (.int .i64 n)/\w'.cell? ⟨wr.heap.size,2,none⟩=some (.int .i64 by_)/\w'.cell? ⟨wr.heap.size,3,none⟩=some (.string t)/\w'.cell? ⟨wr.heap.size,4,none⟩=some (.bool raw))/\Hid (Below W1.heap.size W1 w'):=by
  refine (nameL_c (.agg #[.slice f0 (rC C).length fc0,.slice f1 (rL L).length fc1]) (rC C) (rL L) (4,n,by_,t,raw) W1.drew (hN.ref.below (Below.refl _ _).drew) (by rw [rC_lenC];omega)).mono ?_
  rintro e w' ⟨id,rfl,hb⟩
  have hb2:Below W1.heap.size W1 w':=(Below.refl W1.heap.size W1).drew.trans hb.out
  have q1:=(hb2.block _ (lt_of_heap hN.box)).trans hN.box
  have q2:=(hb2.block _ (lt_of_heap hy)).trans hy
  exact ⟨id,rfl,ActS.of q1 q2,Hd hb2⟩
 have HY0:=Hd hy
 clear hN hy h s1 s2 s3
 go_enter Tryz.func47,Tryz.ntmps47
 go_wp2_with fail
 clear hW1
 go_region_held3 (fun w'=>w'.cell? ⟨B,0,none⟩=some (.slice f0 (rC C).length fc0)/\w'.cell? ⟨B,1,none⟩=some (.slice f1 (rL L).length fc1)/\w'.cell? ⟨wr.heap.size,0,none⟩=some (.int .i64 4)/\w'.cell? ⟨wr.heap.size,1,none⟩=some (.int .i64 n)/\w'.cell? ⟨wr.heap.size,2,none⟩=some (.int .i64 by_)/\w'.cell? ⟨wr.heap.size,3,none⟩=some (.string t)/\w'.cell? ⟨wr.heap.size,4,none⟩=some (.bool raw)) (go_keep) ((first
  | (go_at_call 98
     refine Calls.at_args NM (by with_reducible rfl) ?_
     rintro e w2 ⟨id,rfl,hk2,HB2⟩)))
 have hN:=HN0.out.below HB2.out
 have hy:=(HB2.out.block _ (lt_of_heap HY0.out)).trans HY0.out
 have HN:=Hd hN
 have HY:=Hd hy
 clear x0 x1 y0 y1 y2 y3 y4
 obtain ⟨x0,x1,y0,y1,y2,y3,y4⟩:=hk2
 clear hN hy HN0 HY0 HB2 NM
 have hsm:=(HN.out.sm hk).1
 have HST:=Hd hsm
 cases hf:cAt C id with
 | none =>
   have GP:=Get_none2 w1 w2 w2 _ sb rb ti tl 30000 1000 a nx C L (cpg C) id (Hd HN.out.st) ⟨by omega,by decide⟩ hf
   have hg0:getR (rC C) id=(⟨#[]⟩,6):=by unfold getR;rw [fnd_rC,hf];rfl
   go_wp2_with fail
   refine GP.mono ?_
   rintro e w3 ⟨rfl,q3⟩
   have HN3:=Hd (HN.out.stay q3.out)
   clear x0 x1 y0 y1 y2 y3 y4 GP
   obtain ⟨x0,x1⟩:=HN3.out.xs
   have R3:=Get_rc _ (rC C) (rL L) id w3 HN3.out.ref (by rw [rC_lenC];omega)
   rw [hg0] at R3
   go_wp2_with fail
   refine R3.mono ?_
   rintro e w4 ⟨rfl,hb4⟩
   have HN4:=Hd (HN3.out.below hb4.out)
   clear x0 x1 R3
   obtain ⟨x0,x1⟩:=HN4.out.xs
   have C4:=Count_none2 w1 w4 w4 _ sb rb ti tl 30000 1000 a nx C L (cpg C) id (Hd HN4.out.st) ⟨by omega,by decide⟩ hf
   go_wp2_with fail
   refine C4.mono ?_
   rintro e w5 ⟨rfl,q5⟩
   have HN5:=Hd (HN4.out.stay q5.out)
   clear x0 x1 C4
   obtain ⟨x0,x1⟩:=HN5.out.xs
   have P5:=Pending_rc _ (rC C) (rL L) id w5 HN5.out.ref (by rw [rL_lenC];omega) (lg_by L)
   go_wp2_with fail
   refine P5.mono ?_
   rintro e w6 ⟨rfl,hb6⟩
   have HN6:=Hd (HN5.out.below hb6.out)
   clear x0 x1 P5
   obtain ⟨x0,x1⟩:=HN6.out.xs
   have HG:=Hd (HN6.out.below (Below.refl w6.heap.size w6).drew).up
   clear hf hg0 HN HY HN3 HN4 HN5 HN6 q3 q5 hb4 hb6 hsm
   generalize (pendR (rL L) id).1=ps at *
   generalize ((pendR (rL L) id).2:Int)=pn at *
   go_wp2_with fail
   refine wp_region_noPanic ?_
   refine wp_region_held_drew (S:=(fun (w':World)=>w'.cell? ⟨B,0,none⟩=some (.slice f0 (rC C).length fc0)/\w'.cell? ⟨B,1,none⟩=some (.slice f1 (rL L).length fc1))) (by kernel_rfl) ?_ (fun hHeld=>?_)
   ·exact ⟨x0,x1⟩
   refine' tkH 0 rfl ?_
   try simp only [Act.put,List.setIfInBounds_toArray,List.set_cons_zero,List.set_cons_succ,List.getElem_toArray,List.getElem_cons_zero]
   refine' tkH 1 rfl ?_;try simp only [Act.put,awL]
   refine' tkH 2 rfl ?_;try simp only [Act.put,awL]
   refine' tkH 3 rfl ?_;try simp only [Act.put,awL]
   refine' tkH 4 rfl ?_;try simp only [Act.put,awL]
   refine' tkH 5 rfl ?_;try simp only [Act.put,awL]
   refine' tkH 6 rfl ?_;try simp only [Act.put,awL]
   refine' tkH 7 rfl ?_;try simp only [Act.put,awL]
   refine' tkH 8 rfl ?_;try simp only [Act.put,awL]
   refine' tkH 9 rfl ?_;try simp only [Act.put,awL]
   refine' tkH 10 rfl ?_;try simp only [Act.put,awL]
   refine' tkH 11 rfl ?_ (Or.inr ⟨by rfl,rfl⟩)
   try simp only [Act.put,awL]
   refine' tkH 12 rfl ?_ (Or.inr ⟨by rfl,rfl⟩)
   try simp only [Act.put,awL]
   refine' tkH 13 rfl ?_ (Or.inr ⟨by rfl,rfl⟩)
   try simp only [Act.put,awL]
   refine' tkH 14 rfl ?_ (Or.inr ⟨by rfl,rfl⟩)
   try simp only [Act.put,awL]
   refine' tkH 15 rfl ?_ (Or.inr ⟨by rfl,rfl⟩)
   try simp only [Act.put,awL]
   refine' tkH 16 rfl ?_ (Or.inr ⟨by rfl,rfl⟩)
   try simp only [Act.put,awL]
   refine' tkH 17 rfl ?_ (Or.inr ⟨by rfl,rfl⟩)
   try simp only [Act.put,awL]
   refine' tkH 18 rfl ?_ (Or.inr ⟨by rfl,rfl⟩)
   try simp only [Act.put,awL]
   refine' tkH 19 rfl ?_ (Or.inr ⟨by rfl,rfl⟩)
   try simp only [Act.put,awL]
   refine' tkH 20 rfl ?_ (Or.inr ⟨by rfl,rfl⟩)
   try simp only [Act.put,awL]
   refine' tkH 21 rfl ?_ (Or.inr ⟨by rfl,rfl⟩)
   try simp only [Act.put,awL]
   refine' tkH 22 rfl ?_ (Or.inr ⟨by rfl,rfl⟩)
   try simp only [Act.put,awL]
   refine' tkH 23 rfl ?_ (Or.inr ⟨by rfl,rfl⟩)
   try simp only [Act.put,awL]
   refine' tkH 24 rfl ?_ (Or.inr ⟨by rfl,rfl⟩)
   try simp only [Act.put,awL]
   refine' tkH 25 rfl ?_ (Or.inr ⟨by rfl,rfl⟩)
   try simp only [Act.put,awL]
   refine' tkH 26 rfl ?_ (Or.inr ⟨by rfl,rfl⟩)
   try simp only [Act.put,awL]
   refine' tkH 27 rfl ?_ (Or.inr ⟨by rfl,rfl⟩)
   try simp only [Act.put,awL]
   refine' tkH 28 rfl ?_ (Or.inr ⟨by rfl,rfl⟩)
   try simp only [Act.put,awL]
   refine' tkH 29 rfl ?_ (Or.inr ⟨by rfl,rfl⟩)
   try simp only [Act.put,awL]
   refine' tkH 30 rfl ?_ (Or.inr ⟨by rfl,rfl⟩)
   try simp only [Act.put,awL]
   refine' tkH 31 rfl ?_ (Or.inr ⟨by rfl,rfl⟩)
   try simp only [Act.put,awL]
   refine' tkH 32 rfl ?_ (Or.inr ⟨by rfl,rfl⟩)
   try simp only [Act.put,awL]
   refine' tkH 33 rfl ?_ (Or.inr ⟨by rfl,rfl⟩)
   try simp only [Act.put,awL]
   refine' tkH 34 rfl ?_;try simp only [Act.put,awL]
   refine' tkH 35 rfl ?_;try simp only [Act.put,awL]
   refine' tkH 36 rfl ?_;try simp only [Act.put,awL]
   refine wpAnyH_done (by kernel_rfl) ?_ _
   refine NoPanic.normal ?_
   go_wp2_with fail
   go_ret2
   exact ⟨by simp,Hd ⟨_,_,_,_,_,_,_,HG.out⟩⟩
 | some c =>
   have his:=cAt_id hf HN.out.st.ok.1
   have hmem:=(cAt_some hf).1
   have GP:=Get_yes w1 w2 w2 _ sb rb ti tl 30000 1000 a nx C L (cpg C) id c (Hd HN.out.st) ⟨by omega,by decide⟩ (by omega) hf (List.mem_map.2 ⟨c,hmem,rfl⟩)
   have hg0:getR (rC C) id=(c.text,0):=by unfold getR;rw [fnd_rC,hf];rfl
   have hfr:fndR (rC C) id=some (c.id,c.text,c.cnt):=by rw [fnd_rC,hf];rfl
   obtain ⟨i,hi,hci,hxi,-⟩:=ixR_some hfr
   have hpn:=(pendR_rL L id).1
   go_wp2_with fail
   refine GP.mono ?_
   rintro e w3 ⟨rfl,q3⟩
   have HN3:=Hd (HN.out.stay q3.out)
   clear x0 x1 y0 y1 y2 y3 y4 GP
   obtain ⟨x0,x1⟩:=HN3.out.xs
   have R3:=Get_rc _ (rC C) (rL L) id w3 HN3.out.ref (by rw [rC_lenC];omega)
   rw [hg0] at R3
   go_wp2_with fail
   refine R3.mono ?_
   rintro e w4 ⟨rfl,hb4⟩
   have HN4:=Hd (HN3.out.below hb4.out)
   clear x0 x1 R3
   obtain ⟨x0,x1⟩:=HN4.out.xs
   have C4:=Count_yes w1 w4 w4 _ sb rb ti tl 30000 1000 a nx C L (cpg C) id c (Hd HN4.out.st) ⟨by omega,by decide⟩ (by omega) hf (by omega)
   go_wp2_with fail
   refine C4.mono ?_
   rintro e w5 ⟨rfl,q5⟩
   have HN5:=Hd (HN4.out.stay q5.out)
   clear x0 x1 C4
   obtain ⟨x0,x1⟩:=HN5.out.xs
   have P5:=Pending_rc _ (rC C) (rL L) id w5 HN5.out.ref (by rw [rL_lenC];omega) (lg_by L)
   rw [hpn] at P5
   go_wp2_with fail
   refine P5.mono ?_
   rintro e w6 ⟨rfl,hb6⟩
   have HN6:=Hd (HN5.out.below hb6.out)
   clear x0 x1 P5
   obtain ⟨x0,x1⟩:=HN6.out.xs
   obtain ⟨xa,xl,hx,rA,-⟩:=HN6.out.ref
   cases hx
   obtain ⟨-,-,c2⟩:=ckC_get hi
   obtain ⟨b,off,rfl,hb,hcell⟩:=rA.get c2
   have cq:w6.cell? ⟨b,off+i*3+2,none⟩=some (.int .i64 c.cnt):=by
    have:=hcell _ _ c2
    rw [hci] at this
    exact this
   have ATC:Calls Tryz.prog 102 #[.agg #[.slice (some ⟨b,off,none⟩) (rC C).length fc0,.slice f1 (rL L).length fc1],.string id] w6.drew fun e w'=>e=.returned (.int .i64 (i:Int))/\(w'.cell? ⟨B,0,none⟩=some (.slice (some ⟨b,off,none⟩) (rC C).length fc0)/\w'.cell? ⟨B,1,none⟩=some (.slice f1 (rL L).length fc1)/\w'.cell? ⟨b,off+i*3+2,none⟩=some (.int .i64 c.cnt))/\Hid (Below w6.heap.size w6 w'):=by
    have:=At_rc (.agg #[.slice (some ⟨b,off,none⟩) (rC C).length fc0,.slice f1 (rL L).length fc1]) (rC C) (rL L) id w6.drew (HN6.out.ref.below (Below.refl _ _).drew) (by rw [rC_lenC];omega)
    rw [hxi] at this
    refine this.mono ?_
    rintro e w' ⟨rfl,h7⟩
    have hb7:Below w6.heap.size w6 w':=(Below.refl w6.heap.size w6).drew.trans h7.out
    obtain ⟨z0,z1⟩:=(HN6.out.below hb7).xs
    exact ⟨rfl,⟨z0,z1,(hb7.cell (p:=⟨b,off+i*3+2,none⟩) hb).trans cq⟩,Hd hb7⟩
   have HG:Hid (∀ W,Below w6.heap.size w6 W->RnL w1 B sb rb ti tl (k+1) (.slice (some ⟨b,off,none⟩) (rC C).length fc0) (.slice f1 (rL L).length fc1) (fun j=>K j\/j=wr.heap.size) C L nx a W):=Hd fun W hW=>(HN6.out.below hW).up
   have hil:i<(rC C).length:=hi
   have hlen:(rC C).length<=1000:=by rw [rC_lenC];omega
   clear hf hg0 HN HY HN3 HN4 HN5 HN6 q3 q5 hb4 hb6 hsm his hmem hfr hci hxi hpn rA c2 hcell hb hi
   generalize pend L id=ps at *
   generalize ((pendR (rL L) id).2:Int)=pn at *
   generalize c.text=ct at *
   go_wp2_with fail
   refine wp_region_noPanic ?_
   refine wp_region_held_drew (S:=(fun (w':World)=>w'.cell? ⟨B,0,none⟩=some (.slice (some ⟨b,off,none⟩) (rC C).length fc0)/\w'.cell? ⟨B,1,none⟩=some (.slice f1 (rL L).length fc1)/\w'.cell? ⟨b,off+i*3+2,none⟩=some (.int .i64 c.cnt))) (by kernel_rfl) ?_ (fun hHeld=>?_)
   ·exact ⟨x0,x1,cq⟩
   refine' tkH 0 rfl ?_
   try simp only [Act.put,List.setIfInBounds_toArray,List.set_cons_zero,List.set_cons_succ,List.getElem_toArray,List.getElem_cons_zero]
   refine' tkH 1 rfl ?_;try simp only [Act.put,awL]
   refine' tkH 2 rfl ?_;try simp only [Act.put,awL]
   refine' tkH 3 rfl ?_ (Or.inr ⟨by rfl,rfl⟩)
   try simp only [Act.put,awL]
   refine' tkH 4 rfl ?_ (Or.inr ⟨by rfl,rfl⟩)
   try simp only [Act.put,awL]
   refine' tkH 5 rfl ?_;try simp only [Act.put,awL]
   refine' tkH 6 rfl ?_;try simp only [Act.put,awL]
   refine' tkH 7 rfl ?_ (Or.inr ⟨by rfl,rfl⟩)
   try simp only [Act.put,awL]
   refine' tkH 8 rfl ?_ (Or.inr ⟨by rfl,rfl⟩)
   try simp only [Act.put,awL]
   refine' tkH 9 rfl ?_;try simp only [Act.put,awL]
   refine' tkH 10 rfl ?_;try simp only [Act.put,awL]
   refine' tkH 11 rfl ?_;try simp only [Act.put,awL]
   refine' tkH 12 rfl ?_;try simp only [Act.put,awL]
   refine' tkH 13 rfl ?_;try simp only [Act.put,awL]
   refine' tkH 14 rfl ?_;try simp only [Act.put,awL]
   refine' tkH 15 rfl ?_;try simp only [Act.put,awL]
   refine' tkH 16 rfl ?_;try simp only [Act.put,awL]
   refine' tkH 17 rfl ?_;try simp only [Act.put,awL]
   refine' tkH 18 rfl ?_;try simp only [Act.put,awL]
   refine' tkH 19 rfl ?_;try simp only [Act.put,awL]
   refine' tkH 20 rfl ?_;try simp only [Act.put,awL]
   refine' tkH 21 rfl ?_;try simp only [Act.put,awL]
   refine' tkH 22 rfl ?_;try simp only [Act.put,awL]
   refine wpAnyH_ready (rs:=[23]) (by kernel_rfl) (by simp) ?_
   refine AllReadyH.cons rfl (fun K hK=>?_) AllReadyH.nil
   go_simp
   go_at_call 102
   refine Calls.at_args ATC (by with_reducible rfl) ?_
   rintro e w7 ⟨rfl,hk7,HB7⟩
   refine hK.out _ _ ?_ (fun hHeld=>?_)
   ·exact hk7
   clear hK K
   try simp only [Act.put,awL]
   refine' tkH 24 rfl ?_;try simp only [Act.put,awL]
   refine' tkH 25 rfl ?_;try simp only [Act.put,awL]
   refine' tkH 26 rfl ?_;try simp only [Act.put,awL]
   refine' tkH 27 rfl ?_;try simp only [Act.put,awL]
   refine' tkH 28 rfl ?_;try simp only [Act.put,awL]
   refine' tkH 29 rfl ?_;try simp only [Act.put,awL]
   refine' tkH 30 rfl ?_;try simp only [Act.put,awL]
   refine' tkH 31 rfl ?_;try simp only [Act.put,awL]
   refine' tkH 32 rfl ?_;try simp only [Act.put,awL]
   refine' tkH 33 rfl ?_;try simp only [Act.put,awL]
   refine' tkH 34 rfl ?_;try simp only [Act.put,awL]
   refine' tkH 35 rfl ?_;try simp only [Act.put,awL]
   refine' tkH 36 rfl ?_;try simp only [Act.put,awL]
   refine wpAnyH_done (by kernel_rfl) ?_ _
   refine NoPanic.normal ?_
   go_wp2_with fail
   go_ret2
   exact ⟨by simp,Hd ⟨_,_,_,_,_,_,_,HG.out _ HB7.out⟩⟩
end
end Go.Proofs.YtdcjhpafipbpkaaGreatDoor
