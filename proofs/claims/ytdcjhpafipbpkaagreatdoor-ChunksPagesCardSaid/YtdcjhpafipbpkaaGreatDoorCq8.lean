/- Parts of the proof of ChunksPages,joined: RprD,RfsC,RfsD,RfsE,RfsF,RfsG,RfsH,RfsI,RcpS. No condition. -/
import Derived.Test.YtdcjhpafipbpkaaGreatDoorCq7
import Derived.Laws.ResultCell
set_option linter.unusedSimpArgs false
set_option linter.unusedVariables false
set_option linter.unusedSectionVars false
namespace Go.Proofs.YtdcjhpafipbpkaaGreatDoor
set_option maxRecDepth 100000
set_option maxHeartbeats 8000000
open Go.RowKit
theorem refWords_len (s:ByteArray) (h:s.size*8<18446744073709551616):∃ M,(refWords s).length=16*M/\(1<=M/\M<=s.size / 64+2)/\All32 (refWords s):=by
 have h0:=fullL_len s
 obtain ⟨q1,q2⟩:=wordsL_lt ((fullL s).length / 4) (fullL s) (by omega) (fullL_lt s)
 rw [full_words s h] at q1 q2
 have h1:s.size+9<=(fullL s).length/\(fullL s).length<=s.size+73:=by
  unfold fullL padL zerosN
  simp only [List.length_append,List.length_cons,List.length_replicate,byteL_len]
  have:(sizeL s.size).length=8:=by simp [sizeL]
  omega
 exact ⟨(fullL s).length / 64,by omega,⟨by omega,by omega⟩,q2⟩
theorem NmO.form {w wr:World} {o:List Nat} {v:Value} (h:NmO w o v wr) (ho:0<o.length):∃ g cap,v=.slice (some ⟨g,0,none⟩) o.length cap/\w.heap.size<=g/\g<wr.heap.size/\o.length<=cap:=by
 rcases h.1.2 with ⟨rfl,h0⟩|⟨g,cap,cur,rfl,h1,h2,h3,-⟩
 ·omega
 ·exact ⟨g,cap,rfl,h1,(h.1.lt g rfl).2,h3⟩
theorem NmO.rd {w wr:World} {o:List Nat} {v:Value} (h:NmO w o v wr):RdRow wr v o.length 1 (u64C o):=RdRow.own h.1
structure ByO (w:World) (g7 c7 g8 c8:Nat) (ws:List Nat) (H:List Nat) (wr:World):Prop where
 sums:wr.ownsRow w.heap.size 134 1 (.slice (some ⟨g7,0,none⟩) 8 c7) 8 (u64C H)
 all:RdRow wr (.slice (some ⟨g8,0,none⟩) ws.length c8) ws.length 1 (u64C ws)
 ne:g7≠g8
 bel:Below w.heap.size w wr
theorem u64C_one (l:List Nat):∀ u∈u64C l,u.oneCell'=true:=by
 intro u hu
 obtain ⟨x,-,rfl⟩:=List.mem_map.1 hu
 rfl
theorem extW_32 {b:List Nat} (h:All32 b):∀ j,All32 (extW b j)
 | 0=>h
 | j+1=>fun x hx=>by
   rcases List.mem_append.1 hx with hx|hx
   ·exact extW_32 h j x hx
   ·rw [List.mem_singleton.1 hx];exact Nat.mod_lt _ (by decide)
structure ByA (w:World) (g7 c7 g8 c8 g12 c12:Nat) (ws:List Nat) (H L:List Nat) (wr:World):Prop where
 sums:wr.ownsRow w.heap.size 134 1 (.slice (some ⟨g7,0,none⟩) 8 c7) 8 (u64C H)
 all:RdRow wr (.slice (some ⟨g8,0,none⟩) ws.length c8) ws.length 1 (u64C ws)
 vv:RdRow wr (.slice (some ⟨g12,0,none⟩) 8 c12) 8 1 (u64C L)
 ne:g7≠g8
 nv:g7≠g12
 bel:Below w.heap.size w wr
theorem own_set {w:World} {base n g cap:Nat} {e:TypeId} {xs:List Value} (h:w.ownsRow base e 1 (.slice (some ⟨g,0,none⟩) n cap) n xs) (i:Nat) (hi:i<n) (u:Value):(w.setCell ⟨g,i,none⟩ u).ownsRow base e 1 (.slice (some ⟨g,0,none⟩) n cap) n (xs.set i u):=by
 refine ⟨by rw [List.length_set];exact h.1,?_⟩
 rcases h.2 with ⟨h0,-⟩|⟨g',cap',cur,e',a1,a2,a3,a4,a5,a6⟩
 ·cases h0
 ·cases e'
  refine .inr ⟨g,cap,_,rfl,a1,heap_set_lit (i:=i) a2 u,a3,a4,by rw [Array.size_setIfInBounds];exact a5,?_⟩
  rw [<-a6,Array.toList_setIfInBounds,List.take_set]
theorem RdRow.setNe {w:World} {b off n cap sz:Nat} {m:Nat} {xs:List Value} (h:RdRow w (.slice (some ⟨b,off,none⟩) m cap) n sz xs) {x i:Nat} (hx:b≠x) (u:Value):RdRow (w.setCell ⟨x,i,none⟩ u) (.slice (some ⟨b,off,none⟩) m cap) n sz xs:=by
 obtain ⟨a,c,e,h1,h2,h3,h4⟩:=h
 cases e
 obtain ⟨b',o',e',h5,h6⟩:=h4 _ rfl
 cases e'
 refine ⟨_,_,rfl,h1,h2,h3,fun ad e=>?_⟩
 cases e
 refine ⟨b,off,rfl,by simpa using h5,fun j v hv=>?_⟩
 have:=h6 j v hv
 rw [<-this]
 simp only [World.cell?,heap_set_ne _ hx]
theorem ByA.set {w wr:World} {g7 c7 g8 c8 g12 c12:Nat} {ws H L:List Nat} (h:ByA w g7 c7 g8 c8 g12 c12 ws H L wr) {i:Nat} (hi:i<8) (z:Nat):ByA w g7 c7 g8 c8 g12 c12 ws (H.set i z) L (wr.setCell ⟨g7,i,none⟩ (.int .u64 (z:Int))):=by
 have hl:=h.sums.lt g7 rfl
 refine ⟨?_,h.all.setNe h.ne.symm _,h.vv.setNe h.nv.symm _,h.ne,h.nv,h.bel.setCell hl.1 _⟩
 have:=own_set h.sums i hi (.int .u64 (z:Int))
 have e:(u64C H).set i (.int .u64 (z:Int))=u64C (H.set i z):=by unfold u64C;rw [List.map_set]
 rwa [e] at this
theorem ByA.drew {w wr:World} {g7 c7 g8 c8 g12 c12:Nat} {ws H L:List Nat} (h:ByA w g7 c7 g8 c8 g12 c12 ws H L wr):ByA w g7 c7 g8 c8 g12 c12 ws H L wr.drew:=⟨h.sums,h.all,h.vv,h.ne,h.nv,h.bel.drew⟩
def ByF (w:World) (g7 c7:Nat) (H:List Nat) (p:Nat) (o:ByteArray) (wr:World):Prop :=
 o.data.toList=(outL H).take p/\wr.ownsRow w.heap.size 134 1 (.slice (some ⟨g7,0,none⟩) 8 c7) 8 (u64C H)/\Below w.heap.size w wr
theorem V8.list_len (v:V8):v.list.length=8:=rfl
theorem V8.list_32 {v:V8} (h:v.Ok):All32 v.list:=fun x hx=>by
 simp only [V8.list,List.mem_cons,List.not_mem_nil,or_false] at hx
 rcases hx with rfl|rfl|rfl|rfl|rfl|rfl|rfl|rfl
 ·exact h.a
 ·exact h.b
 ·exact h.c
 ·exact h.d
 ·exact h.e
 ·exact h.f
 ·exact h.g
 ·exact h.h
theorem refAll_succ (h ws:List Nat) (m:Nat):refAll h ws (m+1)=refBlk (refAll h ws m) ((ws.drop (16*m)).take 16):=rfl
theorem refBlk_eq (h b:List Nat):refBlk h b=addTo h (refR (V8.of h) b 64).list 8:=rfl
theorem V8.of_list {h:List Nat} (hl:h.length=8):(V8.of h).list=h:=by
 match h,hl with
 | [a,b,c,d,e,f,g,i],_=>rfl
theorem refStep_ok {v:V8} (h:v.Ok) (k w:Nat):(refStep v k w).Ok :=
 ⟨Nat.mod_lt _ (by decide),h.a,h.b,h.c,Nat.mod_lt _ (by decide),h.e,h.f,h.g⟩
theorem refR_ok {v:V8} (h:v.Ok) (b:List Nat):∀ t,(refR v b t).Ok
 | 0=>h
 | t+1=>refStep_ok (refR_ok h b t) _ _
theorem By_c (s:ByteArray) (v1 v2:Value) (w:World) (hs:s.size<=100000) (h1:RdRow w v1 8 1 (u64C pn0.h)) (h2:RdRow w v2 64 1 (u64C kL)) :
 Calls Tryz.prog 193 #[.string s,v1,v2] w fun e w'=>e=.returned (.string (prB s))/\Hid (Below w.heap.size w w'):=by
 obtain ⟨jU,hjU,hU0,hU1,hU2⟩:=info_parts infoU64
 obtain ⟨M,hM1,hM2,hM3⟩:=refWords_len s (by omega)
 have HPR:=Hd (pr_ref s (by omega))
 have WC:Hid (∀ W,Calls Tryz.prog 230 #[.string s] W fun e w'=>∃ v,e=.returned v/\Hid (NmO W (refWords s) v w')):=Hd fun W=>words_c s W hs
 obtain ⟨ws,hws⟩:=exE (refWords s)
 rw [hws] at hM1 hM3 HPR WC
 have HMS:=Hd (show 1<=M/\M<=2000 by omega)
 have HM1:=Hd hM1
 have H32:=Hd hM3
 have HK:=Hd h2
 have HY:=Hd h1.yields
 obtain ⟨a2,c2,rfl,hc2⟩:=h2.form
 obtain ⟨bk,ok,rfl,-,-⟩:=h2.get (u64C_get (l:=kL) (i:=0) (by decide))
 obtain ⟨a1,c1,rfl,hc1⟩:=h1.form
 clear h1 h2 hM1 hM2 hM3 hs hws hc1 hc2
 go_enter Tryz.func193,Tryz.ntmps193
 go_wp2_with (first
  | (refine chkA 277 277 ⟨_,_,by with_reducible rfl⟩ ?_
     refine wpList_append_y (by rfl) _ _ _ rfl w.heap.size 134 jU _ 1 8 Tryz.underlying277 hjU hU0 hU1 hU2 rfl (by decide) (.slice none 0 0) 0 [] (by rfl) (World.ownsRow_nil _ _ _ _) _ 8 _ (by rfl) HY.out rfl (by decide) (by decide) (by decide) (Nat.le_refl _) ?_
     intro v7 W1 ho7 hg7 ha7
     have H7:Hid (NmO w pn0.h v7 W1):=Hd ⟨ho7,(Below.refl _ _).grown hg7 (Nat.le_refl _) fun j e=>(by cases e)⟩
     clear ho7 hg7 ha7))
 refine (WC.out W1).mono ?_
 rintro e W2 ⟨v8,rfl,H8⟩
 clear WC HY
 obtain ⟨g7,c7,rfl,k1,k2,k3⟩:=H7.out.form (by decide)
 obtain ⟨g8,c8,rfl,l1,l2,l3⟩:=H8.out.form (by have:=HM1.out;have:=HMS.out;omega)
 have R0:Hid (ByO w g7 c7 g8 c8 ws (refAll pn0.h ws 0) W2):=Hd
  ⟨own_same H7.out.1 fun j e=>by cases e;exact H8.out.2.block g7 k2,H8.out.rd,by omega,H7.out.2.trans (H8.out.2.mono H7.out.2.size)⟩
 have HC8:=Hd l3
 rw [show pn0.h.length=8 from rfl]
 clear H7 H8 k1 k2 k3 l1 l2 l3
 go_wp2_with fail
 go_loopg [9] M (fun g s9 wr=>∃ (m at_:Nat),g=M-m/\m<=M/\at_=16*m/\s9=.int .i64 (at_:Int)/\Hid (ByO w g7 c7 g8 c8 ws (refAll pn0.h ws m) wr))
 case atStart=>exact ⟨0,0,rfl,Nat.zero_le _,rfl,rfl,R0⟩
 case round =>
  obtain ⟨wo,rfl⟩:∃ x,x=wr:=⟨_,rfl⟩
  obtain ⟨m,at_,rfl,hm,hat,rfl,HR⟩:=hrel
  clear R0
  by_cases hlt:m<M
  ·-- part 5 begins
   have hl1:at_+16<=ws.length:=by rw [HM1.out];omega
   have HAT:=Hd hat
   have HLT:=Hd hlt
   have hlc:ws.length<=c8:=HC8.out
   have hsz:ws.length<=32000:=by rw [HM1.out];have:=HMS.out;omega
   -- the block's own numbers
   obtain ⟨b,hb⟩:=exE ((ws.drop at_).take 16)
   have hbl:b.length=16:=by rw [<-hb,List.length_take,List.length_drop];omega
   have HBL:=Hd hbl
   have HB:=Hd hb
   have hb32:Hid (All32 b):=Hd fun x hx=>by rw [<-hb] at hx;exact H32.out x (List.mem_of_mem_drop (List.mem_of_mem_take hx))
   have HYB:Hid (∀ W c,Below wo.heap.size wo W->16<=c->Yields W (.slice (some ⟨g8,at_,none⟩) (at_+16-at_) c) 16 (u64C b)):=Hd fun W c hW hc=>by
    rw [Nat.add_sub_cancel_left]
    have:=(HR.out.all.below hW).part at_ 16 c (by omega) hc
    rw [Nat.zero_add] at this
    have e:((u64C ws).drop at_).take 16=u64C b:=by unfold u64C;rw [<-List.map_drop,<-List.map_take,hb]
    rw [e] at this
    exact this.yields
   have wa:IntKind.i64.wrap ((at_:Int)+16)=(at_:Int)+16:=wrap_small (x:=(at_:Int)+16) (by omega) (by omega)
   have q1:(at_<ws.length)=True:=eq_true (by omega)
   clear hat hlt hb hbl hm
   have HCA:=Hd (show 16<=c8-at_ by omega)
   go_wp2_with (first
    | (refine chkA 277 277 ⟨_,_,by with_reducible rfl⟩ ?_
       refine wpList_append_y (by rfl) _ _ _ rfl wo.heap.size 134 jU _ 1 8 Tryz.underlying277 hjU hU0 hU1 hU2 rfl (by decide) (.slice none 0 0) 0 [] (by rfl) (World.ownsRow_nil _ _ _ _) _ 16 (u64C b) (by rfl) (HYB.out _ _ (Below.refl _ _) HCA.out) ((u64C_len b).trans HBL.out) (u64C_one b) (by decide) (by decide) (Nat.le_refl _) ?_
       intro v10 W3 ho10 hg10 ha10
       have H10:Hid (NmO wo (extW b 0) v10 W3):=Hd ⟨by rw [show (extW b 0).length=0+16 from HBL.out];exact ho10,(Below.refl _ _).grown hg10 (Nat.le_refl _) fun j e=>(by cases e)⟩
       clear ho10 hg10 ha10))
   go_loopg [10,11] 48 (fun g s10 s11 W=>∃ (j t:Nat) (v:Value),g=48-j/\j<=48/\t=16+j/\s11=.int .i64 (t:Int)/\v=s10/\Hid (NmO wo (extW b j) v W))
   case atStart=>exact ⟨0,16,_,rfl,Nat.zero_le _,rfl,rfl,rfl,H10⟩
   case round =>
    obtain ⟨j,t,v,rfl,hj,ht,rfl,rfl,HX⟩:=hrel
    clear H10 HYB HCA
    by_cases hlt2:j<48
    ·-- part 12 begins
     have hel:(extW b j).length=t:=by rw [extW_len,HBL.out,ht]
     have hE32:=extW_32 hb32.out j
     obtain ⟨E,hE⟩:=exE (extW b j)
     have HXN:Hid (extW b (j+1)=E++[nxW E t]):=Hd (by rw [<-hE,ht];rfl)
     rw [hE] at HX hel hE32
     obtain ⟨g,cap,rfl,k1,k2,k3⟩:=HX.out.form (by omega)
     have HX1:=HX.out.1
     rw [hel] at HX1 k3 ⊢
     have cell:∀ i,i<t->wr.cell? ⟨g,i,none⟩=some (.int .u64 (E.getD i 0:Nat)):=fun i hi=>by
      have:=HX1.cells rfl i _ (u64C_get (by omega))
      rwa [addr_addO,Nat.zero_add] at this
     obtain ⟨i0,e0⟩:∃ i,i=t-16:=⟨_,rfl⟩
     obtain ⟨i1,e1⟩:∃ i,i=t-15:=⟨_,rfl⟩
     obtain ⟨i2,e2⟩:∃ i,i=t-7:=⟨_,rfl⟩
     obtain ⟨i3,e3⟩:∃ i,i=t-2:=⟨_,rfl⟩
     have c0:=cell i0 (by omega)
     have c1:=cell i1 (by omega)
     have c2:=cell i2 (by omega)
     have c3:=cell i3 (by omega)
     have b0:=hE32.get i0
     have b1:=hE32.get i1
     have b2:=hE32.get i2
     have b3:=hE32.get i3
     have HNX:Hid (nxW E t=(E.getD i0 0+small (E.getD i1 0) 7 18 3+E.getD i2 0+small (E.getD i3 0) 17 19 10)%4294967296):=Hd (by unfold nxW;rw [<-e0,<-e1,<-e2,<-e3])
     have d0:(u64C E)[i0]?=some (.int .u64 (E.getD i0 0:Nat)):=u64C_get (by omega)
     have d1:(u64C E)[i1]?=some (.int .u64 (E.getD i1 0:Nat)):=u64C_get (by omega)
     have d2:(u64C E)[i2]?=some (.int .u64 (E.getD i2 0:Nat)):=u64C_get (by omega)
     have d3:(u64C E)[i3]?=some (.int .u64 (E.getD i3 0:Nat)):=u64C_get (by omega)
     generalize E.getD i0 0=x0 at *
     generalize E.getD i1 0=x1 at *
     generalize E.getD i2 0=x2 at *
     generalize E.getD i3 0=x3 at *
     have SM1:∀ Y,Calls Tryz.prog 232 #[.int .u64 (x1:Int),.int .u64 7,.int .u64 18,.int .u64 3] Y fun e w'=>e=.returned (.int .u64 ((small x1 7 18 3:Nat):Int))/\Y=w':=fun Y=>small_c x1 7 18 3 Y b1 (by decide) (by decide) (by decide)
     have SM2:∀ Y,Calls Tryz.prog 232 #[.int .u64 (x3:Int),.int .u64 17,.int .u64 19,.int .u64 10] Y fun e w'=>e=.returned (.int .u64 ((small x3 17 19 10:Nat):Int))/\Y=w':=fun Y=>small_c x3 17 19 10 Y b3 (by decide) (by decide) (by decide)
     have y1:=small_lt x1 7 18 3 (by decide) (by decide) b1
     have y2:=small_lt x3 17 19 10 (by decide) (by decide) b3
     generalize small x1 7 18 3=s1 at *
     generalize small x3 17 19 10=s2 at *
     have LW:∀ Y,Calls Tryz.prog 231 #[.int .u64 ((x0:Int)+(s1:Int)+(x2:Int)+(s2:Int))] Y fun e w'=>e=.returned (.int .u64 (((x0+s1+x2+s2)%4294967296:Nat):Int))/\Y=w':=fun Y=>low_c (x0+s1+x2+s2) Y
     rw [HNX.out] at HXN
     obtain ⟨z,hz⟩:=exE ((x0+s1+x2+s2)%4294967296)
     rw [hz] at HXN LW
     have hq:Hid ((IntKind.i64.wrap ((t:Int)-16)=(i0:Int)/\IntKind.i64.wrap ((t:Int)-15)=(i1:Int)/\IntKind.i64.wrap ((t:Int)-7)=(i2:Int)/\IntKind.i64.wrap ((t:Int)-2)=(i3:Int))/\IntKind.u64.wrap ((x0:Int)+(s1:Int))=(x0:Int)+(s1:Int)/\IntKind.u64.wrap ((x0:Int)+(s1:Int)+(x2:Int))=(x0:Int)+(s1:Int)+(x2:Int)/\IntKind.u64.wrap ((x0:Int)+(s1:Int)+(x2:Int)+(s2:Int))=(x0:Int)+(s1:Int)+(x2:Int)+(s2:Int)):=Hd (by
      have w0:∀ (a:Int),0<=a->a<1000->IntKind.i64.wrap a=a:=fun a h1 h2=>wrap_small (x:=a) (by omega) (by omega)
      refine ⟨⟨?_,?_,?_,?_⟩,wrapU64 _ (by omega) (by omega),wrapU64 _ (by omega) (by omega),wrapU64 _ (by omega) (by omega)⟩
      ·rw [w0 _ (by omega) (by omega)];omega
      ·rw [w0 _ (by omega) (by omega)];omega
      ·rw [w0 _ (by omega) (by omega)];omega
      ·rw [w0 _ (by omega) (by omega)];omega)
     have L1:=Hd (show t+1<=maxLen/\(t+1)*8<=140737488355328 from ⟨by unfold maxLen;omega,by omega⟩)
     have hi0:i0<t:=by omega
     have hi1:i1<t:=by omega
     have hi2:i2<t:=by omega
     have hi3:i3<t:=by omega
     have HT:=Hd ht
     have HJ:=Hd hlt2
     have htl:t<64:=by omega
     have HEL:=Hd hel
     have HZ2:=Hd HX.out.2.size
     have HOD:Hid (∀ o1,(wr.drew.alloc o1).ownsRow wo.heap.size 134 1 (.slice (some ⟨g,0,none⟩) t cap) t (u64C E)):=Hd fun o1=>(show wr.drew.ownsRow wo.heap.size 134 1 (.slice (some ⟨g,0,none⟩) t cap) t (u64C E) from HX1).alloc o1
     have HBX:Hid (∀ o1,wo.heap.size<=(wr.drew.alloc o1).heap.size):=Hd fun o1=>by have:=HZ2.out;simp;omega
     have HST:Hid (∀ ob W5 v5,(wr.drew.alloc ob).grownBy W5 (Value.slice (some ⟨g,0,none⟩) t cap).ownBlock->W5.ownsRow wo.heap.size 134 1 v5 (t+1) (u64C E++[.int .u64 (z:Int)])->NmO wo (extW b (j+1)) v5 W5):=Hd fun ob W5 v5 hg h5=>by
      rw [HXN.out]
      refine ⟨by rw [List.length_append,List.length_singleton,HEL.out,u64C_snoc];exact h5,?_⟩
      exact (HX.out.2.drew.alloc HZ2.out ob).grown hg (by have:=HZ2.out;simp;omega) fun j e=>(HX1.lt j e).1
     have HS5:Hid (∀ o1,(wr.drew.alloc o1).cell? ⟨g,i0,none⟩=some (.int .u64 (x0:Int))/\(wr.drew.alloc o1).cell? ⟨g,i1,none⟩=some (.int .u64 (x1:Int))/\(wr.drew.alloc o1).cell? ⟨g,i2,none⟩=some (.int .u64 (x2:Int))/\(wr.drew.alloc o1).cell? ⟨g,i3,none⟩=some (.int .u64 (x3:Int))):=Hd fun o1=>by
      have hb:Below wr.heap.size wr (wr.drew.alloc o1):=(Below.refl _ _).drew.alloc (Nat.le_refl _) o1
      have hl:g<wr.heap.size:=World.block_lt_of_cell? wr _ c0
      exact ⟨(hb.cell (p:=⟨g,i0,none⟩) hl).trans c0,(hb.cell (p:=⟨g,i1,none⟩) hl).trans c1,(hb.cell (p:=⟨g,i2,none⟩) hl).trans c2,(hb.cell (p:=⟨g,i3,none⟩) hl).trans c3⟩
     have HS6:Hid (∀ W5:World,(∀ g',(Value.slice (some ⟨g,0,none⟩) t cap).ownBlock=some g'->∀ j u,(u64C E)[j]?=some u->W5.cell? ⟨g',j,none⟩=some u)->W5.cell? ⟨g,i0,none⟩=some (.int .u64 (x0:Int))/\W5.cell? ⟨g,i1,none⟩=some (.int .u64 (x1:Int))/\W5.cell? ⟨g,i2,none⟩=some (.int .u64 (x2:Int))/\W5.cell? ⟨g,i3,none⟩=some (.int .u64 (x3:Int))):=Hd fun W5 h=>⟨h g rfl i0 _ d0,h g rfl i1 _ d1,h g rfl i2 _ d2,h g rfl i3 _ d3⟩
     clear d0 d1 d2 d3
     obtain ⟨⟨q0,q1,q2,q3⟩,q4,q5,q6⟩:=hq.out
     clear HX HX1 HXN HNX b0 b1 b2 b3 y1 y2 hz hq e0 e1 e2 e3 cell hel hE hE32 ht hlt2 hj k1 k2 k3
     go_wp2_with fail
     -- rest 12: go_wp2_with fail\ngo_roundg (48-(j+1))\ncase measure=>have:=HJ.out;omega\ncase rel=>exact ⟨j+1,t+1,_,rfl,HJ.out,by have:=HT.out;omega,rfl,rfl,HN5⟩
     -- region 12 begins
     refine wp_region_noPanic ?_
     refine wp_region_held_drew (S:=(fun (w':World)=>w'.cell? ⟨g,i0,none⟩=some (.int .u64 (x0:Int))/\w'.cell? ⟨g,i1,none⟩=some (.int .u64 (x1:Int))/\w'.cell? ⟨g,i2,none⟩=some (.int .u64 (x2:Int))/\w'.cell? ⟨g,i3,none⟩=some (.int .u64 (x3:Int)))) (by kernel_rfl) ?_ (fun hHeld=>?_)
     ·exact ⟨c0,c1,c2,c3⟩
     refine' tkH 0 rfl ?_
     try simp only [Act.put,List.setIfInBounds_toArray,List.set_cons_zero,List.set_cons_succ,List.getElem_toArray,List.getElem_cons_zero]
     refine' tkH 1 rfl ?_;try simp only [Act.put,awL]
     refine' tkH 2 rfl ?_;try simp only [Act.put,awL]
     refine' tkH 3 rfl ?_;try simp only [Act.put,awL]
     refine' tkH 4 rfl ?_;try simp only [Act.put,awL]
     refine' tkH 5 rfl ?_;try simp only [Act.put,awL]
     refine' tkH 6 rfl ?_;try simp only [Act.put,awL]
     refine' tkH 7 rfl ?_;try simp only [Act.put,awL]
     refine' tkH 8 rfl ?_;try simp only [Act.put,awL]
     refine' tkH 9 rfl ?_;try simp only [Act.put,awL]
     refine' tkH 10 rfl ?_;try simp only [Act.put,awL]
     refine' tkH 13 rfl ?_;try simp only [Act.put,awL]
     refine' tkH 14 rfl ?_;try simp only [Act.put,awL]
     refine' tkH 15 rfl ?_;try simp only [Act.put,awL]
     refine' tkH 16 rfl ?_;try simp only [Act.put,awL]
     refine' tkH 17 rfl ?_;try simp only [Act.put,awL]
     refine' tkH 19 rfl ?_;try simp only [Act.put,awL]
     refine' tkH 20 rfl ?_;try simp only [Act.put,awL]
     refine' tkH 21 rfl ?_;try simp only [Act.put,awL]
     refine' tkH 22 rfl ?_;try simp only [Act.put,awL]
     refine' tkH 23 rfl ?_;try simp only [Act.put,awL]
     refine wpAnyH_ready (rs:=[11]) (by kernel_rfl) (by simp) ?_
     refine AllReadyH.cons rfl (fun K hK=>?_) AllReadyH.nil
     go_simp
     go_at_call 232
     refine Calls.at_args (SM1 _) (by with_reducible rfl) ?_
     rintro e w5 ⟨rfl,rfl⟩
     refine hK.out _ _ ?_ (fun hHeld=>?_)
     ·exact ⟨c0,c1,c2,c3⟩
     clear hK K
     try simp only [Act.put,awL]
     refine' tkH 12 rfl ?_;try simp only [Act.put,awL]
     refine' tkH 18 rfl ?_;try simp only [Act.put,awL]
     refine wpAnyH_ready (rs:=[24]) (by kernel_rfl) (by simp) ?_
     refine AllReadyH.cons rfl (fun K hK=>?_) AllReadyH.nil
     go_simp
     go_at_call 232
     refine Calls.at_args (SM2 _) (by with_reducible rfl) ?_
     rintro e w5 ⟨rfl,rfl⟩
     refine hK.out _ _ ?_ (fun hHeld=>?_)
     ·exact ⟨c0,c1,c2,c3⟩
     clear hK K
     try simp only [Act.put,awL]
     refine' tkH 25 rfl ?_;try simp only [Act.put,awL]
     refine wpAnyH_ready (rs:=[26]) (by kernel_rfl) (by simp) ?_
     refine AllReadyH.cons rfl (fun K hK=>?_) AllReadyH.nil
     go_simp
     go_at_call 231
     refine Calls.at_args (LW _) (by with_reducible rfl) ?_
     rintro e w5 ⟨rfl,rfl⟩
     refine hK.out _ _ ?_ (fun hHeld=>?_)
     ·exact ⟨c0,c1,c2,c3⟩
     clear hK K
     try simp only [Act.put,awL]
     refine wpAnyH_ready (rs:=[27]) (by kernel_rfl) (by simp) ?_
     refine AllReadyH.cons rfl (fun K hK=>?_) AllReadyH.nil
     go_simp
     refine hK.out _ _ ?_ (fun hHeld=>?_)
     ·exact HS5.out _
     clear hK K
     try simp only [Act.put,awL]
     refine wpAnyH_ready (rs:=[28]) (by kernel_rfl) (by simp) ?_
     refine AllReadyH.cons rfl (fun K hK=>?_) AllReadyH.nil
     refine step_append_k (by rfl) _ _ _ (by rfl) wo.heap.size 134 jU _ 1 8 Tryz.underlying277 hjU hU0 hU1 hU2 rfl (by decide) _ _ _ (by rfl) (HOD.out _) _ 1 _ (by rfl) (yields_boxL _ #[.int .u64 (z:Int)] _ 1 1) rfl (one1 _ rfl) L1.out.1 L1.out.2 (HBX.out _) ?_
     intro v5 W5 ho5 hg5 hk5
     have HN5:=Hd (HST.out _ W5 v5 hg5 ho5)
     have hS6:=HS6.out W5 hk5
     clear ho5 hg5 hk5
     refine hK.out _ _ ?_ (fun hHeld=>?_)
     ·exact hS6
     clear hK K
     try simp only [Act.put,awL]
     refine' tkH 29 rfl ?_;try simp only [Act.put,awL]
     refine wpAnyH_done (by kernel_rfl) ?_ _
     refine NoPanic.normal ?_
     go_wp2_with fail
     go_roundg (48-(j+1))
     case measure=>have:=HJ.out;omega
     case rel=>exact ⟨j+1,t+1,_,rfl,HJ.out,by have:=HT.out;omega,rfl,rfl,HN5⟩
     -- region 12 ends
     -- part 12 ends
    ·obtain rfl:j=48:=by omega
     have hE32:=extW_32 hb32.out 48
     have hel:(extW b 48).length=64:=by rw [extW_len,HBL.out]
     obtain ⟨E,hE⟩:=exE (extW b 48)
     have HEA:Hid (∀ i,extA b i=E.getD i 0):=Hd fun i=>by rw [<-hE];rfl
     rw [hE] at HX hE32 hel
     obtain ⟨g,cap,rfl,k1,k2,k3⟩:=HX.out.form (by omega)
     have HXR:=Hd HX.out.rd
     rw [hel] at HXR k3 ⊢
     have HBO:=Hd HX.out.2
     have HSR:Hid (RdRow wr (.slice (some ⟨g7,0,none⟩) 8 c7) 8 1 (u64C (refAll pn0.h ws m))):=Hd ((RdRow.own HR.out.sums).below HBO.out)
     have HKR:Hid (RdRow wr (.slice (some ⟨bk,ok,none⟩) 64 c2) 64 1 (u64C kL)):=Hd (HK.out.below (HR.out.bel.trans (HBO.out.mono HR.out.bel.size)))
     have HYS:=Hd HSR.out.yields
     obtain ⟨h32,hl8⟩:=refAll_ok (ws:=ws) pn0_ok.h32 (show pn0.h.length=8 from rfl) m
     have H8:=Hd hl8
     have H832:=Hd h32
     obtain ⟨Hm,hHm⟩:=exE (refAll pn0.h ws m)
     have HHM:=Hd hHm
     rw [hHm] at HSR HYS H8 H832 HR
     have hgge:¬t<64:=by omega
     have HE32:=Hd hE32
     have HEL:=Hd hel
     obtain ⟨w3,rfl⟩:∃ x,x=wr:=⟨_,rfl⟩
     have HX3:=HXR
     have HK3:=HKR
     have HGL:=Hd (show wo.heap.size<=g/\g<w3.heap.size from ⟨k1,k2⟩)
     clear HX hE32 hel hE ht hlt2 hj h32 hl8 hHm
     go_wp2_with (first
      | (refine chkA 277 277 ⟨_,_,by with_reducible rfl⟩ ?_
         refine wpList_append_y (by rfl) _ _ _ rfl w3.heap.size 134 jU _ 1 8 Tryz.underlying277 hjU hU0 hU1 hU2 rfl (by decide) (.slice none 0 0) 0 [] (by rfl) (World.ownsRow_nil _ _ _ _) _ 8 _ (by rfl) HYS.out ((u64C_len Hm).trans H8.out) (u64C_one Hm) (by decide) (by decide) (Nat.le_refl _) ?_
         intro v12 W3 ho12 hg12 ha12
         have H12:Hid (NmO w3 (refR (V8.of Hm) b 0).list v12 W3):=Hd ⟨by rw [show (refR (V8.of Hm) b 0).list=Hm from V8.of_list H8.out,H8.out];exact ho12,(Below.refl _ _).grown hg12 (Nat.le_refl _) fun j e=>(by cases e)⟩
         clear ho12 hg12 ha12))
     go_loopg [12,13] 64 (fun g s12 s13 W=>∃ (t:Nat) (v:Value),g=64-t/\t<=64/\s13=.int .i64 (t:Int)/\v=s12/\Hid (NmO w3 (refR (V8.of Hm) b t).list v W))
     case atStart=>exact ⟨0,_,rfl,Nat.zero_le _,rfl,rfl,H12⟩
     case round =>
      obtain ⟨t,v,rfl,ht,rfl,rfl,HV⟩:=hrel
      clear H12
      by_cases hlt3:t<64
      ·-- part 18 begins
       have hvok:=refR_ok (V8.of_ok H832.out) b t
       have HNX:Hid (refR (V8.of Hm) b (t+1)=refStep (refR (V8.of Hm) b t) (kN t) (extA b t)):=Hd rfl
       obtain ⟨V,hV⟩:=exE (refR (V8.of Hm) b t)
       rw [hV] at HNX HV hvok
       obtain ⟨va,vb,vc,vd,ve,vf,vg,vh⟩:=V
       obtain ⟨ka,kb,kc,kd,ke,kf,kg,kh⟩:=hvok
       simp only at ka kb kc kd ke kf kg kh
       obtain ⟨g12,c12,rfl,k1,k2,k3⟩:=HV.out.form (by simp [V8.list])
       rw [show (V8.list ⟨va,vb,vc,vd,ve,vf,vg,vh⟩).length=8 from rfl] at k3 ⊢
       have cell:∀ i u,(u64C [va,vb,vc,vd,ve,vf,vg,vh])[i]?=some u->wr.cell? ⟨g12,i,none⟩=some u:=fun i u hu=>by
        have:=HV.out.1.cells rfl i u hu
        rwa [addr_addO,Nat.zero_add] at this
       have d0:=cell 0 _ rfl
       have d1:=cell 1 _ rfl
       have d2:=cell 2 _ rfl
       have d3:=cell 3 _ rfl
       have d4:=cell 4 _ rfl
       have d5:=cell 5 _ rfl
       have d6:=cell 6 _ rfl
       have d7:=cell 7 _ rfl
       obtain ⟨kt,hkt⟩:=exE (kN t)
       have dk:wr.cell? ⟨bk,ok+t,none⟩=some (.int .u64 (kt:Int)):=by
        obtain ⟨b',o',e',-,hc⟩:=(HK3.out.below HV.out.2).get (u64C_get (l:=kL) (i:=0) (by decide))
        cases e'
        rw [<-hkt]
        refine hc t _ ?_
        rw [u64C_get (by rw [show kL.length=64 from by simp [kL]];exact hlt3)]
        unfold List.getD kL
        simp [hlt3]
       obtain ⟨xt,hxt⟩:=exE (E.getD t 0)
       have dw:wr.cell? ⟨g,t,none⟩=some (.int .u64 (xt:Int)):=by
        obtain ⟨b',o',e',-,hc⟩:=(HX3.out.below HV.out.2).get (u64C_get (l:=E) (i:=0) (by rw [HEL.out];decide))
        cases e'
        rw [<-hxt]
        have:=hc t _ (u64C_get (by rw [HEL.out];exact hlt3))
        rwa [Nat.zero_add] at this
       have kk:kt<4294967296:=by rw [<-hkt];exact kN_lt t
       have kx:xt<4294967296:=by rw [<-hxt];exact HE32.out.get t
       rw [HEA.out,hxt,hkt] at HNX
       have b1:=bits_and_u64_nat ve vf (by omega) (by omega)
       have a1:ve &&& vf<4294967296:=Nat.lt_of_le_of_lt Nat.and_le_left ke
       have b2:=bits_and_u64_nat (4294967295-ve) vg (by omega) (by omega)
       have a2:(4294967295-ve) &&& vg<4294967296:=Nat.lt_of_le_of_lt Nat.and_le_right kg
       have b3:=bits_and_u64_nat va vb (by omega) (by omega)
       have a3:va &&& vb<4294967296:=Nat.lt_of_le_of_lt Nat.and_le_left ka
       have b4:=bits_and_u64_nat va vc (by omega) (by omega)
       have a4:va &&& vc<4294967296:=Nat.lt_of_le_of_lt Nat.and_le_left ka
       have b5:=bits_or_u64_nat (va &&& vb) (va &&& vc) (by omega) (by omega)
       have a5:(va &&& vb) ||| (va &&& vc)<4294967296:=Nat.or_lt_two_pow (n:=32) a3 a4
       have b6:=bits_and_u64_nat vb vc (by omega) (by omega)
       have a6:vb &&& vc<4294967296:=Nat.lt_of_le_of_lt Nat.and_le_left kb
       have b7:=bits_or_u64_nat ((va &&& vb) ||| (va &&& vc)) (vb &&& vc) (by omega) (by omega)
       have a7:((va &&& vb) ||| (va &&& vc)) ||| (vb &&& vc)<4294967296:=Nat.or_lt_two_pow (n:=32) a5 a6
       have GR1:∀ Y,Calls Tryz.prog 233 #[.int .u64 (ve:Int),.int .u64 6,.int .u64 11,.int .u64 25] Y fun e w'=>e=.returned (.int .u64 ((great ve 6 11 25:Nat):Int))/\Y=w':=fun Y=>great_c ve 6 11 25 Y ke (by decide) (by decide) (by decide)
       have GR2:∀ Y,Calls Tryz.prog 233 #[.int .u64 (va:Int),.int .u64 2,.int .u64 13,.int .u64 22] Y fun e w'=>e=.returned (.int .u64 ((great va 2 13 22:Nat):Int))/\Y=w':=fun Y=>great_c va 2 13 22 Y ka (by decide) (by decide) (by decide)
       have a8:=great_lt ve 6 11 25 (by decide) (by decide) (by decide) ke
       have a9:=great_lt va 2 13 22 (by decide) (by decide) (by decide) ka
       have HONE:Hid (refOne ⟨va,vb,vc,vd,ve,vf,vg,vh⟩ kt xt=vh+great ve 6 11 25+((ve &&& vf)+((4294967295-ve) &&& vg))+kt+xt):=Hd rfl
       have HTWO:Hid (refTwo ⟨va,vb,vc,vd,ve,vf,vg,vh⟩=great va 2 13 22+(((va &&& vb) ||| (va &&& vc)) ||| (vb &&& vc))):=Hd rfl
       obtain ⟨ne,hne⟩:=exE (4294967295-ve)
       rw [hne] at b2 a2 HONE
       generalize great ve 6 11 25=s1 at *
       generalize great va 2 13 22=s2 at *
       generalize ve &&& vf=n1 at *
       generalize ne &&& vg=n2 at *
       generalize ((va &&& vb) ||| (va &&& vc)) ||| (vb &&& vc)=m5 at *
       generalize (va &&& vb) ||| (va &&& vc)=m3 at *
       generalize va &&& vb=m1 at *
       generalize va &&& vc=m2 at *
       generalize vb &&& vc=m4 at *
       obtain ⟨ch,hch⟩:=exE (n1+n2)
       obtain ⟨p1,hp1⟩:=exE (vh+s1)
       obtain ⟨p2,hp2⟩:=exE (p1+ch)
       obtain ⟨p3,hp3⟩:=exE (p2+kt)
       obtain ⟨one,hone⟩:=exE (p3+xt)
       obtain ⟨two,htwo⟩:=exE (s2+m5)
       obtain ⟨ot,hot⟩:=exE (one+two)
       obtain ⟨dn,hdn⟩:=exE (vd+one)
       have LW1:∀ Y,Calls Tryz.prog 231 #[.int .u64 (ot:Int)] Y fun e w'=>e=.returned (.int .u64 ((ot%4294967296:Nat):Int))/\Y=w':=fun Y=>low_c ot Y
       have LW2:∀ Y,Calls Tryz.prog 231 #[.int .u64 (dn:Int)] Y fun e w'=>e=.returned (.int .u64 ((dn%4294967296:Nat):Int))/\Y=w':=fun Y=>low_c dn Y
       have HLIST:Hid ((refR (V8.of Hm) b (t+1)).list=[ot%4294967296,va,vb,vc,dn%4294967296,ve,vf,vg]):=Hd (by
        rw [HNX.out]
        unfold refStep
        rw [HONE.out,HTWO.out,hch,hp1,hp2,hp3,hone,htwo,hot]
        simp only [V8.list,hdn])
       have hq:Hid (((IntKind.u64.wrap (4294967295-(ve:Int))=(ne:Int)/\IntKind.u64.wrap ((n1:Int)+(n2:Int))=(ch:Int))/\(IntKind.u64.wrap ((vh:Int)+(s1:Int))=(p1:Int)/\IntKind.u64.wrap ((p1:Int)+(ch:Int))=(p2:Int)/\IntKind.u64.wrap ((p2:Int)+(kt:Int))=(p3:Int)/\IntKind.u64.wrap ((p3:Int)+(xt:Int))=(one:Int)))/\IntKind.u64.wrap ((s2:Int)+(m5:Int))=(two:Int)/\IntKind.u64.wrap ((one:Int)+(two:Int))=(ot:Int)/\IntKind.u64.wrap ((vd:Int)+(one:Int))=(dn:Int)):=Hd (by
        have w0:∀ (a:Int) (n:Nat),a=(n:Int)->n<18446744073709551616->IntKind.u64.wrap a=(n:Int):=fun a n h1 h2=>by rw [h1];exact wrap_u64 h2
        refine ⟨⟨⟨w0 _ _ (by omega) (by omega),w0 _ _ (by omega) (by omega)⟩,w0 _ _ (by omega) (by omega),w0 _ _ (by omega) (by omega),w0 _ _ (by omega) (by omega),w0 _ _ (by omega) (by omega)⟩,w0 _ _ (by omega) (by omega),w0 _ _ (by omega) (by omega),w0 _ _ (by omega) (by omega)⟩)
       generalize ot%4294967296=z1 at *
       generalize dn%4294967296=z2 at *
       have HSA:Hid (∀ (Y:World) (o1:Obj),wr.heap=Y.heap->(Y.alloc o1).cell? ⟨g12,0,none⟩=some (.int .u64 (va:Int))/\(Y.alloc o1).cell? ⟨g12,1,none⟩=some (.int .u64 (vb:Int))/\(Y.alloc o1).cell? ⟨g12,2,none⟩=some (.int .u64 (vc:Int))/\(Y.alloc o1).cell? ⟨g12,3,none⟩=some (.int .u64 (vd:Int))/\(Y.alloc o1).cell? ⟨g12,4,none⟩=some (.int .u64 (ve:Int))/\(Y.alloc o1).cell? ⟨g12,5,none⟩=some (.int .u64 (vf:Int))/\(Y.alloc o1).cell? ⟨g12,6,none⟩=some (.int .u64 (vg:Int))/\(Y.alloc o1).cell? ⟨g12,7,none⟩=some (.int .u64 (vh:Int))/\(Y.alloc o1).cell? ⟨bk,ok+t,none⟩=some (.int .u64 (kt:Int))/\(Y.alloc o1).cell? ⟨g,t,none⟩=some (.int .u64 (xt:Int))):=Hd fun Y o1 hY=>by
        have key:∀ (p:Addr) u,wr.cell? p=some u->(Y.alloc o1).cell? p=some u:=fun p u hp=>by
         have hl:p.block<Y.heap.size:=by rw [<-hY];exact World.block_lt_of_cell? wr _ hp
         rw [World.cell?_alloc_lt _ _ _ hl,<-hp]
         simp only [World.cell?,hY]
        exact ⟨key _ _ d0,key _ _ d1,key _ _ d2,key _ _ d3,key _ _ d4,key _ _ d5,key _ _ d6,key _ _ d7,key _ _ dk,key _ _ dw⟩
       have HSTEP:Hid (∀ Y:World,Below wr.heap.size wr Y->NmO w3 (refR (V8.of Hm) b (t+1)).list (.slice (some ⟨Y.heap.size,0,none⟩) 8 8) (Y.alloc (.cells #[.int .u64 (z1:Int),.int .u64 (va:Int),.int .u64 (vb:Int),.int .u64 (vc:Int),.int .u64 (z2:Int),.int .u64 (ve:Int),.int .u64 (vf:Int),.int .u64 (vg:Int)] 134))):=Hd fun Y hY=>by
        have hb:=HV.out.2.trans (hY.mono HV.out.2.size)
        rw [HLIST.out]
        exact ⟨World.ownsRow_lit (base:=w3.heap.size) (e:=134) (size:=1) Y #[.int .u64 (z1:Int),.int .u64 (va:Int),.int .u64 (vb:Int),.int .u64 (vc:Int),.int .u64 (z2:Int),.int .u64 (ve:Int),.int .u64 (vf:Int),.int .u64 (vg:Int)] 8 hb.size (by decide) rfl,hb.alloc hb.size _⟩
       have HT3:=Hd hlt3
       obtain ⟨⟨⟨q1,q2⟩,q3,q4,q5,q6⟩,q7,q8,q9⟩:=hq.out
       clear HV cell hkt hxt kk kx a1 a2 a3 a4 a5 a6 a7 a8 a9 HONE HTWO HNX HLIST hne hch hp1 hp2 hp3 hone htwo hot hdn hq ka kb kc kd ke kf kg kh ht k1 k2 k3 hV
       go_wp2_with fail
       -- rest 18: go_wp2_with fail\ngo_roundg (64-(t+1))\ncase measure=>have:=HT3.out;omega\ncase rel=>exact ⟨t+1,_,rfl,HT3.out,by congr 1,rfl,Hd (HSTEP.out _ (by first|exact (Below.refl _ _).drew.drew.drew.drew|exact (Below.refl _ _).drew.drew.drew))⟩
       -- region 18 begins
       refine wp_region_noPanic ?_
       refine wp_region_held_drew (S:=(fun (w':World)=>w'.cell? ⟨g12,0,none⟩=some (.int .u64 (va:Int))/\w'.cell? ⟨g12,1,none⟩=some (.int .u64 (vb:Int))/\w'.cell? ⟨g12,2,none⟩=some (.int .u64 (vc:Int))/\w'.cell? ⟨g12,3,none⟩=some (.int .u64 (vd:Int))/\w'.cell? ⟨g12,4,none⟩=some (.int .u64 (ve:Int))/\w'.cell? ⟨g12,5,none⟩=some (.int .u64 (vf:Int))/\w'.cell? ⟨g12,6,none⟩=some (.int .u64 (vg:Int))/\w'.cell? ⟨g12,7,none⟩=some (.int .u64 (vh:Int))/\w'.cell? ⟨bk,ok+t,none⟩=some (.int .u64 (kt:Int))/\w'.cell? ⟨g,t,none⟩=some (.int .u64 (xt:Int)))) (by kernel_rfl) ?_ (fun hHeld=>?_)
       ·exact ⟨d0,d1,d2,d3,d4,d5,d6,d7,dk,dw⟩
       refine' tkH 0 rfl ?_
       try simp only [Act.put,List.setIfInBounds_toArray,List.set_cons_zero,List.set_cons_succ,List.getElem_toArray,List.getElem_cons_zero]
       refine' tkH 1 rfl ?_;try simp only [Act.put,awL]
       refine' tkH 2 rfl ?_;try simp only [Act.put,awL]
       refine' tkH 3 rfl ?_;try simp only [Act.put,awL]
       refine' tkH 4 rfl ?_;try simp only [Act.put,awL]
       refine' tkH 5 rfl ?_;try simp only [Act.put,awL]
       refine' tkH 6 rfl ?_;try simp only [Act.put,awL]
       refine' tkH 7 rfl ?_;try simp only [Act.put,awL]
       refine' tkH 8 rfl ?_;try simp only [Act.put,awL]
       refine' tkH 9 rfl ?_;try simp only [Act.put,awL]
       refine' tkH 10 rfl ?_;try simp only [Act.put,awL]
       refine' tkH 11 rfl ?_;try simp only [Act.put,awL]
       refine' tkH 12 rfl ?_;try simp only [Act.put,awL]
       refine' tkH 13 rfl ?_;try simp only [Act.put,awL]
       refine' tkH 14 rfl ?_;try simp only [Act.put,awL]
       refine' tkH 15 rfl ?_;try simp only [Act.put,awL]
       refine' tkH 16 rfl ?_;try simp only [Act.put,awL]
       refine wpAnyH_done (by kernel_rfl) ?_ _
       refine NoPanic.normal ?_
       go_wp2_with fail
       refine wp_region_noPanic ?_
       refine wp_region_held_drew (S:=(fun (w':World)=>w'.cell? ⟨g12,0,none⟩=some (.int .u64 (va:Int))/\w'.cell? ⟨g12,1,none⟩=some (.int .u64 (vb:Int))/\w'.cell? ⟨g12,2,none⟩=some (.int .u64 (vc:Int))/\w'.cell? ⟨g12,3,none⟩=some (.int .u64 (vd:Int))/\w'.cell? ⟨g12,4,none⟩=some (.int .u64 (ve:Int))/\w'.cell? ⟨g12,5,none⟩=some (.int .u64 (vf:Int))/\w'.cell? ⟨g12,6,none⟩=some (.int .u64 (vg:Int))/\w'.cell? ⟨g12,7,none⟩=some (.int .u64 (vh:Int))/\w'.cell? ⟨bk,ok+t,none⟩=some (.int .u64 (kt:Int))/\w'.cell? ⟨g,t,none⟩=some (.int .u64 (xt:Int)))) (by kernel_rfl) ?_ (fun hHeld=>?_)
       ·exact ⟨d0,d1,d2,d3,d4,d5,d6,d7,dk,dw⟩
       refine' tkH 0 rfl ?_
       try simp only [Act.put,List.setIfInBounds_toArray,List.set_cons_zero,List.set_cons_succ,List.getElem_toArray,List.getElem_cons_zero]
       refine' tkH 1 rfl ?_;try simp only [Act.put,awL]
       refine' tkH 2 rfl ?_;try simp only [Act.put,awL]
       refine' tkH 3 rfl ?_;try simp only [Act.put,awL]
       refine' tkH 4 rfl ?_;try simp only [Act.put,awL]
       refine' tkH 5 rfl ?_;try simp only [Act.put,awL]
       refine' tkH 6 rfl ?_;try simp only [Act.put,awL]
       refine' tkH 7 rfl ?_;try simp only [Act.put,awL]
       refine' tkH 8 rfl ?_;try simp only [Act.put,awL]
       refine' tkH 9 rfl ?_;try simp only [Act.put,awL]
       refine' tkH 10 rfl ?_;try simp only [Act.put,awL]
       refine' tkH 11 rfl ?_;try simp only [Act.put,awL]
       refine' tkH 12 rfl ?_;try simp only [Act.put,awL]
       refine' tkH 13 rfl ?_;try simp only [Act.put,awL]
       refine' tkH 14 rfl ?_;try simp only [Act.put,awL]
       refine' tkH 15 rfl ?_;try simp only [Act.put,awL]
       refine' tkH 16 rfl ?_;try simp only [Act.put,awL]
       refine' tkH 17 rfl ?_;try simp only [Act.put,awL]
       refine' tkH 18 rfl ?_;try simp only [Act.put,awL]
       refine' tkH 19 rfl ?_;try simp only [Act.put,awL]
       refine' tkH 20 rfl ?_;try simp only [Act.put,awL]
       refine' tkH 21 rfl ?_;try simp only [Act.put,awL]
       refine' tkH 22 rfl ?_;try simp only [Act.put,awL]
       refine' tkH 23 rfl ?_;try simp only [Act.put,awL]
       refine wpAnyH_done (by kernel_rfl) ?_ _
       refine NoPanic.normal ?_
       go_wp2_with fail
       refine wp_region_noPanic ?_
       refine wp_region_held_drew (S:=(fun (w':World)=>w'.cell? ⟨g12,0,none⟩=some (.int .u64 (va:Int))/\w'.cell? ⟨g12,1,none⟩=some (.int .u64 (vb:Int))/\w'.cell? ⟨g12,2,none⟩=some (.int .u64 (vc:Int))/\w'.cell? ⟨g12,3,none⟩=some (.int .u64 (vd:Int))/\w'.cell? ⟨g12,4,none⟩=some (.int .u64 (ve:Int))/\w'.cell? ⟨g12,5,none⟩=some (.int .u64 (vf:Int))/\w'.cell? ⟨g12,6,none⟩=some (.int .u64 (vg:Int))/\w'.cell? ⟨g12,7,none⟩=some (.int .u64 (vh:Int))/\w'.cell? ⟨bk,ok+t,none⟩=some (.int .u64 (kt:Int))/\w'.cell? ⟨g,t,none⟩=some (.int .u64 (xt:Int)))) (by kernel_rfl) ?_ (fun hHeld=>?_)
       ·exact ⟨d0,d1,d2,d3,d4,d5,d6,d7,dk,dw⟩
       refine' tkH 0 rfl ?_
       try simp only [Act.put,List.setIfInBounds_toArray,List.set_cons_zero,List.set_cons_succ,List.getElem_toArray,List.getElem_cons_zero]
       refine' tkH 1 rfl ?_;try simp only [Act.put,awL]
       refine' tkH 2 rfl ?_;try simp only [Act.put,awL]
       refine' tkH 3 rfl ?_;try simp only [Act.put,awL]
       refine' tkH 4 rfl ?_;try simp only [Act.put,awL]
       refine' tkH 5 rfl ?_;try simp only [Act.put,awL]
       refine' tkH 8 rfl ?_;try simp only [Act.put,awL]
       refine' tkH 10 rfl ?_;try simp only [Act.put,awL]
       refine' tkH 11 rfl ?_;try simp only [Act.put,awL]
       refine' tkH 12 rfl ?_;try simp only [Act.put,awL]
       refine' tkH 13 rfl ?_;try simp only [Act.put,awL]
       refine' tkH 15 rfl ?_;try simp only [Act.put,awL]
       refine' tkH 16 rfl ?_;try simp only [Act.put,awL]
       refine' tkH 17 rfl ?_;try simp only [Act.put,awL]
       refine' tkH 18 rfl ?_;try simp only [Act.put,awL]
       refine wpAnyH_ready (rs:=[6]) (by kernel_rfl) (by simp) ?_
       refine AllReadyH.cons rfl (fun K hK=>?_) AllReadyH.nil
       go_simp
       go_at_call 233
       refine Calls.at_args (GR1 _) (by with_reducible rfl) ?_
       rintro e w5 ⟨rfl,rfl⟩
       refine hK.out _ _ ?_ (fun hHeld=>?_)
       ·exact ⟨d0,d1,d2,d3,d4,d5,d6,d7,dk,dw⟩
       clear hK K
       try simp only [Act.put,awL]
       refine' tkH 7 rfl ?_;try simp only [Act.put,awL]
       refine' tkH 9 rfl ?_;try simp only [Act.put,awL]
       refine' tkH 14 rfl ?_;try simp only [Act.put,awL]
       refine' tkH 19 rfl ?_;try simp only [Act.put,awL]
       refine' tkH 20 rfl ?_;try simp only [Act.put,awL]
       refine wpAnyH_done (by kernel_rfl) ?_ _
       refine NoPanic.normal ?_
       go_wp2_with fail
       refine (GR2 _).mono ?_
       rintro e w5 ⟨rfl,rfl⟩
       go_wp2_with fail
       refine wp_region_noPanic ?_
       refine wp_region_held_drew (S:=(fun (w':World)=>w'.cell? ⟨g12,0,none⟩=some (.int .u64 (va:Int))/\w'.cell? ⟨g12,1,none⟩=some (.int .u64 (vb:Int))/\w'.cell? ⟨g12,2,none⟩=some (.int .u64 (vc:Int))/\w'.cell? ⟨g12,3,none⟩=some (.int .u64 (vd:Int))/\w'.cell? ⟨g12,4,none⟩=some (.int .u64 (ve:Int))/\w'.cell? ⟨g12,5,none⟩=some (.int .u64 (vf:Int))/\w'.cell? ⟨g12,6,none⟩=some (.int .u64 (vg:Int))/\w'.cell? ⟨g12,7,none⟩=some (.int .u64 (vh:Int))/\w'.cell? ⟨bk,ok+t,none⟩=some (.int .u64 (kt:Int))/\w'.cell? ⟨g,t,none⟩=some (.int .u64 (xt:Int)))) (by kernel_rfl) ?_ (fun hHeld=>?_)
       ·exact ⟨d0,d1,d2,d3,d4,d5,d6,d7,dk,dw⟩
       refine' tkH 0 rfl ?_
       try simp only [Act.put,List.setIfInBounds_toArray,List.set_cons_zero,List.set_cons_succ,List.getElem_toArray,List.getElem_cons_zero]
       refine' tkH 1 rfl ?_;try simp only [Act.put,awL]
       refine' tkH 2 rfl ?_;try simp only [Act.put,awL]
       refine' tkH 4 rfl ?_;try simp only [Act.put,awL]
       refine' tkH 5 rfl ?_;try simp only [Act.put,awL]
       refine' tkH 6 rfl ?_;try simp only [Act.put,awL]
       refine' tkH 7 rfl ?_;try simp only [Act.put,awL]
       refine' tkH 8 rfl ?_;try simp only [Act.put,awL]
       refine' tkH 9 rfl ?_;try simp only [Act.put,awL]
       refine' tkH 10 rfl ?_;try simp only [Act.put,awL]
       refine' tkH 11 rfl ?_;try simp only [Act.put,awL]
       refine' tkH 12 rfl ?_;try simp only [Act.put,awL]
       refine' tkH 13 rfl ?_;try simp only [Act.put,awL]
       refine' tkH 14 rfl ?_;try simp only [Act.put,awL]
       refine' tkH 15 rfl ?_;try simp only [Act.put,awL]
       refine' tkH 16 rfl ?_;try simp only [Act.put,awL]
       refine' tkH 17 rfl ?_;try simp only [Act.put,awL]
       refine' tkH 19 rfl ?_;try simp only [Act.put,awL]
       refine' tkH 20 rfl ?_;try simp only [Act.put,awL]
       refine' tkH 21 rfl ?_;try simp only [Act.put,awL]
       refine' tkH 22 rfl ?_;try simp only [Act.put,awL]
       refine' tkH 23 rfl ?_;try simp only [Act.put,awL]
       refine' tkH 24 rfl ?_;try simp only [Act.put,awL]
       refine' tkH 25 rfl ?_;try simp only [Act.put,awL]
       refine' tkH 26 rfl ?_;try simp only [Act.put,awL]
       refine' tkH 27 rfl ?_;try simp only [Act.put,awL]
       refine wpAnyH_ready (rs:=[3]) (by kernel_rfl) (by simp) ?_
       refine AllReadyH.cons rfl (fun K hK=>?_) AllReadyH.nil
       go_simp
       go_at_call 231
       refine Calls.at_args (LW1 _) (by with_reducible rfl) ?_
       rintro e w5 ⟨rfl,rfl⟩
       refine hK.out _ _ ?_ (fun hHeld=>?_)
       ·exact ⟨d0,d1,d2,d3,d4,d5,d6,d7,dk,dw⟩
       clear hK K
       try simp only [Act.put,awL]
       refine wpAnyH_ready (rs:=[18]) (by kernel_rfl) (by simp) ?_
       refine AllReadyH.cons rfl (fun K hK=>?_) AllReadyH.nil
       go_simp
       go_at_call 231
       refine Calls.at_args (LW2 _) (by with_reducible rfl) ?_
       rintro e w5 ⟨rfl,rfl⟩
       refine hK.out _ _ ?_ (fun hHeld=>?_)
       ·exact ⟨d0,d1,d2,d3,d4,d5,d6,d7,dk,dw⟩
       clear hK K
       try simp only [Act.put,awL]
       refine wpAnyH_ready (rs:=[28]) (by kernel_rfl) (by simp) ?_
       refine AllReadyH.cons rfl (fun K hK=>?_) AllReadyH.nil
       go_simp
       refine hK.out _ _ ?_ (fun hHeld=>?_)
       ·exact HSA.out wr _ rfl
       clear hK K
       try simp only [Act.put,awL]
       refine' tkH 29 rfl ?_;try simp only [Act.put,awL]
       refine wpAnyH_done (by kernel_rfl) ?_ _
       refine NoPanic.normal ?_
       go_wp2_with fail
       go_roundg (64-(t+1))
       case measure=>have:=HT3.out;omega
       case rel=>exact ⟨t+1,_,rfl,HT3.out,by congr 1,rfl,Hd (HSTEP.out _ (by first|exact (Below.refl _ _).drew.drew.drew.drew|exact (Below.refl _ _).drew.drew.drew))⟩
       -- region 18 ends
       -- part 18 ends
      ·obtain rfl:t=64:=by omega
       obtain ⟨L,hL⟩:=exE ((refR (V8.of Hm) b 64).list)
       have hL8:L.length=8:=by rw [<-hL,V8.list_len]
       have HL32:Hid (∀ i,L.getD i 0<4294967296):=Hd fun i=>by
        rw [<-hL]
        exact (V8.list_32 (refR_ok (V8.of_ok H832.out) b 64)).get i
       have HBK:Hid (addTo Hm L 8=refAll pn0.h ws (m+1)):=Hd (by
        rw [refAll_succ,HHM.out,<-HAT.out,HB.out,refBlk_eq,hL])
       rw [hL] at HV
       obtain ⟨g12,c12,rfl,k1,k2,k3⟩:=HV.out.form (by omega)
       have hv8:RdRow wr (.slice (some ⟨g12,0,none⟩) 8 c12) 8 1 (u64C L):=by have:=HV.out.rd;rwa [hL8] at this
       rw [hL8] at k3 ⊢
       have R4:Hid (ByA w g7 c7 g8 c8 g12 c12 ws (addTo Hm L 0) L wr):=Hd (by
        have hB1:Below wo.heap.size wo wr:=HBO.out.trans (HV.out.2.mono HBO.out.size)
        have h7:=HR.out.sums.lt g7 rfl
        refine ⟨own_same HR.out.sums fun j e=>by cases e;exact hB1.block g7 h7.2,HR.out.all.below hB1,hv8,HR.out.ne,?_,HR.out.bel.trans (hB1.mono HR.out.bel.size)⟩
        have:=HBO.out.size
        omega)
       have HH8:=H8
       clear HV hv8 hL hL8 HR HSR HYS HKR HXR HX3 HK3 HEL HE32 HEA HGL HBO ht k1 k2 k3 hlt3
       go_wp2_with fail
       go_loopg [18] 8 (fun g s18 W=>∃ (i:Nat),g=8-i/\i<=8/\s18=.int .i64 (i:Int)/\Hid (ByA w g7 c7 g8 c8 g12 c12 ws (addTo Hm L i) L W))
       case atStart=>exact ⟨0,rfl,Nat.zero_le _,rfl,R4⟩
       case round =>
        obtain ⟨i,rfl,hi,rfl,HA⟩:=hrel
        clear R4
        by_cases hlt4:i<8
        ·-- part 26 begins
         have hln:(addTo Hm L i).length=8:=by rw [addTo_len];exact HH8.out
         obtain ⟨x,hx⟩:=exE (Hm.getD i 0)
         obtain ⟨y,hy⟩:=exE (L.getD i 0)
         have cx:wr.cell? ⟨g7,i,none⟩=some (.int .u64 (x:Int)):=by
          have:=HA.out.sums.cells rfl i _ (u64C_get (by omega))
          rw [addTo_get Hm L i i (Nat.le_refl _),hx] at this
          rwa [addr_addO,Nat.zero_add] at this
         have dy:wr.cell? ⟨g12,i,none⟩=some (.int .u64 (y:Int)):=by
          have hl8:L.length=8:=by
           have:=HA.out.vv
           obtain ⟨_,_,e,hh,-⟩:=this
           rw [u64C_len] at hh;omega
          obtain ⟨b',o',e',-,hc⟩:=HA.out.vv.get (u64C_get (l:=L) (i:=0) (by omega))
          cases e'
          have:=hc i _ (u64C_get (by omega))
          rwa [Nat.zero_add,hy] at this
         have kx:x<4294967296:=by rw [<-hx];exact H832.out.get i
         have ky:y<4294967296:=by rw [<-hy];exact HL32.out i
         have fz:wr.frozen? ⟨g7,i,none⟩=false:=by
          rcases HA.out.sums.2 with ⟨h0,-⟩|⟨g',cap',cur,e',a1,a2,-⟩
          ·cases h0
          ·cases e';exact frozen_lit a2 i
         have q1:IntKind.u64.wrap ((x:Int)+(y:Int))=(x:Int)+(y:Int):=wrapU64 _ (by omega) (by omega)
         have LW:∀ Y,Calls Tryz.prog 231 #[.int .u64 ((x:Int)+(y:Int))] Y fun e w'=>e=.returned (.int .u64 (((x+y)%4294967296:Nat):Int))/\Y=w':=fun Y=>low_c (x+y) Y
         have HN:Hid (ByA w g7 c7 g8 c8 g12 c12 ws (addTo Hm L (i+1)) L (wr.setCell ⟨g7,i,none⟩ (.int .u64 (((x+y)%4294967296:Nat):Int)))):=Hd (by
          have:=HA.out.set hlt4 ((x+y)%4294967296)
          rw [show addTo Hm L (i+1)=(addTo Hm L i).set i ((x+y)%4294967296) by rw [<-hx,<-hy];rfl]
          exact this)
         have HS4:Hid ((wr.setCell ⟨g7,i,none⟩ (.int .u64 (((x+y)%4294967296:Nat):Int))).cell? ⟨g12,i,none⟩=some (.int .u64 (y:Int))):=Hd (by
          rw [<-dy]
          simp only [World.cell?,heap_set_ne _ HA.out.nv.symm])
         have HT4:=Hd hlt4
         generalize (x+y)%4294967296=z at *
         clear HA hln hx hy kx ky hi
         go_wp2_with fail
         -- rest 26: go_wp2_with fail\ngo_roundg (8-(i+1))\ncase measure=>have:=HT4.out;omega\ncase rel=>exact ⟨i+1,rfl,HT4.out,by congr 1,Hd HN.out.drew⟩
         -- region 26 begins
         refine wp_region_noPanic ?_
         refine wp_region_held_drew (S:=(fun (w':World)=>w'.cell? ⟨g12,i,none⟩=some (.int .u64 (y:Int)))) (by kernel_rfl) ?_ (fun hHeld=>?_)
         ·exact dy
         refine' tkH 0 rfl ?_
         try simp only [Act.put,List.setIfInBounds_toArray,List.set_cons_zero,List.set_cons_succ,List.getElem_toArray,List.getElem_cons_zero]
         refine' tkH 1 rfl ?_;try simp only [Act.put,awL]
         refine' tkH 2 rfl ?_;try simp only [Act.put,awL]
         refine' tkH 3 rfl ?_;try simp only [Act.put,awL]
         refine' tkH 4 rfl ?_;try simp only [Act.put,awL]
         refine' tkH 6 rfl ?_;try simp only [Act.put,awL]
         refine' tkH 7 rfl ?_;try simp only [Act.put,awL]
         refine' tkH 8 rfl ?_;try simp only [Act.put,awL]
         refine' tkH 9 rfl ?_;try simp only [Act.put,awL]
         refine wpAnyH_ready (rs:=[5]) (by kernel_rfl) (by simp) ?_
         refine AllReadyH.cons rfl (fun K hK=>?_) AllReadyH.nil
         go_simp
         refine hK.out _ _ ?_ (fun hHeld=>?_)
         ·exact dy
         clear hK K
         try simp only [Act.put,awL]
         refine' tkH 10 rfl ?_;try simp only [Act.put,awL]
         refine wpAnyH_ready (rs:=[11]) (by kernel_rfl) (by simp) ?_
         refine AllReadyH.cons rfl (fun K hK=>?_) AllReadyH.nil
         go_simp
         go_at_call 231
         refine Calls.at_args (LW _) (by with_reducible rfl) ?_
         rintro e w5 ⟨rfl,rfl⟩
         refine hK.out _ _ ?_ (fun hHeld=>?_)
         ·exact dy
         clear hK K
         try simp only [Act.put,awL]
         refine' tkH 12 rfl ?_;try simp only [Act.put,awL]
         refine wpAnyH_ready (rs:=[13]) (by kernel_rfl) (by simp) ?_
         refine AllReadyH.cons rfl (fun K hK=>?_) AllReadyH.nil
         go_simp
         refine hK.out _ _ ?_ (fun hHeld=>?_)
         ·exact HS4.out
         clear hK K
         try simp only [Act.put,awL]
         refine wpAnyH_done (by kernel_rfl) ?_ _
         refine NoPanic.normal ?_
         go_wp2_with fail
         go_roundg (8-(i+1))
         case measure=>have:=HT4.out;omega
         case rel=>exact ⟨i+1,rfl,HT4.out,by congr 1,Hd HN.out.drew⟩
         -- region 26 ends
         -- part 26 ends
        ·obtain rfl:i=8:=by omega
         have HO8:Hid (ByO w g7 c7 g8 c8 ws (refAll pn0.h ws (m+1)) wr):=Hd (by
          rw [<-HBK.out]
          exact ⟨HA.out.sums,HA.out.all,HA.out.ne,HA.out.bel⟩)
         clear HA HBK hi hlt4
         go_wp2_with fail
         go_roundg (M-(m+1))
         case measure=>have:=HLT.out;omega
         case rel=>exact ⟨m+1,at_+16,rfl,HLT.out,by have:=HAT.out;omega,rfl,HO8⟩
   -- part 5 ends
  ·obtain rfl:m=M:=by omega
   have hge5:¬at_<ws.length:=by have:=HM1.out;omega
   have HFS:Hid (wo.ownsRow w.heap.size 134 1 (.slice (some ⟨g7,0,none⟩) 8 c7) 8 (u64C (refAll pn0.h ws m))/\Below w.heap.size w wo):=Hd ⟨HR.out.sums,HR.out.bel⟩
   have HPF:Hid (∀ o:ByteArray,o.data.toList=(outL (refAll pn0.h ws m)).take (4*8)->o=prB s):=Hd fun o ho=>by
    rw [HPR.out,show ws.length / 16=m by have:=HM1.out;omega]
    apply ByteArray.ext
    rw [List.take_of_length_le (by rw [outL_len];decide)] at ho
    rw [<-ho]
   obtain ⟨h32,hl8⟩:=refAll_ok (ws:=ws) pn0_ok.h32 (show pn0.h.length=8 from rfl) m
   have H8:=Hd hl8
   have H832:=Hd h32
   obtain ⟨Hm,hHm⟩:=exE (refAll pn0.h ws m)
   rw [hHm] at HFS HPF H8 H832
   have R5:Hid (ByF w g7 c7 Hm (4*0) ⟨#[]⟩ wo):=Hd ⟨rfl,HFS.out.1,HFS.out.2⟩
   clear HR HFS HPR HM1 HK HMS h32 hl8 hHm hm hlt hat HC8
   go_wp2_with fail
   go_loopg [19,20] 8 (fun g s19 s20 W=>∃ (i:Nat) (o:ByteArray),g=8-i/\i<=8/\s20=.int .i64 (i:Int)/\s19=.string o/\Hid (ByF w g7 c7 Hm (4*i) o W))
   case atStart=>exact ⟨0,_,rfl,Nat.zero_le _,rfl,rfl,R5⟩
   case round =>
    obtain ⟨i,o,rfl,hi,rfl,rfl,HF⟩:=hrel
    clear R5
    by_cases hlt5:i<8
    ·have HI:=Hd hlt5
     have R6:Hid (ByF w g7 c7 Hm (4*i+0) o wr):=HF
     clear HF hi
     go_wp2_with fail
     go_loopg [19,21] 4 (fun g s19 s21 W=>∃ (q:Nat) (o:ByteArray),g=4-q/\q<=4/\s21=.int .i64 (24-8*(q:Int))/\s19=.string o/\Hid (ByF w g7 c7 Hm (4*i+q) o W))
     case atStart=>exact ⟨0,_,rfl,Nat.zero_le _,rfl,rfl,R6⟩
     case round =>
      obtain ⟨q,o,rfl,hq,rfl,rfl,HF⟩:=hrel
      clear R6
      by_cases hlt6:q<4
      ·have hol:o.size=4*i+q:=by
        rw [Lib.size_eq,HF.out.1,List.length_take,outL_len];have:=HI.out;omega
       obtain ⟨x,hx⟩:=exE (Hm.getD i 0)
       have cx:wr.cell? ⟨g7,i,none⟩=some (.int .u64 (x:Int)):=by
        have:=HF.out.2.1.cells rfl i _ (u64C_get (by rw [H8.out];exact HI.out))
        rw [hx] at this
        rwa [addr_addO,Nat.zero_add] at this
       have kx:x<4294967296:=by rw [<-hx];exact H832.out.get i
       obtain ⟨k,hk⟩:=exE (x / 2 ^ (24-8*q)%256)
       have hk2:k<256:=by rw [<-hk];exact Nat.mod_lt _ (by decide)
       have cv:=conv_k k hk2 (wr.alloc (.cells #[.int .u8 (k:Int)] 5)) wr.heap.size (cell_lit (heap_alloc_new _ _) rfl)
       obtain ⟨X,hX⟩:∃ X:ByteArray,(⟨#[UInt8.ofNat k]⟩:ByteArray)=X:=⟨_,rfl⟩
       have hxs:X.size=1:=by rw [<-hX];rfl
       have hb1:(o.size+X.size > 9223372036854775807)=False:=by have:=HI.out;simp;omega
       have hb2:¬(9223372036854775807<o.size+X.size):=by have:=HI.out;omega
       have HN:Hid (∀ W,Below wr.heap.size wr W->ByF w g7 c7 Hm (4*i+(q+1)) (o++X) W):=Hd fun W hW=>by
        refine ⟨?_,own_same HF.out.2.1 fun j e=>by cases e;exact hW.block g7 (HF.out.2.1.lt g7 rfl).2,HF.out.2.2.trans (hW.mono HF.out.2.2.size)⟩
        rw [<-Nat.add_assoc,outL_take _ _ (by have:=HI.out;omega),show (4*i+q) / 4=i by omega,show (4*i+q)%4=q by omega,hx,show 24-q*8=24-8*q by omega,<-HF.out.1,<-hX,<-hk]
        have e:UInt8.ofNat (x / 2 ^ (24-8*q)%256)=UInt8.ofNat (x / 2 ^ (24-8*q)):=by
         apply UInt8.toNat_inj.1
         rw [UInt8.toNat_ofNat',UInt8.toNat_ofNat']
         omega
        rw [e];simp
       rw [hX] at cv
       have HQ:=Hd hlt6
       have HBA:Hid (∀ o1:Obj,Below wr.heap.size wr (wr.alloc o1)):=Hd fun o1=>(Below.refl _ _).alloc (Nat.le_refl _) o1
       have w0:∀ (a:Int) (n:Nat),a%256=(n:Int)->IntKind.u8.wrap a=(n:Int):=fun a n h=>by
        simp [IntKind.wrap,IntKind.bits,IntKind.signed];omega
       have h8:q=0\/q=1\/q=2\/q=3:=by omega
       have HW8:=Hd w0
       have hil:i<8:=HI.out
       clear HF hol hx hX hxs hq hlt6 w0
       rcases h8 with rfl|rfl|rfl|rfl
       ·have c8:IntKind.u8.wrap ((x:Int) / 16777216)=(k:Int):=HW8.out _ _ (by rw [<-hk];simp only [Nat.reducePow,Nat.reduceMul,Nat.reduceSub];omega)
        clear hk hk2 kx HW8
        go_wp2_with fail
        go_roundg 3
        case measure=>omega
        case rel=>exact ⟨1,_,rfl,by decide,rfl,rfl,Hd (HN.out _ (HBA.out _))⟩
       ·have c8:IntKind.u8.wrap ((x:Int) / 65536)=(k:Int):=HW8.out _ _ (by rw [<-hk];simp only [Nat.reducePow,Nat.reduceMul,Nat.reduceSub];omega)
        clear hk hk2 kx HW8
        go_wp2_with fail
        go_roundg 2
        case measure=>omega
        case rel=>exact ⟨2,_,rfl,by decide,rfl,rfl,Hd (HN.out _ (HBA.out _))⟩
       ·have c8:IntKind.u8.wrap ((x:Int) / 256)=(k:Int):=HW8.out _ _ (by rw [<-hk];simp only [Nat.reducePow,Nat.reduceMul,Nat.reduceSub];omega)
        clear hk hk2 kx HW8
        go_wp2_with fail
        go_roundg 1
        case measure=>omega
        case rel=>exact ⟨3,_,rfl,by decide,rfl,rfl,Hd (HN.out _ (HBA.out _))⟩
       ·have c8:IntKind.u8.wrap ((x:Int))=(k:Int):=HW8.out _ _ (by rw [<-hk];simp only [Nat.reducePow,Nat.reduceMul,Nat.reduceSub];omega)
        clear hk hk2 kx HW8
        go_wp2_with fail
        go_roundg 0
        case measure=>omega
        case rel=>exact ⟨4,_,rfl,by decide,rfl,rfl,Hd (HN.out _ (HBA.out _))⟩
      ·obtain rfl:q=4:=by omega
       have HF2:Hid (ByF w g7 c7 Hm (4*(i+1)) o wr):=HF
       clear HF hq hlt6
       go_wp2_with fail
       go_roundg (8-(i+1))
       case measure=>have:=HI.out;omega
       case rel=>exact ⟨i+1,_,rfl,HI.out,by congr 1,rfl,HF2⟩
    ·obtain rfl:i=8:=by omega
     obtain rfl:=HPF.out o HF.out.1
     have HG:=Hd HF.out.2.2
     clear HF HPF hi hlt5
     go_wp2_with fail
     go_ret
     exact ⟨rfl,HG⟩
theorem RefPrint_c (s:ByteArray) (w:World) (hs:s.size<=100000):Calls Tryz.prog 148 #[.string s] w fun e w'=>e=.returned (.string (prB s))/\Hid (Below w.heap.size w w'):=by
 have SQ:=squares_c w
 have CB:=fun W=>cubes1_c W
 have HS:=Hd hs
 go_enter Tryz.func148,Tryz.ntmps148
 go_wp2_with fail
 refine SQ.mono ?_
 rintro e w1 ⟨v1,rfl,H1⟩
 clear SQ
 go_wp2_with fail
 refine (CB _).mono ?_
 rintro e w2 ⟨v2,rfl,H2⟩
 clear CB
 have BY:=By_c s v1 v2 w2 HS.out (by have:=(H1.out.rd).below H2.out.2;exact this) H2.out.rd
 have HB:=Hd (H1.out.2.trans (H2.out.2.mono H1.out.2.size))
 clear H1 H2
 go_wp2_with fail
 refine BY.mono ?_
 rintro e w3 ⟨rfl,H3⟩
 clear BY
 go_wp2_with fail
 go_ret
 exact ⟨rfl,Hd (HB.out.trans (H3.out.mono HB.out.size))⟩
set_option maxHeartbeats 4000000
theorem results_cell_tmp3 {fn:Func} {p u v x:Tmp} {ty:TypeId} (h:fn.results=#[.cell p ty,.tmp u,.tmp v,.tmp x]) (tmps:Array Value) (P:Program) (w:World) :
 (results fn tmps).run P w =
   ((asAddr (tmps.getD p undef)).run P w).andThen fun a w₁=>((loadVar ty a).run P w₁).andThen fun y w₂=>.ok (.tuple #[y,tmps.getD u undef,tmps.getD v undef,tmps.getD x undef]) w₂:=by
 simp only [results,h]
 simp [Sem.run_bind,Result.andThen]
theorem infoCk:(Tryz.prog.info? 175).map (fun i=>(i.zero,i.size,i.bytes))=some (some (.agg #[.string ⟨#[]⟩,.string ⟨#[]⟩,.int .i64 0]),3,40):=by kernel_rfl
theorem infoEn:(Tryz.prog.info? 188).map (fun i=>(i.zero,i.size,i.bytes))=some (some (.agg #[.string ⟨#[]⟩,.int .i64 0]),2,24):=by kernel_rfl
structure BoxW (w:World) (va vl:Value) (W:World):Prop where
 b:W.heap[w.heap.size]?=some (.cells #[va,vl] 52 (0,0))
 r:W.heap[w.heap.size+1]?=some (.cells #[.slice none 0 0,.slice none 0 0] 52 (0,0))
 bel:Below w.heap.size w W
theorem BoxW.start (w:World) (va vl:Value):BoxW w va vl ((w.alloc (.cells #[va,vl] 52)).alloc (.cells #[.slice none 0 0,.slice none 0 0] 52)):=by
 have hb:Below w.heap.size w (w.alloc (.cells #[va,vl] 52)):=(Below.refl _ _).alloc (Nat.le_refl _) _
 refine ⟨?_,?_,hb.alloc hb.size _⟩
 ·rw [heap_alloc_lt _ (by simp)];exact heap_alloc_new _ _
 ·have:=heap_alloc_new (w.alloc (.cells #[va,vl] 52)) (.cells #[.slice none 0 0,.slice none 0 0] 52)
  simpa using this
theorem BoxW.below {w W W':World} {va vl:Value} (h:BoxW w va vl W) (hb:Below W.heap.size W W'):BoxW w va vl W' :=
 ⟨(hb.block _ (lt_of_heap h.b)).trans h.b,(hb.block _ (lt_of_heap h.r)).trans h.r,h.bel.trans (hb.mono h.bel.size)⟩
theorem BoxW.grown {w W W':World} {va vl v:Value} (h:BoxW w va vl W) (hg:W.grownBy W' v.ownBlock) (hv:∀ j,v.ownBlock=some j->w.heap.size+2<=j):BoxW w va vl W':=by
 refine ⟨(hg.block _ (lt_of_heap h.b) fun e=>?_).trans h.b,(hg.block _ (lt_of_heap h.r) fun e=>?_).trans h.r,h.bel.grown hg h.bel.size fun j e=>by have:=hv j e;omega⟩
 ·have:=hv _ e.symm;omega
 ·have:=hv _ e.symm;omega
theorem BoxW.set {w W:World} {va vl:Value} (h:BoxW w va vl W) (x:Value):BoxW w x vl (W.setCell ⟨w.heap.size,0,none⟩ x):=by
 refine ⟨heap_set_lit h.b x,(heap_set_ne _ (by omega)).trans h.r,h.bel.setCell (Nat.le_refl _) _⟩
theorem BoxW.set1 {w W:World} {va vl:Value} (h:BoxW w va vl W) (x:Value):BoxW w va x (W.setCell ⟨w.heap.size,1,none⟩ x):=by
 refine ⟨heap_set_lit h.b x,(heap_set_ne _ (by omega)).trans h.r,h.bel.setCell (Nat.le_refl _) _⟩
theorem BoxW.cells {w W:World} {va vl:Value} (h:BoxW w va vl W):W.cell? ⟨w.heap.size,0,none⟩=some va/\W.cell? ⟨w.heap.size,1,none⟩=some vl/\W.frozen? ⟨w.heap.size,0,none⟩=false/\W.frozen? ⟨w.heap.size,1,none⟩=false/\w.heap.size<W.heap.size :=
 ⟨cell_lit h.b rfl,cell_lit h.b rfl,frozen_lit h.b 0,frozen_lit h.b 1,lt_of_heap h.b⟩
theorem BoxW.res {w W:World} {va vl:Value} (h:BoxW w va vl W):W.cell? ⟨w.heap.size+1,0,none⟩=some (.slice none 0 0)/\W.frozen? ⟨w.heap.size+1,0,none⟩=false/\W.frozen? ⟨w.heap.size+1,1,none⟩=false/\w.heap.size+1<W.heap.size/\W.cell? ⟨w.heap.size+1,1,none⟩=some (.slice none 0 0) :=
 ⟨cell_lit h.r rfl,frozen_lit h.r 0,frozen_lit h.r 1,lt_of_heap h.r,cell_lit h.r rfl⟩
theorem BoxW.out {w W:World} {va vl:Value} (h:BoxW w va vl W) (x y:Value):(W.setCell ⟨w.heap.size+1,0,none⟩ x).cell? ⟨w.heap.size+1,1,none⟩=some (.slice none 0 0)/\(W.setCell ⟨w.heap.size+1,0,none⟩ x).frozen? ⟨w.heap.size+1,1,none⟩=false/\((W.setCell ⟨w.heap.size+1,0,none⟩ x).setCell ⟨w.heap.size+1,1,none⟩ y).cell? ⟨w.heap.size+1,0,none⟩=some x/\((W.setCell ⟨w.heap.size+1,0,none⟩ x).setCell ⟨w.heap.size+1,1,none⟩ y).cell? ⟨w.heap.size+1,1,none⟩=some y/\Below w.heap.size w ((W.setCell ⟨w.heap.size+1,0,none⟩ x).setCell ⟨w.heap.size+1,1,none⟩ y):=by
 have h1:=heap_set_lit (i:=0) h.r x
 have h2:=heap_set_lit (i:=1) h1 y
 exact ⟨cell_lit h1 rfl,frozen_lit h1 1,cell_lit h2 rfl,cell_lit h2 rfl,(h.bel.setCell (p:=⟨w.heap.size+1,0,none⟩) (by show w.heap.size<=w.heap.size+1;omega) _).setCell (p:=⟨w.heap.size+1,1,none⟩) (by show w.heap.size<=w.heap.size+1;omega) _⟩
def StLoc (D:Nat->Prop) (v:Value):Prop:=∃ va vl,v=.agg #[va,vl]/\(∀ g,va.ownBlock=some g->D g)/\∀ g,vl.ownBlock=some g->D g
theorem StLoc.mono {D D':Nat->Prop} {v:Value} (h:StLoc D v) (hD:∀ b,D b->D' b):StLoc D' v:=by
 obtain ⟨va,vl,e,h1,h2⟩:=h
 exact ⟨va,vl,e,fun g hg=>hD g (h1 g hg),fun g hg=>hD g (h2 g hg)⟩
theorem StLoc.and {D D':Nat->Prop} {v:Value} (h:StLoc D v) (h':StLoc D' v):StLoc (fun b=>D b/\D' b) v:=by
 obtain ⟨va,vl,rfl,h1,h2⟩:=h
 obtain ⟨va',vl',e,h3,h4⟩:=h'
 cases e
 exact ⟨va,vl,rfl,fun g hg=>⟨h1 g hg,h3 g hg⟩,fun g hg=>⟨h2 g hg,h4 g hg⟩⟩
theorem RdRow.lt {w:World} {v:Value} {n sz:Nat} {xs:List Value} (h:RdRow w v n sz xs):∀ g,v.ownBlock=some g->g<w.heap.size:=by
 obtain ⟨a,c,rfl,_,_,_,h4⟩:=h
 intro g hg
 cases a with
 | none=>cases hg
 | some ad =>
   obtain ⟨b,off,rfl,h5,-⟩:=h4 ad rfl
   cases hg;exact h5
theorem StR.lt {w:World} {v:Value} {C:List RCk} {L:List REn} (h:StR w v C L):StLoc (fun b=>b<w.heap.size) v:=by
 obtain ⟨va,vl,rfl,h1,h2⟩:=h
 exact ⟨va,vl,rfl,h1.lt,h2.lt⟩
theorem RdRow.setLoc {w:World} {v:Value} {n sz:Nat} {xs:List Value} (h:RdRow w v n sz xs) {D:Nat->Prop} (hD:∀ g,v.ownBlock=some g->D g) {x i:Nat} (hx:¬D x) (u:Value):RdRow (w.setCell ⟨x,i,none⟩ u) v n sz xs:=by
 obtain ⟨a,c,rfl,h1,h2,h3,h4⟩:=h
 cases a with
 | none=>exact ⟨_,_,rfl,h1,h2,h3,fun ad e=>by cases e⟩
 | some ad =>
   obtain ⟨b,off,rfl,-⟩:=h4 ad rfl
   refine RdRow.setNe (x:=x) ⟨_,_,rfl,h1,h2,h3,h4⟩ ?_ u
   rintro rfl
   exact hx (hD b rfl)
theorem StR.setLoc {w:World} {v:Value} {C:List RCk} {L:List REn} (h:StR w v C L) {D:Nat->Prop} (hD:StLoc D v) {x i:Nat} (hx:¬D x) (u:Value):StR (w.setCell ⟨x,i,none⟩ u) v C L:=by
 obtain ⟨va,vl,rfl,h1,h2⟩:=h
 obtain ⟨va',vl',e,h3,h4⟩:=hD
 cases e
 exact ⟨va,vl,rfl,h1.setLoc h3 hx u,h2.setLoc h4 hx u⟩
theorem StLoc.newL {D:Nat->Prop} {va vl:Value} {b g5 n c5:Nat} (h:StLoc D (.agg #[va,vl])) (hg:b<=g5):StLoc (fun x=>D x\/b<=x) (.agg #[va,.slice (some ⟨g5,0,none⟩) n c5]):=by
 obtain ⟨va',vl',e,h1,h2⟩:=h
 cases e
 exact ⟨_,_,rfl,fun g hg'=>.inl (h1 g hg'),fun g hg'=>by cases hg';exact .inr hg⟩
theorem StLoc.newA {D:Nat->Prop} {va vl:Value} {b g5 n c5:Nat} (h:StLoc D (.agg #[va,vl])) (hg:b<=g5):StLoc (fun x=>D x\/b<=x) (.agg #[.slice (some ⟨g5,0,none⟩) n c5,vl]):=by
 obtain ⟨va',vl',e,h1,h2⟩:=h
 cases e
 exact ⟨_,_,rfl,fun g hg'=>by cases hg';exact .inr hg,fun g hg'=>.inl (h2 g hg')⟩
theorem own_form {w:World} {base sz n:Nat} {e:TypeId} {v:Value} {xs:List Value} (h:w.ownsRow base e sz v n xs) (hn:0<n):∃ g cap,v=.slice (some ⟨g,0,none⟩) n cap/\base<=g:=by
 rcases h.2 with ⟨rfl,h0⟩|⟨g,cap,cur,rfl,h1,-⟩
 ·omega
 ·exact ⟨g,cap,rfl,h1⟩
theorem enC_one (l:List REn):∀ u∈enC l,u.oneCell'=true:=by
 intro u hu
 obtain ⟨x,-,hx⟩:=List.mem_flatMap.1 hu
 simp only [List.mem_cons,List.not_mem_nil,or_false] at hx
 rcases hx with rfl|rfl <;> rfl
theorem StR.log5 {w W:World} {va:Value} {C:List RCk} {L:List REn} {g5 c5:Nat} {x:Value} {id:ByteArray} {by_:Int} {X:Value} (ha:RdRow (((W.setCell ⟨w.heap.size,1,none⟩ X).setCell ⟨w.heap.size+1,0,none⟩ va).setCell ⟨w.heap.size+1,1,none⟩ x) va C.length 3 (ckC C)) (hl:RdRow W (.slice (some ⟨g5,0,none⟩) (L.length+1) c5) (L.length+1) 2 (enC L++[.string id,.int .i64 by_])) (hg:w.heap.size+2<=g5) :
 StR (((W.setCell ⟨w.heap.size,1,none⟩ X).setCell ⟨w.heap.size+1,0,none⟩ va).setCell ⟨w.heap.size+1,1,none⟩ x) (.agg #[va,.slice (some ⟨g5,0,none⟩) (L.length+1) c5]) C (L++[(id,by_)]):=by
 refine ⟨_,_,rfl,ha,?_⟩
 rw [List.length_append,List.length_singleton,enC_snoc]
 exact ((hl.setNe (by omega) _).setNe (by omega) _).setNe (by omega) _
theorem Add_rc1 (v:Value) (C:List RCk) (L:List REn) (id:ByteArray) (by_:Int) (w:World) (h:StR w v C L) (hC:C.length<=1000000) (hL:L.length<=1000000) (h1:by_=1\/by_=-1) (c:RCk) (hf:fndR C id=some c) :
 Calls Tryz.prog 99 #[v,.string id,.int .i64 by_] w fun e w'=>∃ v',e=.returned (.tuple #[v',.int .i64 0])/\Hid ((StR w' v' C (L++[(id,by_)])/\Below w.heap.size w w')/\∀ D,StLoc D v->StLoc (fun b=>D b\/w.heap.size<=b) v'):=by
 obtain ⟨jE,hjE,hE0,hE1,hE2⟩:=info_parts infoEn
 have HST:=Hd h
 obtain ⟨va,vl,rfl,h2,h3⟩:=h
 obtain ⟨aA,cA,rfl,-⟩:=h2.form
 obtain ⟨aL,cL,rfl,-⟩:=h3.form
 have B0:=BoxW.start w (.slice aA C.length cA) (.slice aL L.length cL)
 obtain ⟨wb,hwb⟩:=exE ((w.alloc (.cells #[.slice aA C.length cA,.slice aL L.length cL] 52)).alloc (.cells #[.slice none 0 0,.slice none 0 0] 52))
 rw [hwb] at B0
 have HB0:=Hd B0
 have AT:=At_rc (.agg #[.slice aA C.length cA,.slice aL L.length cL]) C L id wb (HST.out.below B0.bel) hC
 obtain ⟨i,hi,-,hx,-⟩:=ixR_some hf
 rw [hx] at AT
 have hi0:((i:Int)<0)=False:=eq_false (by omega)
 obtain ⟨x0,x1,x2,x3,x4⟩:=B0.cells
 have HLL:=Hd hL
 have HVL:=Hd h3
 have HVA:=Hd h2
 clear B0 hx hf hi h2 h3 hL
 rcases h1 with rfl|rfl
 all_goals (
  go_enter Tryz.func99,Tryz.ntmps99
  go_wp2_with fail
  refine AT.mono ?_
  rintro e w2 ⟨rfl,H2⟩
  have HB2:=Hd (HB0.out.below H2.out)
  clear AT H2 hwb x0 x1 x2 x3 x4
  obtain ⟨x0,x1,x2,x3,x4⟩:=HB2.out.cells
  have HZ:Hid (w.heap.size+2<=w2.heap.size):=Hd (by have:=lt_of_heap HB2.out.r;omega)
  have HO1:Hid ((w2.alloc (.cells #[] 188)).ownsRow (w.heap.size+2) 188 2 (.slice (some ⟨w2.heap.size,0,none⟩) 0 0) 0 []):=Hd (World.ownsRow_lit w2 #[] 0 HZ.out (by decide) rfl)
  have HBa:=Hd (HB2.out.below ((Below.refl _ _).alloc (Nat.le_refl _) (.cells #[] 188)))
  have HY1:Hid (Yields (w2.alloc (.cells #[] 188)) (.slice aL L.length cL) L.length (enC L)):=Hd ((HVL.out.below (HBa.out.bel)).yields)
  have L1:=Hd (show 0+L.length<=maxLen/\(0+L.length)*24<=140737488355328 from ⟨by have:=HLL.out;unfold maxLen;omega,by have:=HLL.out;omega⟩)
  have L2:=Hd (show L.length+1<=maxLen/\(L.length+1)*24<=140737488355328 from ⟨by have:=HLL.out;unfold maxLen;omega,by have:=HLL.out;omega⟩)
  have HZ1:Hid (w.heap.size+2<=(w2.alloc (.cells #[] 188)).heap.size):=Hd (by have:=HZ.out;simp;omega)
  go_wp2_with (first
   | (refine chkA 50 50 ⟨_,_,by with_reducible rfl⟩ ?_
      refine wpList_append_y (by rfl) _ _ _ rfl (w.heap.size+2) 188 jE _ 2 24 Tryz.underlying50 hjE hE0 hE1 hE2 rfl (by decide) _ _ _ (by rfl) (HO3.out.alloc _) _ 1 _ (by rfl) (yields_boxL _ _ _ 1 1) rfl (one2 _ _ rfl rfl) L2.out.1 L2.out.2 (HZ3.out _) ?_
      intro v5 W5 ho5 hg5 ha5
      have hB5:=(HB3.out.below ((Below.refl _ _).alloc (Nat.le_refl _) _)).grown hg5 fun j e=>(ho3.lt j e).1
      obtain ⟨g5,c5,rfl,k5⟩:=own_form ho5 (by omega)
      have hB6:=hB5.set1 (.slice (some ⟨g5,0,none⟩) (L.length+1) c5)
      obtain ⟨y0,y1,y2,y3,y4⟩:=hB5.cells
      obtain ⟨z0,z1,z2,z3,z4⟩:=hB6.cells
      obtain ⟨r0,r1,r2,r3,r4⟩:=hB6.res
      obtain ⟨o1,o2,o3,o4,o5⟩:=hB6.out (.slice aA C.length cA) (.slice (some ⟨g5,0,none⟩) (L.length+1) c5)
      have HG:=Hd (And.intro (And.intro (StR.log5 (HVA.out.below o5) (RdRow.own ho5) k5) o5) (fun D (hD:StLoc D (.agg #[.slice aA C.length cA,.slice aL L.length cL]))=>StLoc.newL (n:=L.length+1) (c5:=c5) hD (Nat.le_trans (Nat.le_add_right _ 2) k5)))
      clear ho5 hg5 ha5 hB5 hB6 o5 k5)
   | (refine chkA 50 50 ⟨_,_,by with_reducible rfl⟩ ?_
      refine wpList_append_y (by rfl) _ _ _ rfl (w.heap.size+2) 188 jE _ 2 24 Tryz.underlying50 hjE hE0 hE1 hE2 rfl (by decide) _ _ _ (by rfl) HO1.out _ L.length (enC L) (by rfl) HY1.out (enC_len L) (enC_one L) L1.out.1 L1.out.2 HZ1.out ?_
      intro v3 W3 ho3 hg3 ha3
      rw [Nat.zero_add] at ho3
      rw [List.nil_append] at ho3
      have HO3:=Hd ho3
      have HB3:=Hd (HBa.out.grown hg3 fun j e=>(HO1.out.lt j e).1)
      have HZ3:Hid (∀ o:Obj,w.heap.size+2<=(W3.alloc o).heap.size):=Hd fun o=>by have:=lt_of_heap HB3.out.r;simp;omega
      clear hg3 ha3))
  (try simp only [Exit.inBlock,Exit.then])
  refine bodyPost_ret (v:=.tuple #[.agg #[.slice aA C.length cA,.slice (some ⟨g5,0,none⟩) (L.length+1) c5],.int .i64 0]) ?_ rfl ⟨_,rfl,HG⟩
  rw [results_cell_tmp rfl]
  go_simp)
set_option maxHeartbeats 8000000
def insK (C:List RCk) (c:RCk) (k:Nat):List RCk:=if doneR (C.take k) c then insR (C.take k) c else C.take k
theorem insK_yes {C:List RCk} {c:RCk} {k:Nat} (h:k<C.length) (hd:doneR (C.take k) c=true):insK C c (k+1)=insK C c k++[C[k]]/\doneR (C.take (k+1)) c=true:=by
 have h2:doneR (C.take (k+1)) c=true:=by rw [List.take_succ_eq_append_getElem h,done_snoc,hd];rfl
 refine ⟨?_,h2⟩
 unfold insK
 rw [if_pos h2,if_pos hd,List.take_succ_eq_append_getElem h,ins_done hd]
theorem insK_new {C:List RCk} {c:RCk} {k:Nat} (h:k<C.length) (hd:doneR (C.take k) c=false) (hl:kless c.1 C[k].1=true):insK C c (k+1)=insK C c k++[c]++[C[k]]/\doneR (C.take (k+1)) c=true:=by
 have h2:doneR (C.take (k+1)) c=true:=by rw [List.take_succ_eq_append_getElem h,done_snoc,hd,hl];rfl
 refine ⟨?_,h2⟩
 unfold insK
 rw [if_pos h2,if_neg (by rw [hd];simp),List.take_succ_eq_append_getElem h,ins_first hd hl]
 simp
theorem insK_no {C:List RCk} {c:RCk} {k:Nat} (h:k<C.length) (hd:doneR (C.take k) c=false) (hl:kless c.1 C[k].1=false):insK C c (k+1)=insK C c k++[C[k]]/\doneR (C.take (k+1)) c=false:=by
 have h2:doneR (C.take (k+1)) c=false:=by rw [List.take_succ_eq_append_getElem h,done_snoc,hd,hl];rfl
 refine ⟨?_,h2⟩
 unfold insK
 rw [if_neg (by rw [h2];simp),if_neg (by rw [hd];simp),List.take_succ_eq_append_getElem h]
theorem insK_len (C:List RCk) (c:RCk) (k:Nat):(insK C c k).length<=k+1:=by
 unfold insK
 split
 ·rw [ins_len,List.length_take];omega
 ·rw [List.length_take];omega
theorem insK_end {C:List RCk} {c:RCk}:(doneR (C.take C.length) c=true->insK C c C.length=insR C c)/\(doneR (C.take C.length) c=false->insK C c C.length++[c]=insR C c):=by
 unfold insK
 rw [List.take_length]
 exact ⟨fun h=>by rw [if_pos h],fun h=>by rw [if_neg (by rw [h];simp),ins_not h]⟩
structure InsAt (w:World) (va vl:Value) (B:Nat) (C:List RCk) (v:Value) (l:List RCk) (wr:World):Prop where
 row:wr.ownsRow B 175 3 v l.length (ckC l)
 box:BoxW w va vl wr
 lo:w.heap.size+2<=B/\B<=wr.heap.size
theorem InsAt.snoc {w wr W5:World} {va vl v v5:Value} {B:Nat} {C l:List RCk} {c:RCk} (h:InsAt w va vl B C v l wr) (o:Obj) (hg:(wr.alloc o).grownBy W5 v.ownBlock) (h5:W5.ownsRow B 175 3 v5 (l.length+1) (ckC l++[.string c.1,.string c.2.1,.int .i64 c.2.2])):InsAt w va vl B C v5 (l++[c]) W5:=by
 have hb:=h.box.below ((Below.refl _ _).alloc (Nat.le_refl _) o)
 refine ⟨by rw [List.length_append,List.length_singleton,ckC_snoc];exact h5,hb.grown hg fun j e=>Nat.le_trans h.lo.1 (h.row.lt j e).1,h.lo.1,?_⟩
 have h1:=hg.size
 have h2:=h.lo.2
 rw [World.size_alloc] at h1
 omega
theorem ckC_one (l:List RCk):∀ u∈ckC l,u.oneCell'=true:=by
 intro u hu
 obtain ⟨x,-,hx⟩:=List.mem_flatMap.1 hu
 simp only [List.mem_cons,List.not_mem_nil,or_false] at hx
 rcases hx with rfl|rfl|rfl <;> rfl
theorem StR.put5 {w W:World} {vl:Value} {C:List RCk} {L:List REn} {g5 c5:Nat} {x y X:Value} (hl:RdRow (((W.setCell ⟨w.heap.size,0,none⟩ X).setCell ⟨w.heap.size+1,0,none⟩ x).setCell ⟨w.heap.size+1,1,none⟩ y) vl L.length 2 (enC L)) (ha:RdRow W (.slice (some ⟨g5,0,none⟩) C.length c5) C.length 3 (ckC C)) (hg:w.heap.size+2<=g5) :
 StR (((W.setCell ⟨w.heap.size,0,none⟩ X).setCell ⟨w.heap.size+1,0,none⟩ x).setCell ⟨w.heap.size+1,1,none⟩ y) (.agg #[.slice (some ⟨g5,0,none⟩) C.length c5,vl]) C L :=
 ⟨_,_,rfl,((ha.setNe (by omega) _).setNe (by omega) _).setNe (by omega) _,hl⟩
theorem putR_new' {C:List RCk} {t:ByteArray} {k:Nat} (h1:1<=t.size) (h2:t.size<=128) (hno:∀ j,j<256->hitR C (prB t) t j=false) (hk:k<256) (hf:freeR C (prB t) k=true) (hb:∀ j,j<k->freeR C (prB t) j=false):putR C t=(insR C (nameB (prB t) k,t,0),nameB (prB t) k,true,0):=by
 unfold putR
 rw [if_neg (by omega),range_none hno,range_first hk hf hb]
theorem putR_hit' {C:List RCk} {t:ByteArray} {k:Nat} (h1:1<=t.size) (h2:t.size<=128) (hno:∀ j,j<k->hitR C (prB t) t j=false) (hk:k<256) (hf:hitR C (prB t) t k=true):putR C t=(C,nameB (prB t) k,false,0):=by
 unfold putR
 rw [if_neg (by omega),range_first hk hf hno]
theorem putR_full {C:List RCk} {t:ByteArray} (h1:1<=t.size) (h2:t.size<=128) (hno:∀ j,j<256->hitR C (prB t) t j=false) (hb:∀ j,j<256->freeR C (prB t) j=false):putR C t=(C,⟨#[]⟩,false,4):=by
 unfold putR
 rw [if_neg (by omega),range_none hno,range_none hb]
theorem Put_rc (v:Value) (C:List RCk) (L:List REn) (t:ByteArray) (w:World) (h:StR w v C L) (hC:C.length<=100000) (ht1:1<=t.size) (ht2:t.size<=128) :
 Calls Tryz.prog 97 #[v,.string t] w fun e w'=>∃ v',e=.returned (.tuple #[v',.string (putR C t).2.1,.bool (putR C t).2.2.1,.int .i64 (putR C t).2.2.2])/\Hid ((StR w' v' (putR C t).1 L/\Below w.heap.size w w')/\∀ D,StLoc D v->StLoc (fun b=>D b\/w.heap.size<=b) v'):=by
 obtain ⟨jC,hjC,hC0,hC1,hC2⟩:=info_parts infoCk
 have HST:=Hd h
 obtain ⟨va,vl,rfl,h2,h3⟩:=h
 obtain ⟨aA,cA,rfl,-⟩:=h2.form
 obtain ⟨aL,cL,rfl,-⟩:=h3.form
 have B0:=BoxW.start w (.slice aA C.length cA) (.slice aL L.length cL)
 obtain ⟨wb,hwb⟩:=exE ((w.alloc (.cells #[.slice aA C.length cA,.slice aL L.length cL] 52)).alloc (.cells #[.slice none 0 0,.slice none 0 0] 52))
 rw [hwb] at B0
 have HB0:=Hd B0
 have PR:=fun W=>RefPrint_c t W (by omega)
 obtain ⟨p,hp⟩:=exE (prB t)
 have HPP:=Hd hp
 have hps:p.size=32:=by rw [<-hp,prB_size]
 have HV:Hid (RdRow w (.slice aA C.length cA) C.length 3 (ckC C)):=Hd h2
 have HVL:Hid (RdRow w (.slice aL L.length cL) L.length 2 (enC L)):=Hd h3
 have HCL:=Hd hC
 have HT:=Hd (And.intro ht1 ht2)
 have d0:decide ((t.size:Int)<1)=false:=decide_eq_false (by omega)
 have d1:decide ((t.size:Int) > 128)=false:=decide_eq_false (by omega)
 rw [hp] at PR
 have AT:Hid (∀ nm W,BoxW w (.slice aA C.length cA) (.slice aL L.length cL) W->Calls Tryz.prog 102 #[.agg #[.slice aA C.length cA,.slice aL L.length cL],.string nm] W fun e w'=>e=.returned (.int .i64 (ixR C nm))/\Hid (Below W.heap.size W w')):=Hd fun nm W hW =>
  At_rc (.agg #[.slice aA C.length cA,.slice aL L.length cL]) C L nm W (HST.out.below hW.bel) (by omega)
 clear B0 h2 h3 hp hC ht1 ht2
 go_enter Tryz.func97,Tryz.ntmps97
 go_wp2_with fail
 refine (PR _).mono ?_
 rintro e w2 ⟨rfl,H2⟩
 have R1:Hid ((∀ j,j<0->hitR C p t j=false)/\BoxW w (.slice aA C.length cA) (.slice aL L.length cL) w2):=Hd ⟨fun j hj=>absurd hj (by omega),HB0.out.below H2.out⟩
 clear PR H2 hwb d0 d1 HB0
 go_wp2_with fail
 go_loopg [9] 256 (fun g s9 wr=>∃ (k:Nat),g=256-k/\k<=256/\s9=.int .i64 (k:Int)/\Hid ((∀ j,j<k->hitR C p t j=false)/\BoxW w (.slice aA C.length cA) (.slice aL L.length cL) wr))
 case atStart=>exact ⟨0,rfl,Nat.zero_le _,rfl,R1⟩
 case round =>
  obtain ⟨k,rfl,hk,rfl,HI⟩:=hrel
  clear R1
  by_cases hlt:k<256
  ·-- part 1 begins
   have k0:IntKind.u8.wrap (k:Int)=(k:Int):=by
    simp [IntKind.wrap,IntKind.bits,IntKind.signed];omega
   have cv:=conv_k k hlt (wr.alloc (.cells #[.int .u8 (k:Int)] 5)) wr.heap.size (cell_lit (heap_alloc_new _ _) rfl)
   obtain ⟨X,hX⟩:∃ X:ByteArray,(⟨#[UInt8.ofNat k]⟩:ByteArray)=X:=⟨_,rfl⟩
   have hxs:X.size=1:=by rw [<-hX];rfl
   have hb1:(p.size+X.size > 9223372036854775807)=False:=by simp;omega
   have hb2:¬(9223372036854775807<p.size+X.size):=by omega
   obtain ⟨nm,hnm⟩:=exE (p++X)
   have HNM:Hid (nm=nameB p k):=Hd (by rw [<-hnm,<-hX];rfl)
   rw [hX] at cv
   have HB2:=Hd (HI.out.2.below ((Below.refl _ _).alloc (Nat.le_refl _) (.cells #[.int .u8 (k:Int)] 5)))
   have A2:=AT.out nm _ HB2.out
   obtain ⟨x0,x1,x2,x3,x4⟩:=HI.out.2.cells
   obtain ⟨y0,y1,y2,y3,y4⟩:=HB2.out.cells
   clear hX hxs
   have HLT:=Hd hlt
   cases hf:fndR C nm with
   | none =>
     rw [(ixR_none hf).1] at A2
     have HNX:Hid (∀ j,j<k+1->hitR C p t j=false):=Hd fun j hj=>by
      by_cases e:j=k
      ·subst e;unfold hitR;rw [<-HNM.out,hf]
      ·exact HI.out.1 j (by omega)
     clear hf HI
     go_wp2_with fail
     refine A2.mono ?_
     rintro e w3 ⟨rfl,H3⟩
     have HB3:=Hd (HB2.out.below H3.out)
     clear A2 H3 HB2 cv x0 x1 x2 x3 x4 y0 y1 y2 y3 y4 hlt hk
     obtain ⟨x0,x1,x2,x3,x4⟩:=HB3.out.cells
     go_wp2_with fail
     go_roundg (256-(k+1))
     case measure=>have:=HLT.out;omega
     case rel=>exact ⟨k+1,rfl,HLT.out,by congr 1,Hd ⟨HNX.out,HB3.out⟩⟩
   | some c =>
     obtain ⟨i,hi,hc,hx,-⟩:=ixR_some hf
     rw [hx] at A2
     obtain ⟨-,c1,-⟩:=ckC_get hi
     obtain ⟨b,off,rfl,hb,hcell⟩:=HV.out.get c1
     have ck:=hcell _ _ c1
     rw [hc] at ck
     have HCK:Hid (∀ W,Below w.heap.size w W->W.cell? ⟨b,off+i*3+1,none⟩=some (.string c.2.1)):=Hd fun W hW=>(hW.cell (p:=⟨b,off+i*3+1,none⟩) hb).trans ck
     have hi0:decide ((i:Int) >= 0)=true:=decide_eq_true (by omega)
     have hcl:C.length<=100000:=HCL.out
     by_cases he:c.2.1=t
     ·have HE:=Hd (show putR C t=(C,nm,false,0) by
       have hh:hitR C (prB t) t k=true:=by rw [HPP.out];unfold hitR;rw [<-HNM.out,hf];simp [he]
       rw [HNM.out,<-HPP.out]
       exact putR_hit' HT.out.1 HT.out.2 (by rw [HPP.out];exact HI.out.1) hlt hh)
      have heq:(c.2.1.toList == t.toList)=true:=by rw [he];simp
      clear hf hx hc c1 hcell ck hb he HI
      generalize c.2.1=ct at *
      go_wp2_with fail
      refine A2.mono ?_
      rintro e w3 ⟨rfl,H3⟩
      have HB3:=Hd (HB2.out.below H3.out)
      clear A2 H3 HB2 cv x0 x1 x2 x3 x4 y0 y1 y2 y3 y4 hlt hk
      obtain ⟨x0,x1,x2,x3,x4⟩:=HB3.out.cells
      obtain ⟨r0,r1,r2,r3,r4⟩:=HB3.out.res
      obtain ⟨o1,o2,o3,o4,o5⟩:=HB3.out.out (.slice (some ⟨b,off,none⟩) C.length cA) (.slice aL L.length cL)
      have cc:=HCK.out _ HB3.out.bel
      have HG:=Hd (And.intro (And.intro (HST.out.below o5) o5) (fun D (hD:StLoc D (.agg #[.slice (some ⟨b,off,none⟩) C.length cA,.slice aL L.length cL]))=>hD.mono (D':=fun b=>D b\/w.heap.size<=b) fun b hb=>Or.inl hb))
      clear o5 HCK
      go_wp2_with fail
      (try simp only [Exit.inBlock,Exit.then])
      refine bodyPost_ret (v:=.tuple #[.agg #[.slice (some ⟨b,off,none⟩) C.length cA,.slice aL L.length cL],.string nm,.bool false,.int .i64 0]) ?_ rfl ⟨_,by rw [HE.out],by rw [HE.out];exact HG⟩
      rw [results_cell_tmp3 rfl]
      go_simp
     ·have HNX:Hid (∀ j,j<k+1->hitR C p t j=false):=Hd fun j hj=>by
       by_cases e:j=k
       ·subst e;unfold hitR;rw [<-HNM.out,hf];simp [he]
       ·exact HI.out.1 j (by omega)
      have heq:=ba_neR he
      clear hf hx hc c1 hcell ck hb he HI
      generalize c.2.1=ct at *
      go_wp2_with fail
      refine A2.mono ?_
      rintro e w3 ⟨rfl,H3⟩
      have HB3:=Hd (HB2.out.below H3.out)
      clear A2 H3 HB2 cv x0 x1 x2 x3 x4 y0 y1 y2 y3 y4 hlt hk
      obtain ⟨x0,x1,x2,x3,x4⟩:=HB3.out.cells
      have cc:=HCK.out _ HB3.out.bel
      clear HCK
      go_wp2_with fail
      go_roundg (256-(k+1))
      case measure=>have:=HLT.out;omega
      case rel=>exact ⟨k+1,rfl,HLT.out,by congr 1,Hd ⟨HNX.out,HB3.out⟩⟩
   -- part 1 ends
  ·obtain rfl:k=256:=by omega
   have HNH:=Hd HI.out.1
   have R2:Hid ((∀ j,j<0->freeR C p j=false)/\BoxW w (.slice aA C.length cA) (.slice aL L.length cL) wr):=Hd ⟨fun j hj=>absurd hj (by omega),HI.out.2⟩
   clear HI hlt hk
   go_wp2_with fail
   go_loopg [12] 256 (fun g s12 wr=>∃ (k:Nat),g=256-k/\k<=256/\s12=.int .i64 (k:Int)/\Hid ((∀ j,j<k->freeR C p j=false)/\BoxW w (.slice aA C.length cA) (.slice aL L.length cL) wr))
   case atStart=>exact ⟨0,rfl,Nat.zero_le _,rfl,R2⟩
   case round =>
    obtain ⟨k,rfl,hk,rfl,HI⟩:=hrel
    clear R2
    by_cases hlt:k<256
    ·have HLT:=Hd hlt
     have k0:IntKind.u8.wrap (k:Int)=(k:Int):=by
      simp [IntKind.wrap,IntKind.bits,IntKind.signed];omega
     have cv:=conv_k k hlt (wr.alloc (.cells #[.int .u8 (k:Int)] 5)) wr.heap.size (cell_lit (heap_alloc_new _ _) rfl)
     obtain ⟨X,hX⟩:∃ X:ByteArray,(⟨#[UInt8.ofNat k]⟩:ByteArray)=X:=⟨_,rfl⟩
     have hxs:X.size=1:=by rw [<-hX];rfl
     have hb1:(p.size+X.size > 9223372036854775807)=False:=by simp;omega
     have hb2:¬(9223372036854775807<p.size+X.size):=by omega
     obtain ⟨nm,hnm⟩:=exE (p++X)
     have HNM:Hid (nm=nameB p k):=Hd (by rw [<-hnm,<-hX];rfl)
     rw [hX] at cv
     have HB2:=Hd (HI.out.2.below ((Below.refl _ _).alloc (Nat.le_refl _) (.cells #[.int .u8 (k:Int)] 5)))
     have A2:=AT.out nm _ HB2.out
     obtain ⟨x0,x1,x2,x3,x4⟩:=HI.out.2.cells
     obtain ⟨y0,y1,y2,y3,y4⟩:=HB2.out.cells
     clear hX hxs
     cases hf:fndR C nm with
     | some c =>
       -- part 2 begins
       obtain ⟨i,hi,hc,hx,-⟩:=ixR_some hf
       rw [hx] at A2
       have hi0:decide ((i:Int) >= 0)=true:=decide_eq_true (by omega)
       have HNX:Hid (∀ j,j<k+1->freeR C p j=false):=Hd fun j hj=>by
        by_cases e:j=k
        ·subst e;unfold freeR;rw [<-HNM.out,hf];rfl
        ·exact HI.out.1 j (by omega)
       clear hf hx hc HI
       go_wp2_with fail
       refine A2.mono ?_
       rintro e w3 ⟨rfl,H3⟩
       have HB3:=Hd (HB2.out.below H3.out)
       clear A2 H3 HB2 cv x0 x1 x2 x3 x4 y0 y1 y2 y3 y4 hlt hk
       go_wp2_with fail
       go_roundg (256-(k+1))
       case measure=>have:=HLT.out;omega
       case rel=>exact ⟨k+1,rfl,HLT.out,by congr 1,Hd ⟨HNX.out,HB3.out⟩⟩
       -- part 2 ends
     | none =>
       rw [(ixR_none hf).1] at A2
       have HE:=Hd (show putR C t=(insR C (nm,t,0),nm,true,0) by
        rw [HNM.out,<-HPP.out]
        exact putR_new' HT.out.1 HT.out.2 (by rw [HPP.out];exact HNH.out) hlt (by rw [HPP.out];unfold freeR;rw [<-HNM.out,hf];rfl) (by rw [HPP.out];exact HI.out.1))
       clear hf HI
       go_wp2_with fail
       refine A2.mono ?_
       rintro e w3 ⟨rfl,H3⟩
       have HB3:=Hd (HB2.out.below H3.out)
       clear A2 H3 HB2 cv x0 x1 x2 x3 x4 y0 y1 y2 y3 y4 hlt hk
       have HBz:=Hd (show w.heap.size+2<=w3.heap.size from lt_of_heap HB3.out.r)
       have R3:Hid (InsAt w (.slice aA C.length cA) (.slice aL L.length cL) w3.heap.size C (.slice none 0 0) (insK C (nm,t,0) 0) w3):=Hd ⟨World.ownsRow_nil _ _ _ _,HB3.out,HBz.out,Nat.le_refl _⟩
       clear HB3
       go_wp2_with fail
       go_loopg [14,15,16] C.length (fun g s14 s15 s16 wr=>∃ (q:Nat) (v:Value),g=C.length-q/\q<=C.length/\s16=.int .i64 (q:Int)/\s15=.bool (doneR (C.take q) (nm,t,0))/\v=s14/\Hid (InsAt w (.slice aA C.length cA) (.slice aL L.length cL) w3.heap.size C v (insK C (nm,t,0) q) wr))
       case atStart=>exact ⟨0,_,rfl,Nat.zero_le _,rfl,rfl,rfl,R3⟩
       case round =>
        obtain ⟨q,v,rfl,hq,rfl,rfl,rfl,HI⟩:=hrel
        clear R3
        have hcl:C.length<=100000:=HCL.out
        obtain ⟨x0,x1,x2,x3,x4⟩:=HI.out.box.cells
        by_cases hlt3:q<C.length
        ·-- part 3 begins
         obtain ⟨e0,e1,e2⟩:=ckC_get hlt3
         obtain ⟨b,off,rfl,hb,hcell⟩:=HV.out.get e0
         have HCK:Hid (∀ W,Below w.heap.size w W->W.cell? ⟨b,off+q*3,none⟩=some (.string C[q].1)/\W.cell? ⟨b,off+q*3+1,none⟩=some (.string C[q].2.1)/\W.cell? ⟨b,off+q*3+2,none⟩=some (.int .i64 C[q].2.2)):=Hd fun W hW =>
          ⟨(hW.cell (p:=⟨b,off+q*3,none⟩) hb).trans (hcell _ _ e0),(hW.cell (p:=⟨b,off+q*3+1,none⟩) hb).trans (hcell _ _ e1),(hW.cell (p:=⟨b,off+q*3+2,none⟩) hb).trans (hcell _ _ e2)⟩
         have HQ:=Hd hlt3
         have HLN:Hid ((insK C (nm,t,0) q).length<=100001):=Hd (by have:=insK_len C (nm,t,0) q;omega)
         have HYS:=Hd fun hd=>insK_yes (c:=(nm,t,0)) hlt3 hd
         have HNW:=Hd fun hd hl=>insK_new (c:=(nm,t,0)) hlt3 hd hl
         have HNO:=Hd fun hd hl=>insK_no (c:=(nm,t,0)) hlt3 hd hl
         obtain ⟨d,hd⟩:=exE (C[q]'hlt3)
         rw [hd] at HCK HYS HNW HNO
         obtain ⟨lq,hlq⟩:=exE (insK C (nm,t,0) q)
         rw [hlq] at HI HYS HNW HNO HLN
         obtain ⟨nx,hnx⟩:=exE (insK C (nm,t,0) (q+1))
         have HNX:=Hd hnx
         rw [hnx] at HYS HNW HNO
         obtain ⟨dn,hdn⟩:=exE (doneR (C.take (q+1)) (nm,t,0))
         have HDN:=Hd hdn
         rw [hdn] at HYS HNW HNO
         obtain ⟨ck0,ck1,ck2⟩:=HCK.out wr HI.out.box.bel
         have HO:=Hd HI.out.row
         have HZ:Hid (∀ o:Obj,w3.heap.size<=(wr.alloc o).heap.size):=Hd fun o=>by have:=HI.out.lo.2;simp;omega
         have L1:=Hd (show lq.length+1<=maxLen/\(lq.length+1)*40<=140737488355328 from ⟨by have:=HLN.out;unfold maxLen;omega,by have:=HLN.out;omega⟩)
         have L2:=Hd (show lq.length+1+1<=maxLen/\(lq.length+1+1)*40<=140737488355328 from ⟨by have:=HLN.out;unfold maxLen;omega,by have:=HLN.out;omega⟩)
         clear e0 e1 e2 hcell hb hd hlq hnx hdn
         obtain ⟨i1,i2,n3⟩:=d
         simp only at ck0 ck1 ck2 HCK HYS HNW HNO
         cases hdq:doneR (C.take q) (nm,t,0) with
         | true =>
           obtain ⟨n1,n2⟩:=HYS.out hdq
           have HSN:Hid (∀ o W5 v5,(wr.alloc o).grownBy W5 v.ownBlock->W5.ownsRow w3.heap.size 175 3 v5 (lq.length+1) (ckC lq++[.string i1,.string i2,.int .i64 n3])->InsAt w (.slice (some ⟨b,off,none⟩) C.length cA) (.slice aL L.length cL) w3.heap.size C v5 nx W5):=Hd fun o W5 v5 hg h5=>by
            rw [n1];exact InsAt.snoc (c:=(i1,i2,n3)) HI.out o hg h5
           clear n1 HI HYS HNW HNO hdq
           go_wp2_with (first
            | (refine chkA 49 49 ⟨_,_,by with_reducible rfl⟩ ?_
               refine wpList_append_y (by rfl) _ _ _ rfl w3.heap.size 175 jC _ 3 40 Tryz.underlying49 hjC hC0 hC1 hC2 rfl (by decide) _ _ _ (by rfl) (HO.out.alloc _) _ 1 _ (by rfl) (yields_boxL _ #[.string i1,.string i2,.int .i64 n3] _ 1 1) rfl (one3 _ _ _ rfl rfl rfl) L1.out.1 L1.out.2 (HZ.out _) ?_
               intro v5 W5 ho5 hg5 ha5
               have HN5:=Hd (HSN.out _ W5 v5 hg5 ho5)
               clear ho5 hg5 ha5))
           go_roundg (C.length-(q+1))
           case measure=>have:=HQ.out;omega
           case rel=>exact ⟨q+1,_,rfl,HQ.out,by congr 1,by rw [HDN.out,n2],rfl,by rw [HNX.out];exact HN5⟩
         | false =>
           cases hl:kless nm i1 with
           | false =>
             obtain ⟨n1,n2⟩:=HNO.out hdq hl
             have HSN:Hid (∀ o W5 v5,(wr.alloc o).grownBy W5 v.ownBlock->W5.ownsRow w3.heap.size 175 3 v5 (lq.length+1) (ckC lq++[.string i1,.string i2,.int .i64 n3])->InsAt w (.slice (some ⟨b,off,none⟩) C.length cA) (.slice aL L.length cL) w3.heap.size C v5 nx W5):=Hd fun o W5 v5 hg h5=>by
              rw [n1];exact InsAt.snoc (c:=(i1,i2,n3)) HI.out o hg h5
             have hlb:Op.bytesLess nm.toList i1.toList=false:=hl
             clear n1 HI HYS HNW HNO hdq hl
             go_wp2_with (first
              | (refine chkA 49 49 ⟨_,_,by with_reducible rfl⟩ ?_
                 refine wpList_append_y (by rfl) _ _ _ rfl w3.heap.size 175 jC _ 3 40 Tryz.underlying49 hjC hC0 hC1 hC2 rfl (by decide) _ _ _ (by rfl) (HO.out.alloc _) _ 1 _ (by rfl) (yields_boxL _ #[.string i1,.string i2,.int .i64 n3] _ 1 1) rfl (one3 _ _ _ rfl rfl rfl) L1.out.1 L1.out.2 (HZ.out _) ?_
                 intro v5 W5 ho5 hg5 ha5
                 have HN5:=Hd (HSN.out _ W5 v5 hg5 ho5)
                 clear ho5 hg5 ha5))
             go_roundg (C.length-(q+1))
             case measure=>have:=HQ.out;omega
             case rel=>exact ⟨q+1,_,rfl,HQ.out,by congr 1,by rw [HDN.out,n2],rfl,by rw [HNX.out];exact HN5⟩
           | true =>
             obtain ⟨n1,n2⟩:=HNW.out hdq hl
             have HSA:Hid (∀ o W5 v5,(wr.alloc o).grownBy W5 v.ownBlock->W5.ownsRow w3.heap.size 175 3 v5 (lq.length+1) (ckC lq++[.string nm,.string t,.int .i64 0])->InsAt w (.slice (some ⟨b,off,none⟩) C.length cA) (.slice aL L.length cL) w3.heap.size C v5 (lq++[(nm,t,0)]) W5):=Hd fun o W5 v5 hg h5=>InsAt.snoc (c:=(nm,t,0)) HI.out o hg h5
             have HSN:Hid (∀ Y v0 o W5 v5,InsAt w (.slice (some ⟨b,off,none⟩) C.length cA) (.slice aL L.length cL) w3.heap.size C v0 (lq++[(nm,t,0)]) Y->(Y.alloc o).grownBy W5 v0.ownBlock->W5.ownsRow w3.heap.size 175 3 v5 (lq.length+1+1) (ckC (lq++[(nm,t,0)])++[.string i1,.string i2,.int .i64 n3])->InsAt w (.slice (some ⟨b,off,none⟩) C.length cA) (.slice aL L.length cL) w3.heap.size C v5 nx W5):=Hd fun Y v0 o W5 v5 hY hg h5=>by
              rw [n1]
              refine InsAt.snoc (c:=(i1,i2,n3)) hY o hg ?_
              rw [List.length_append,List.length_singleton];exact h5
             have hlb:Op.bytesLess nm.toList i1.toList=true:=hl
             clear n1 HI HYS HNW HNO hdq hl
             go_wp2_with (first
              | (refine chkA 49 49 ⟨_,_,by with_reducible rfl⟩ ?_
                 refine wpList_append_y (by rfl) _ _ _ rfl w3.heap.size 175 jC _ 3 40 Tryz.underlying49 hjC hC0 hC1 hC2 rfl (by decide) _ _ _ (by rfl) (HO6.out.alloc _) _ 1 _ (by rfl) (yields_boxL _ #[.string i1,.string i2,.int .i64 n3] _ 1 1) rfl (one3 _ _ _ rfl rfl rfl) L2.out.1 L2.out.2 (HZ6.out _) ?_
                 intro v5 W5 ho5 hg5 ha5
                 have HN5:=Hd (HSN.out _ _ _ W5 v5 HI6.out hg5 ho5)
                 clear ho5 hg5 ha5)
              | (refine chkA 49 49 ⟨_,_,by with_reducible rfl⟩ ?_
                 refine wpList_append_y (by rfl) _ _ _ rfl w3.heap.size 175 jC _ 3 40 Tryz.underlying49 hjC hC0 hC1 hC2 rfl (by decide) _ _ _ (by rfl) (HO.out.alloc _) _ 1 _ (by rfl) (yields_boxL _ #[.string nm,.string t,.int .i64 0] _ 1 1) rfl (one3 _ _ _ rfl rfl rfl) L1.out.1 L1.out.2 (HZ.out _) ?_
                 intro v6 W6 ho6 hg6 ha6
                 have HI6:=Hd (HSA.out _ W6 v6 hg6 ho6)
                 have HO6:Hid (W6.ownsRow w3.heap.size 175 3 v6 (lq.length+1) (ckC (lq++[(nm,t,0)]))):=Hd (by have:=HI6.out.row;rwa [List.length_append,List.length_singleton] at this)
                 have HZ6:Hid (∀ o:Obj,w3.heap.size<=(W6.alloc o).heap.size):=Hd fun o=>by have:=HI6.out.lo.2;simp;omega
                 obtain ⟨cl0,cl1,cl2⟩:=HCK.out W6 HI6.out.box.bel
                 obtain ⟨y0,y1,y2,y3,y4⟩:=HI6.out.box.cells
                 clear ho6 hg6 ha6))
             go_roundg (C.length-(q+1))
             case measure=>have:=HQ.out;omega
             case rel=>exact ⟨q+1,_,rfl,HQ.out,by congr 1,by rw [HDN.out,n2],rfl,by rw [HNX.out];exact HN5⟩
         -- part 3 ends
        ·obtain rfl:q=C.length:=by omega
         have HEN:=insK_end (C:=C) (c:=(nm,t,0))
         have HNP:Hid (0<(insR C (nm,t,0)).length/\(insR C (nm,t,0)).length<=100001):=Hd (by rw [ins_len];omega)
         obtain ⟨lf,hlf⟩:=exE (insR C (nm,t,0))
         rw [hlf] at HE HEN HNP
         obtain ⟨lq,hlq⟩:=exE (insK C (nm,t,0) C.length)
         rw [hlq] at HI HEN
         cases hdq:doneR (C.take C.length) (nm,t,0) with
         | true =>
           obtain rfl:=HEN.1 hdq
           obtain ⟨g5,c5,rfl,k5⟩:=own_form HI.out.row HNP.out.1
           have hB6:=HI.out.box.set (.slice (some ⟨g5,0,none⟩) lq.length c5)
           obtain ⟨z0,z1,z2,z3,z4⟩:=hB6.cells
           obtain ⟨r0,r1,r2,r3,r4⟩:=hB6.res
           obtain ⟨o1,o2,o3,o4,o5⟩:=hB6.out (.slice (some ⟨g5,0,none⟩) lq.length c5) (.slice aL L.length cL)
           have HG:=Hd (And.intro (And.intro (StR.put5 (HVL.out.below o5) (RdRow.own HI.out.row) (Nat.le_trans HI.out.lo.1 k5)) o5) (fun D (hD:StLoc D (.agg #[.slice aA C.length cA,.slice aL L.length cL]))=>StLoc.newA (n:=lq.length) (c5:=c5) hD (Nat.le_trans (Nat.le_add_right _ 2) (Nat.le_trans HI.out.lo.1 k5))))
           clear hB6 o5 k5 HI HEN hlf hlq HNP hq hlt3
           go_wp2_with fail
           (try simp only [Exit.inBlock,Exit.then])
           refine bodyPost_ret (v:=.tuple #[.agg #[.slice (some ⟨g5,0,none⟩) lq.length c5,.slice aL L.length cL],.string nm,.bool true,.int .i64 0]) ?_ rfl ⟨_,by rw [HE.out],by rw [HE.out];exact HG⟩
           rw [results_cell_tmp3 rfl]
           go_simp
         | false =>
           have HLF:=Hd (HEN.2 hdq)
           have HO:=Hd HI.out.row
           have HZ:Hid (∀ o:Obj,w3.heap.size<=(wr.alloc o).heap.size):=Hd fun o=>by have:=HI.out.lo.2;simp;omega
           have HL1:lf.length=lq.length+1:=by rw [<-HLF.out];simp
           have L1:=Hd (show lq.length+1<=maxLen/\(lq.length+1)*40<=140737488355328 from ⟨by have:=HNP.out;unfold maxLen;omega,by have:=HNP.out;omega⟩)
           have HSA:Hid (∀ o W5 v5,(wr.alloc o).grownBy W5 v.ownBlock->W5.ownsRow w3.heap.size 175 3 v5 (lq.length+1) (ckC lq++[.string nm,.string t,.int .i64 0])->InsAt w (.slice aA C.length cA) (.slice aL L.length cL) w3.heap.size C v5 lf W5):=Hd fun o W5 v5 hg h5=>by
            rw [<-HLF.out];exact InsAt.snoc (c:=(nm,t,0)) HI.out o hg h5
           have HLO:=Hd HI.out.lo.1
           clear HI HEN hlf hlq HL1 hdq
           go_wp2_with (first
            | (refine chkA 49 49 ⟨_,_,by with_reducible rfl⟩ ?_
               refine wpList_append_y (by rfl) _ _ _ rfl w3.heap.size 175 jC _ 3 40 Tryz.underlying49 hjC hC0 hC1 hC2 rfl (by decide) _ _ _ (by rfl) (HO.out.alloc _) _ 1 _ (by rfl) (yields_boxL _ #[.string nm,.string t,.int .i64 0] _ 1 1) rfl (one3 _ _ _ rfl rfl rfl) L1.out.1 L1.out.2 (HZ.out _) ?_
               intro v5 W5 ho5 hg5 ha5
               have hI5:=HSA.out _ W5 v5 hg5 ho5
               clear ho5 hg5 ha5
               obtain ⟨g5,c5,rfl,k5⟩:=own_form hI5.row HNP.out.1
               obtain ⟨y0,y1,y2,y3,y4⟩:=hI5.box.cells
               have hB6:=hI5.box.set (.slice (some ⟨g5,0,none⟩) lf.length c5)
               obtain ⟨z0,z1,z2,z3,z4⟩:=hB6.cells
               obtain ⟨r0,r1,r2,r3,r4⟩:=hB6.res
               obtain ⟨o1,o2,o3,o4,o5⟩:=hB6.out (.slice (some ⟨g5,0,none⟩) lf.length c5) (.slice aL L.length cL)
               have HG:=Hd (And.intro (And.intro (StR.put5 (HVL.out.below o5) (RdRow.own hI5.row) (Nat.le_trans HLO.out k5)) o5) (fun D (hD:StLoc D (.agg #[.slice aA C.length cA,.slice aL L.length cL]))=>StLoc.newA (n:=lf.length) (c5:=c5) hD (Nat.le_trans (Nat.le_add_right _ 2) (Nat.le_trans HLO.out k5))))
               clear hB6 o5 k5 hI5))
           (try simp only [Exit.inBlock,Exit.then])
           refine bodyPost_ret (v:=.tuple #[.agg #[.slice (some ⟨g5,0,none⟩) lf.length c5,.slice aL L.length cL],.string nm,.bool true,.int .i64 0]) ?_ rfl ⟨_,by rw [HE.out],by rw [HE.out];exact HG⟩
           rw [results_cell_tmp3 rfl]
           go_simp
    ·obtain rfl:k=256:=by omega
     have HE:=Hd (show putR C t=(C,⟨#[]⟩,false,4) by
      exact putR_full HT.out.1 HT.out.2 (by rw [HPP.out];exact HNH.out) (by rw [HPP.out];exact HI.out.1))
     obtain ⟨x0,x1,x2,x3,x4⟩:=HI.out.2.cells
     obtain ⟨r0,r1,r2,r3,r4⟩:=HI.out.2.res
     obtain ⟨o1,o2,o3,o4,o5⟩:=HI.out.2.out (.slice aA C.length cA) (.slice aL L.length cL)
     have HG:=Hd (And.intro (And.intro (HST.out.below o5) o5) (fun D (hD:StLoc D (.agg #[.slice aA C.length cA,.slice aL L.length cL]))=>hD.mono (D':=fun b=>D b\/w.heap.size<=b) fun b hb=>Or.inl hb))
     clear o5 HI hk hlt
     go_wp2_with fail
     (try simp only [Exit.inBlock,Exit.then])
     refine bodyPost_ret (v:=.tuple #[.agg #[.slice aA C.length cA,.slice aL L.length cL],.string ⟨#[]⟩,.bool false,.int .i64 4]) ?_ rfl ⟨_,by rw [HE.out],by rw [HE.out];exact HG⟩
     rw [results_cell_tmp3 rfl]
     go_simp
set_option maxHeartbeats 4000000
theorem StR.form {w:World} {v:Value} {C:List RCk} {L:List REn} (h:StR w v C L):∃ a c b d,v=.agg #[.slice a C.length c,.slice b L.length d]:=by
 obtain ⟨va,vl,rfl,h2,h3⟩:=h
 obtain ⟨a,c,rfl,-⟩:=h2.form
 obtain ⟨b,d,rfl,-⟩:=h3.form
 exact ⟨a,c,b,d,rfl⟩
theorem chkC_get:∀ {C:List Ck} {k:Nat} (h:k<C.length),(chkC C)[k*3]?=some (.string C[k].id)/\(chkC C)[k*3+1]?=some (.int .i64 (C[k].text.size:Int))/\(chkC C)[k*3+2]?=some (.int .i64 C[k].cnt)
 | [],k,h=>by simp at h
 | c::C,0,h=>⟨rfl,rfl,rfl⟩
 | c::C,k+1,h=>by
   have ih:=chkC_get (C:=C) (k:=k) (by simpa using h)
   have e:chkC (c::C)=.string c.id::.int .i64 (c.text.size:Int)::.int .i64 c.cnt::chkC C:=rfl
   rw [e,show (k+1)*3=k*3+1+1+1 by omega]
   simp only [List.getElem?_cons_succ,List.getElem_cons_succ]
   exact ih
theorem Kept.cell {K:Nat->Prop} {w w':World} (h:Kept K w w') {b:Nat} (hb:K b) {i:Nat} {v:Value} (hc:w.cell? ⟨b,i,none⟩=some v):w'.cell? ⟨b,i,none⟩=some v:=by
 rw [<-hc];simp only [World.cell?,h b hb]
section
variable (w1 w w0:World) (K:Nat->Prop) (sb rb ti tl n N a nx:Nat) (C:List Ck) (L:List Lg) (X:List (Nat × ByteArray))
end
end Go.Proofs.YtdcjhpafipbpkaaGreatDoor
