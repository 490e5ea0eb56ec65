/- Parts of the proof of ChunksPages,joined: ChkF,ChkG,ChkH,ChkI,ChkJ,ChkK,ChkL,ChkM,ChkN,ChkO,ChkQ,ChkR,ChkS,ChkU,ChkV,ChkW,RcpA,RcpR,RcpE,RcpF,RcpG,ChkT,Iter,TxtP,RcpB,RcpC,RcpD,RcpH,RcpI,RcpJ,RcpK. No condition. -/
import Derived.Test.YtdcjhpafipbpkaaGreatDoorCq5
import Derived.Maps.RangeRun
import Derived.Laws.ResultCell
set_option linter.unusedSimpArgs false
set_option linter.unusedVariables false
set_option linter.unusedSectionVars false
namespace Go.Proofs.YtdcjhpafipbpkaaGreatDoor
set_option maxRecDepth 100000
set_option maxHeartbeats 2000000
open Go.RowKit
theorem flds3k {W:World} {g:Nat} {a0 a1 a2:Nat} {s0 s1 s2:ByteArray} (h:W.heap[g]?=some (.cells #[.int .u64 (a0:Int),.string s0,.int .u64 (a1:Int),.string s1,.int .u64 (a2:Int),.string s2] 139 (0,0)))
 (hl:∀ p∈[(a0,s0),(a1,s1),(a2,s2)],p.1<18446744073709551616):FldsAt W (.slice (some ⟨g,0,none⟩) 3 3) [(a0,s0),(a1,s1),(a2,s2)]:=by
 refine ⟨⟨some ⟨g,0,none⟩,3,rfl,fun k hk=>⟨g,0,rfl,?_,?_,lt_of_heap h⟩⟩,hl⟩
 ·have:k=0\/k=1\/k=2:=by simp at hk;omega
  rcases this with rfl|rfl|rfl <;> exact cell_lit h rfl
 ·have:k=0\/k=1\/k=2:=by simp at hk;omega
  rcases this with rfl|rfl|rfl <;> exact cell_lit h rfl
theorem flds2k {W:World} {g:Nat} {a0 a1:Nat} {s0 s1:ByteArray} (h:W.heap[g]?=some (.cells #[.int .u64 (a0:Int),.string s0,.int .u64 (a1:Int),.string s1] 139 (0,0)))
 (hl:∀ p∈[(a0,s0),(a1,s1)],p.1<18446744073709551616):FldsAt W (.slice (some ⟨g,0,none⟩) 2 2) [(a0,s0),(a1,s1)]:=by
 refine ⟨⟨some ⟨g,0,none⟩,2,rfl,fun k hk=>⟨g,0,rfl,?_,?_,lt_of_heap h⟩⟩,hl⟩
 ·have:k=0\/k=1:=by simp at hk;omega
  rcases this with rfl|rfl <;> exact cell_lit h rfl
 ·have:k=0\/k=1:=by simp at hk;omega
  rcases this with rfl|rfl <;> exact cell_lit h rfl
theorem flds1k {W:World} {g:Nat} {a0:Nat} {s0:ByteArray} (h:W.heap[g]?=some (.cells #[.int .u64 (a0:Int),.string s0] 139 (0,0)))
 (hl:a0<18446744073709551616):FldsAt W (.slice (some ⟨g,0,none⟩) 1 1) [(a0,s0)]:=by
 refine ⟨⟨some ⟨g,0,none⟩,1,rfl,fun k hk=>⟨g,0,rfl,?_,?_,lt_of_heap h⟩⟩,fun p hp=>?_⟩
 ·have:k=0:=by simp at hk;omega
  subst this;exact cell_lit h rfl
 ·have:k=0:=by simp at hk;omega
  subst this;exact cell_lit h rfl
 ·simp at hp;subst hp;exact hl
theorem write_k (c:Ck) (hc:c.Ok) (W:World) (g:Nat) (hg:W.heap[g]?=some (.cells #[.int .u64 (c.page:Int),.string ⟨#[]⟩,.int .u64 (c.text.size:Int),.string ⟨#[]⟩,.int .u64 (sgn64 c.cnt:Int),.string ⟨#[]⟩] 139 (0,0))) :
 Calls Tryz.prog 70 #[.string ⟨#[104,98,110]⟩,.slice (some ⟨g,0,none⟩) 3 3] W fun e w'=>e=.returned (.tuple #[.string c.val,.bool true])/\Hid (Below W.heap.size W w'):=by
 have hv:FldsAt W (.slice (some ⟨g,0,none⟩) 3 3) c.flds:=flds3k hg (by
  have h1:=hc.page
  have h2:=hc.t2
  have h3:=sgn64_lt c.cnt
  intro p hp
  simp only [List.mem_cons,List.not_mem_nil,or_false] at hp
  rcases hp with rfl|rfl|rfl <;> simp only <;> omega)
 have WC:=Write_c kindsC (.slice (some ⟨g,0,none⟩) 3 3) c.flds W (by decide) hv fun p hp=>by
  simp only [Ck.flds,List.mem_cons,List.not_mem_nil,or_false] at hp
  rcases hp with rfl|rfl|rfl <;> exact Nat.zero_le _
 rw [Ck.write hc] at WC
 refine WC.mono ?_
 rintro e w' ⟨rfl,h⟩
 exact ⟨rfl,h⟩
section
variable (w1 w w0:World) (K:Nat->Prop) (sb rb ti tl n N a nx:Nat) (C:List Ck) (L:List Lg) (X:List (Nat × ByteArray))
theorem keep_k (c:Ck) (hc:c.Ok) (h:Hid (Chs w1 w0 w K sb rb ti tl n N a C L nx X)) (hN:a<N/\N<=1000) :
 Calls Tryz.prog 68 #[.pointer (some ⟨sb,0,none⟩),.string c.id,c.v] w fun e w'=>e=.returned (.int .i64 0)/\Hid (∃ C',Chs w1 w0 w' K sb rb ti tl n N (a+1) C' L nx X/\PutC c C C'):=by
 obtain ⟨wb,hwb⟩:=exE (w.alloc (.cells #[.int .i64 (c.page:Int),.int .i64 (c.text.size:Int),.int .i64 c.cnt] 124))
 have blk:wb.heap[w.heap.size]?=some (.cells #[.int .i64 (c.page:Int),.int .i64 (c.text.size:Int),.int .i64 c.cnt] 124 (0,0)):=by
  subst hwb;exact heap_alloc_new _ _
 have HB0:Hid (Below w.heap.size w wb):=Hd (by subst hwb;exact (Below.refl w.heap.size w).alloc (Nat.le_refl _) _)
 have G0:Hid (Chs w1 w0 wb K sb rb ti tl n N a C L nx X):=Hd (h.out.below HB0.out)
 obtain ⟨d0,d1,d2⟩:=cells3 blk
 have WR:Hid (∀ W g,Below wb.heap.size wb W->W.heap[g]?=some (.cells #[.int .u64 (c.page:Int),.string ⟨#[]⟩,.int .u64 (c.text.size:Int),.string ⟨#[]⟩,.int .u64 (sgn64 c.cnt:Int),.string ⟨#[]⟩] 139 (0,0))->Calls Tryz.prog 70 #[.string ⟨#[104,98,110]⟩,.slice (some ⟨g,0,none⟩) 3 3] W fun e w'=>e=.returned (.tuple #[.string c.val,.bool true])/\Hid (SBk w' sb rb ti tl/\Chs w1 w0 w' K sb rb ti tl n N a C L nx X)):=Hd fun W g hW hg=>by
  refine (write_k c hc W g hg).mono ?_
  rintro e w' ⟨rfl,hb⟩
  have:=G0.out.below (hW.trans (hb.out.mono hW.size))
  exact ⟨rfl,Hd ⟨this.sbk,this⟩⟩
 have PT:Hid (∀ W,Hid (Chs w1 w0 W K sb rb ti tl n N a C L nx X)->Calls Tryz.prog 71 #[.pointer (some ⟨ti,0,none⟩),.string c.id,.string c.val] W fun e w'=>e=.returned (.int .i64 0)/\Hid (∃ C',Chs w1 w0 w' K sb rb ti tl n N (a+1) C' L nx X/\PutC c C C')):=Hd fun W hW=>idx_put c hc hW hN
 have k0:IntKind.u64.wrap (c.page:Int)=(c.page:Int):=wrap_u64 (by have:=hc.page;omega)
 have k1:IntKind.u64.wrap (c.text.size:Int)=(c.text.size:Int):=wrap_u64 (by have:=hc.t2;omega)
 have k2:IntKind.u64.wrap c.cnt=(sgn64 c.cnt:Int):=sgn64_wrap _
 show Calls Tryz.prog 68 #[.pointer (some ⟨sb,0,none⟩),.string c.id,.agg #[.int .i64 (c.page:Int),.int .i64 (c.text.size:Int),.int .i64 c.cnt]] w _
 clear hc h hN blk
 generalize PutC c C=PP at *
 generalize c.page=z0 at *
 generalize c.text.size=z1 at *
 generalize sgn64 c.cnt=z2 at *
 generalize c.cnt=z3 at *
 generalize c.val=vl at *
 generalize c.id=id at *
 go_enter Tryz.func68,Tryz.ntmps68
 go_wp2_with fail
 refine (WR.out _ _ ((Below.refl _ _).alloc (Nat.le_refl _) _) (heap_alloc_new _ _)).mono ?_
 rintro e w3 ⟨rfl,G3⟩
 have G4:Hid (Chs w1 w0 w3 K sb rb ti tl n N a C L nx X):=Hd G3.out.2
 obtain ⟨s0,s1,s2⟩:=G3.out.1.cells
 have PTw:=PT.out w3 G4
 clear WR G3
 go_wp2_with fail
 refine PTw.mono ?_
 rintro e w4 ⟨rfl,G5⟩
 go_wp2_with fail
 go_ret
 exact ⟨rfl,G5⟩
end
theorem sRun_one {E:List (ByteArray × ByteArray)} (hs:Srt E) (f tt:ByteArray) (ht:tt.size≠0) :
 ((sRun tt 1 (from_ f E) []).1.length=0/\∀ e∈E,kless e.1 f=false->kless e.1 tt=false)\/((sRun tt 1 (from_ f E) []).1.length=1/\¬∀ e∈E,kless e.1 f=false->kless e.1 tt=false):=by
 have hF:Srt (from_ f E):=hs.filter _
 have hm:∀ e,e∈from_ f E ↔ e∈E/\kless e.1 f=false:=fun e=>by unfold from_;simp
 generalize from_ f E=F at *
 cases F with
 | nil =>
   refine .inl ⟨rfl,fun e he hk=>?_⟩
   exact absurd ((hm e).2 ⟨he,hk⟩) (by simp)
 | cons x r =>
   have hx:=(hm x).1 (by simp)
   cases hk:kless x.1 tt with
   | false =>
     refine .inl ⟨by rw [sRun_cons,if_pos (.inr ⟨ht,hk⟩)];rfl,fun e he hf=>?_⟩
     rcases List.mem_cons.1 ((hm e).2 ⟨he,hf⟩) with rfl|h1
     ·exact hk
     ·have h2:=(List.pairwise_cons.1 hF).1 e h1
      cases h3:kless e.1 tt with
      | false=>rfl
      | true=>rw [kless_trans h2 h3] at hk;cases hk
   | true =>
     refine .inr ⟨?_,fun h=>?_⟩
     ·rw [sRun_cons,if_neg (by rintro (h|⟨-,h⟩);· simp at h
                               ·rw [hk] at h;cases h)]
      cases r with
      | nil=>rfl
      | cons y r=>rw [sRun_cons,if_pos (.inl rfl)];rfl
     ·rw [h x hx.1 hx.2] at hk;cases hk
def NoC (C:List Ck) (f t:ByteArray):Prop:=∀ c∈C,kless c.id f=false->kless c.id t=false
section
variable (w1 w w0:World) (K:Nat->Prop) (sb rb ti tl n N a nx:Nat) (C:List Ck) (L:List Lg) (X:List (Nat × ByteArray))
theorem idx_one (f tt:ByteArray) (ht:tt.size≠0) (h:Hid (Chs w1 w0 w K sb rb ti tl n N a C L nx X)) (hN:a<=N/\N<=1000) (hC:C.length<=1000000) :
 Calls Tryz.prog 87 #[.pointer (some ⟨ti,0,none⟩),.string f,.string tt,.int .i64 1] w fun e w'=>∃ v k j,e=.returned (.tuple #[.slice v j k,.int .i64 0])/\((j=0/\NoC C f tt)\/(j=1/\¬NoC C f tt))/\Hid (Chs w1 w0 w' K sb rb ti tl n N a C L nx X):=by
 obtain ⟨S,o0,o1,h1,h2,h3,h4⟩:=h.out
 have hl:(entsO o0).length=C.length:=by rw [h3.eq,List.length_map]
 refine (scan_g w1 w _ ti rb 0 n (300*a) S o0 f tt 1 h1.1.1 h1.1.2.2.1 (.inr (.inr (.inl rfl))) h2.t0 (by decide) (by omega) (by have:=h2.hgt0 (by omega);omega) (by omega) (by decide) (by decide)).mono ?_
 rintro e w' ⟨v,rfl,hE⟩
 have hv:=hE.out.1
 have hg:=h1.1.of (hE.out.2.1.mono fun k hk=>.inl hk) hE.out.2.2
 have HR:Hid (Chs w1 w0 w' K sb rb ti tl n N a C L nx X):=Hd ⟨S,o0,o1,⟨hg.1,h1.2.trans hg.2⟩,h2,h3,h4⟩
 have hj:((sRun tt 1 (from_ f (entsO o0)) []).1.length=0/\NoC C f tt)\/((sRun tt 1 (from_ f (entsO o0)) []).1.length=1/\¬NoC C f tt):=by
  have hq:(∀ e∈entsO o0,kless e.1 f=false->kless e.1 tt=false) ↔ NoC C f tt:=by
   rw [h3.eq]
   exact ⟨fun hh c hc=>hh (encC c) (List.mem_map.2 ⟨c,hc,rfl⟩),fun hh e he=>by
    obtain ⟨c,hc,rfl⟩:=List.mem_map.1 he
    exact hh c hc⟩
  have:=sRun_one h2.srt0 f tt ht
  rwa [hq] at this
 generalize (sRun tt 1 (from_ f (entsO o0)) []).1=R at *
 rcases hv.2 with ⟨rfl,h0⟩|⟨g,cap,cur,rfl,-⟩
 ·have:R.length=0:=by
   first|exact h0|simpa using h0|(have:=h0;omega)
  exact ⟨none,0,0,rfl,by rwa [this] at hj,HR⟩
 ·exact ⟨_,_,_,rfl,hj,HR⟩
def ffB:ByteArray:=⟨#[255,255]⟩
theorem last_k (p:ByteArray) (k:Nat) (hp:p.size<=1000) (hk:k<256) (h:Hid (Chs w1 w0 w K sb rb ti tl n N a C L nx X)) (hN:a<=N/\N<=1000) (hC:C.length<=1000000) :
 Calls Tryz.prog 65 #[.pointer (some ⟨sb,0,none⟩),.string p,.int .i64 (k:Int)] w fun e w'=>∃ b:Bool,e=.returned (.tuple #[.bool b,.int .i64 0])/\(b=true ↔ NoC C (nameB p k) (p++ffB))/\Hid (Chs w1 w0 w' K sb rb ti tl n N a C L nx X):=by
 have NM:Hid (∀ W,Hid (Chs w1 w0 W K sb rb ti tl n N a C L nx X)->Calls Tryz.prog 64 #[.string p,.int .i64 (k:Int)] W fun e w'=>e=.returned (.string (nameB p k))/\w'.cell? ⟨sb,1,none⟩=some (.pointer (some ⟨ti,0,none⟩))/\Hid (Chs w1 w0 w' K sb rb ti tl n N a C L nx X)):=Hd fun W hW=>by
  refine (name_c p k W (by omega) hk).mono ?_
  rintro e w' ⟨rfl,hb⟩
  have:=hW.out.below hb.out
  exact ⟨rfl,this.sbk.cells.2.1,Hd this⟩
 obtain ⟨nm,hnm⟩:=exE (nameB p k)
 obtain ⟨tt,htt⟩:=exE (p++ffB)
 have ht:tt.size≠0:=by rw [<-htt,ByteArray.size_append];show p.size+2≠0;omega
 have SC:Hid (∀ W,Hid (Chs w1 w0 W K sb rb ti tl n N a C L nx X)->Calls Tryz.prog 87 #[.pointer (some ⟨ti,0,none⟩),.string nm,.string tt,.int .i64 1] W fun e w'=>∃ v k j,e=.returned (.tuple #[.slice v j k,.int .i64 0])/\((j=0/\NoC C nm tt)\/(j=1/\¬NoC C nm tt))/\w'.cell? ⟨sb,1,none⟩=some (.pointer (some ⟨ti,0,none⟩))/\Hid (Chs w1 w0 w' K sb rb ti tl n N a C L nx X)):=Hd fun W hW=>by
  refine (idx_one w1 W w0 K sb rb ti tl n N a nx C L X nm tt ht hW hN hC).mono ?_
  rintro e w' ⟨v,k,j,rfl,hj,hE⟩
  exact ⟨v,k,j,rfl,hj,hE.out.sbk.cells.2.1,hE⟩
 have ap:p++(⟨#[255,255]⟩:ByteArray)=tt:=htt
 have h1:(p.size+(⟨#[255,255]⟩:ByteArray).size > 9223372036854775807)=False:=by
  show (p.size+2 > 9223372036854775807)=False
  simp;omega
 have h2:(p.size+2 > 9223372036854775807)=False:=by simp;omega
 have h3:¬9223372036854775807<p.size+2:=by omega
 obtain ⟨s0,s1,s2⟩:=h.out.sbk.cells
 rw [hnm] at NM ⊢
 rw [htt]
 have HD:Hid (Chs w1 w0 w.drew K sb rb ti tl n N a C L nx X):=Hd (h.out.below (Below.refl _ _).drew)
 clear hp hN hC ht htt hnm hk
 go_enter Tryz.func65,Tryz.ntmps65
 go_wp2_with fail
 go_region_held3 (fun w'=>w'.cell? ⟨sb,1,none⟩=some (.pointer (some ⟨ti,0,none⟩))) (go_keep) ((first
  | (go_at_call 64
     refine Calls.at_args (NM.out _ HD) (by with_reducible rfl) ?_
     rintro e w3 ⟨rfl,hk3,G3⟩)
  | (go_at_call 87
     refine Calls.at_args (SC.out _ G3) (by with_reducible rfl) ?_
     rintro e w4 ⟨v,kk,j,rfl,hj,hk4,G4⟩)))
 all_goals (
  rcases hj with ⟨rfl,hj⟩|⟨rfl,hj⟩
  all_goals (
   go_wp2_with fail
   go_ret2
   first
    | exact ⟨true,rfl,by simp [hj],G4⟩
    | exact ⟨false,rfl,by simp [hj],G4⟩))
end
section
variable (w1 w w0:World) (K:Nat->Prop) (sb rb ti tl n N a nx:Nat) (C:List Ck) (L:List Lg) (X:List (Nat × ByteArray))
theorem blob_get (p:Nat) (s:ByteArray) (hx:(p,s)∈X) (hs:s.size<=128) (h:Hid (Chs w1 w0 w K sb rb ti tl n N a C L nx X)) (hN:a<=N/\N<=1000) :
 Calls Tryz.prog 66 #[.pointer (some ⟨rb,0,none⟩),.int .i64 (p:Int)] w fun e w'=>e=.returned (.tuple #[.string s,.int .i64 0])/\Hid (Chs w1 w0 w' K sb rb ti tl n N a C L nx X):=by
 have H:=h.out
 obtain ⟨S,o0,o1,h1,h2,h3,h4⟩:=H
 obtain ⟨G,x1,-⟩:=h1.1.1
 have hp:=h2.pg _ hx
 refine (Get_b G rb n (300*a) S p s w x1 (by omega) hs hp.1 hp.2).mono ?_
 rintro e w' ⟨rfl,hb⟩
 exact ⟨rfl,Hd (h.out.below hb.out)⟩
theorem blob_put (s:ByteArray) (hs:s.size<=128) (h:Hid (Chs w1 w0 w K sb rb ti tl n N a C L nx X)) (hN:a<N/\N<=1000) :
 Calls Tryz.prog 67 #[.pointer (some ⟨rb,0,none⟩),.string s] w fun e w'=>∃ p:Nat,e=.returned (.tuple #[.int .i64 (p:Int),.int .i64 0])/\Hid (p<65536/\Chs w1 w0 w' K sb rb ti tl n N (a+1) C L nx ((p,s)::X)):=by
 obtain ⟨S,o0,o1,h1,h2,h3,h4,h5,h6⟩:=h.out
 obtain ⟨G,x1,x2,x3,x4⟩:=h1.1.1
 have hbd:=x1.bounds
 have hf:∃ q,q<pagesN n/\S.used q=false:=by
  obtain ⟨U,u1,u2⟩:=h2.sp
  obtain ⟨q,q1,q2⟩:=pigeon (pagesN n) U (by omega)
  refine ⟨q,q1,?_⟩
  cases hq:S.used q with
  | false=>rfl
  | true=>exact absurd (u1 q hq) q2
 refine (Put_b G rb n (300*a) S s w x1 (by omega) hs hf).mono ?_
 rintro e w' ⟨p,rfl,hE⟩
 obtain ⟨e1,e2,e3⟩:=hE.out
 have hg:=RSt.of x2 x3 x4 e3
 have hh:=h1.1.of hg.1 hg.2
 have ht:=(h2.less (c':=24*(N-(a+1))+1) (b0:=a+1) (b1:=a+1) (by omega) (by omega) (by omega)).blob (s:=s) e2
 exact ⟨p,rfl,Hd ⟨by unfold pagesN at e1;omega,blobS S p s,o0,o1,⟨hh.1.more (by omega),h1.2.trans hh.2⟩,ht,h3,h4,h5,by omega⟩⟩
theorem root2 (h:Hid (Chs w1 w0 w K sb rb ti tl n N a C L nx X)) (hN:a<=N/\N<=1000) :
 Calls Tryz.prog 69 #[.pointer (some ⟨rb,0,none⟩),.int .i64 2] w fun e w'=>e=.returned (.tuple #[.int .u64 (nx:Int),.int .i64 0])/\Hid (Chs w1 w0 w' K sb rb ti tl n N a C L nx X):=by
 have H:=h.out
 obtain ⟨S,o0,o1,h1,h2,h3,h4,h5,h6⟩:=H
 obtain ⟨G,⟨puts,y1,y2,y3⟩,-⟩:=h1.1.1
 have RC:=Root_c G rb n puts S 2 w y2 y3 (by omega) (by decide)
 rw [h5] at RC
 refine RC.mono ?_
 rintro e w' ⟨rfl,hb⟩
 exact ⟨rfl,Hd (h.out.below hb)⟩
def ChsM (w1 w0 w:World) (K:Nat->Prop) (sb rb ti tl n N a:Nat) (C:List Ck) (L:List Lg) (nx:Nat) (X:List (Nat × ByteArray)):Prop :=
 ∃ S o0 o1,CGo w1 w0 w K sb rb ti tl n (300*a+100) S/\TwoM S n (24*(N-(a+1))+1) o0 o1 (a+1) (a+1) X/\CRel (entsO o0) C/\GRel (entsO o1) L (nx+1)/\S.root 2=nx/\nx<=a
theorem ChsM.sbk (h:ChsM w1 w0 w K sb rb ti tl n N a C L nx X):SBk w sb rb ti tl:=by obtain ⟨S,o0,o1,h1,h2⟩:=h;exact h1.1.2
theorem set_root2 (h:Hid (ChsM w1 w0 w K sb rb ti tl n N a C L nx X)) (hN:a<N/\N<=1000) :
 Calls Tryz.prog 72 #[.pointer (some ⟨rb,0,none⟩),.int .i64 2,.int .u64 ((nx:Int)+1)] w fun e w'=>e=.returned (.int .i64 0)/\Hid (Chs w1 w0 w' K sb rb ti tl n N (a+1) C L (nx+1) X):=by
 obtain ⟨S,o0,o1,h1,h2,h3,h4,h5,h6⟩:=h.out
 obtain ⟨G,⟨puts,y1,y2,y3⟩,x2,x3,x4⟩:=h1.1.1
 refine (SetRoot_c G rb n puts S 2 (nx+1) w y2 y3 (by omega) (by decide) (by omega)).mono ?_
 rintro e w' ⟨rfl,hE⟩
 have hg:=RSt.of x2 x3 x4 (StGo.of_room hE.out y1)
 have hh:=h1.1.of hg.1 hg.2
 have hr:(setRootS S 2 (nx+1)).root 2=nx+1:=by
  show upd S.root 2 (nx+1) 2=nx+1
  unfold upd;rw [if_pos rfl]
 exact ⟨rfl,Hd ⟨_,o0,o1,⟨hh.1.more (by omega),h1.2.trans hh.2⟩,(h2.root (Nat.le_refl 2)).less (by omega) (Nat.le_refl _) (Nat.le_refl _),h3,h4,hr,by omega⟩⟩
theorem Get_yes (id:ByteArray) (c:Ck) (h:Hid (Chs w1 w0 w K sb rb ti tl n N a C L nx X)) (hN:a<=N/\N<=1000) (hi:id.size<=96) (hf:cAt C id=some c) (hx:(c.page,c.text)∈X) :
 Calls Tryz.prog 29 #[.pointer (some ⟨sb,0,none⟩),.string id] w fun e w'=>e=.returned (.tuple #[.string c.text,.int .i64 0])/\Hid (Chs w1 w0 w' K sb rb ti tl n N a C L nx X):=by
 have FN:=find_yes id c h hN hi hf
 rw [show c.v=.agg #[.int .i64 (c.page:Int),.int .i64 (c.text.size:Int),.int .i64 c.cnt] from rfl] at FN
 have BG:Hid (∀ W W0 x,Hid (W0.heap[x]?=some (.cells #[.int .i64 (c.page:Int),.int .i64 (c.text.size:Int),.int .i64 c.cnt] 124 (0,0))/\Chs w1 W0 W (fun k=>K k\/k=x) sb rb ti tl n N a C L nx X)->Calls Tryz.prog 66 #[.pointer (some ⟨rb,0,none⟩),.int .i64 (c.page:Int)] W fun e w'=>e=.returned (.tuple #[.string c.text,.int .i64 0])/\(w'.cell? ⟨sb,0,none⟩=some (.pointer (some ⟨rb,0,none⟩))/\w'.cell? ⟨x,0,none⟩=some (.int .i64 (c.page:Int)))/\Hid (Chs w1 W0 w' (fun k=>K k\/k=x) sb rb ti tl n N a C L nx X)):=Hd fun W W0 x hW=>by
  refine (blob_get w1 W W0 _ sb rb ti tl n N a nx C L X c.page c.text hx (h.out.ok.1 c (cAt_some hf).1).t2 (Hd hW.out.2) hN).mono ?_
  rintro e w' ⟨rfl,hE⟩
  exact ⟨rfl,⟨hE.out.sbk.cells.1,cell_lit ((hE.out.kept x (.inr rfl)).trans hW.out.1) rfl⟩,hE⟩
 clear h hN hi hf hx
 generalize c.page=z0 at *
 generalize c.text=tx at *
 generalize (tx.size:Int)=z1 at *
 generalize c.cnt=z2 at *
 go_enter Tryz.func29,Tryz.ntmps29
 go_wp2_with fail
 refine FN.mono ?_
 rintro e w2 ⟨rfl,G2⟩
 obtain ⟨s0,s1,s2⟩:=G2.out.sbk.cells
 have lsb:sb<w2.heap.size:=lt_of_heap G2.out.sbk.1
 have HB:Hid (∀ o,Below w2.heap.size w2 (w2.alloc o)):=Hd fun o=>(Below.refl _ _).alloc (Nat.le_refl _) _
 have G3:Hid (∀ o,Chs w1 (w2.alloc o) (w2.alloc o).drew (fun k=>K k\/k=w2.heap.size) sb rb ti tl n N a C L nx X):=Hd fun o=>(G2.out.new (HB.out o) w2.heap.size (Nat.le_refl _) (by simp)).below (Below.refl _ _).drew
 go_wp2_with fail
 go_region_held3 (fun w'=>w'.cell? ⟨sb,0,none⟩=some (.pointer (some ⟨rb,0,none⟩))/\w'.cell? ⟨w2.heap.size,0,none⟩=some (.int .i64 (z0:Int))) (go_keep) ((first
  | (go_at_call 66
     refine Calls.at_args (BG.out _ _ _ (Hd ⟨heap_alloc_new _ _,G3.out _⟩)) (by with_reducible rfl) ?_
     rintro e w4 ⟨rfl,hk4,G4⟩)))
 all_goals (
  go_wp2_with fail
  go_ret2
  exact ⟨rfl,Hd (G2.out.end_ (K':=fun k=>k=w2.heap.size) G4.out (HB.out _))⟩)
end
theorem undo_d (sb eb:Nat) (k:Int) (u:FrameMode) (w:World) (he:w.cell? ⟨eb,0,none⟩=some (.int .i64 0)) :
 CallsD Tryz.prog 60 #[.pointer (some ⟨sb,0,none⟩),.int .i64 k,.pointer (some ⟨eb,0,none⟩)] u w fun e u' w'=>u'=u/\(e=.returned (.tuple #[])/\w'=w):=by
 go_enter_d Tryz.func60,Tryz.ntmps60
 go_wp2
 go_end0
 exact ⟨rfl,rfl⟩
structure ChE (w1 wA:World) (x:Nat) (er:Int) (w:World) (K:Nat->Prop) (sb rb ti tl n N a:Nat) (C:List Ck) (L:List Lg) (nx:Nat) (X:List (Nat × ByteArray)):Prop where
 st:Chs w1 w w (fun k=>K k\/k=x) sb rb ti tl n N a C L nx X
 kp:Kept K wA w
 bx:w.heap[x]?=some (.cells #[.int .i64 er] 34 (0,0))
 lo:w1.heap.size<=x/\True
 ne:x≠sb/\x≠ti/\x≠tl
 nk:¬K x
theorem Chs.reset {w1 w0 w:World} {K:Nat->Prop} {sb rb ti tl n N a nx:Nat} {C:List Ck} {L:List Lg} {X:List (Nat × ByteArray)} (h:Chs w1 w0 w K sb rb ti tl n N a C L nx X):Chs w1 w w K sb rb ti tl n N a C L nx X:=by
 obtain ⟨S,o0,o1,h1,h2⟩:=h
 exact ⟨S,o0,o1,⟨h1.1,fun _ _=>rfl⟩,h2⟩
section
variable {w1 wA w w' w0:World} {x:Nat} {er:Int} {K:Nat->Prop} {sb rb ti tl n N a a' nx nx':Nat} {C C':List Ck} {L L':List Lg} {X X':List (Nat × ByteArray)}
theorem ChE.start (h:Chs w1 w0 w K sb rb ti tl n N a C L nx X):ChE w1 w w.heap.size 0 (w.alloc (.cells #[.int .i64 0] 34)) K sb rb ti tl n N a C L nx X:=by
 have hb:Below w.heap.size w (w.alloc (.cells #[.int .i64 0] 34)):=(Below.refl w.heap.size w).alloc (Nat.le_refl _) _
 have hs:=h.sbk
 have h1:=lt_of_heap hs.1
 have h2:=lt_of_heap hs.2.1
 have h3:=lt_of_heap hs.2.2
 refine ⟨h.new hb w.heap.size (Nat.le_refl _) (by simp),h.keep hb,heap_alloc_new _ _,⟨h.bel.size,trivial⟩,by omega,fun hk=>?_⟩
 have:=h.klt hk
 omega
theorem ChE.step (h:ChE w1 wA x er w K sb rb ti tl n N a C L nx X) (g:Chs w1 w w' (fun k=>K k\/k=x) sb rb ti tl n N a' C' L' nx' X'):ChE w1 wA x er w' K sb rb ti tl n N a' C' L' nx' X' :=
 ⟨g.reset,h.kp.trans (g.kept.mono fun k hk=>.inl hk),(g.kept x (.inr rfl)).trans h.bx,h.lo,h.ne,h.nk⟩
theorem ChE.below (h:ChE w1 wA x er w K sb rb ti tl n N a C L nx X) (hb:Below w.heap.size w w'):ChE w1 wA x er w' K sb rb ti tl n N a C L nx X:=h.step (h.st.below hb)
theorem ChE.set (h:ChE w1 wA x er w K sb rb ti tl n N a C L nx X) (e2:Int):ChE w1 wA x e2 (w.setCell ⟨x,0,none⟩ (.int .i64 e2)) K sb rb ti tl n N a C L nx X:=by
 obtain ⟨S,o0,o1,h1,h2⟩:=h.st
 refine ⟨⟨S,o0,o1,⟨h1.1.set (.inr rfl) h.lo.1 h.ne 0 _,fun _ _=>rfl⟩,h2⟩,fun k hk=>?_,heap_set_lit h.bx _,h.lo,h.ne,h.nk⟩
 have hne:k≠x:=fun e=>h.nk (by rw [<-e];exact hk)
 rw [heap_set_ne _ hne,h.kp k hk]
theorem ChE.new (h:ChE w1 wA x er w K sb rb ti tl n N a C L nx X) (o:Obj):ChE w1 (w.alloc o) x er (w.alloc o) (fun k=>K k\/k=w.heap.size) sb rb ti tl n N a C L nx X:=by
 have hb:Below w.heap.size w (w.alloc o):=(Below.refl w.heap.size w).alloc (Nat.le_refl _) _
 have hl:=lt_of_heap h.bx
 refine ⟨((h.st.new hb w.heap.size (Nat.le_refl _) (by simp))).mono fun k hk=>?_,fun _ _=>rfl,(hb.block x hl).trans h.bx,h.lo,h.ne,?_⟩
 ·rcases hk with (hk|hk)|hk
  ·exact .inl (.inl hk)
  ·exact .inr hk
  ·exact .inl (.inr hk)
 ·rintro (hk|hk)
  ·exact h.nk hk
  ·omega
theorem ChE.old {K2:Nat->Prop} {o:Obj} {er2:Int} (h:ChE w1 wA x er w K sb rb ti tl n N a C L nx X) (g:ChE w1 (w.alloc o) x er2 w' (fun k=>K k\/K2 k) sb rb ti tl n N a' C' L' nx' X'):ChE w1 wA x er2 w' K sb rb ti tl n N a' C' L' nx' X':=by
 have hb:Below w.heap.size w (w.alloc o):=(Below.refl w.heap.size w).alloc (Nat.le_refl _) _
 refine ⟨g.st.mono fun k hk=>?_,?_,g.bx,g.lo,g.ne,h.nk⟩
 ·rcases hk with hk|hk
  ·exact .inl (.inl hk)
  ·exact .inr hk
 ·exact (h.kp.trans ((h.st.keep hb).mono fun k hk=>.inl hk)).trans (g.kp.mono fun k hk=>.inl hk)
theorem ChE.cell (h:ChE w1 wA x er w K sb rb ti tl n N a C L nx X):w.cell? ⟨x,0,none⟩=some (.int .i64 er)/\w.frozen? ⟨x,0,none⟩=false/\x<w.heap.size:=⟨cell_lit h.bx rfl,frozen_lit h.bx 0,lt_of_heap h.bx⟩
theorem ChE.end_ (h0:Chs w1 w0 wA K sb rb ti tl n N a C L nx X) (h:ChE w1 wA x er w K sb rb ti tl n N a' C' L' nx' X'):Chs w1 w0 w K sb rb ti tl n N a' C' L' nx' X' :=
 ((h.st.mono fun k hk=>.inl hk).to h.kp).to h0.kept
end
theorem write_n (nx:Nat) (hn:nx<1000000000) (W:World) (g:Nat) (hg:W.heap[g]?=some (.cells #[.int .u64 (nx:Int),.string ⟨#[]⟩] 139 (0,0))) :
 Calls Tryz.prog 70 #[.string ⟨#[110]⟩,.slice (some ⟨g,0,none⟩) 1 1] W fun e w'=>e=.returned (.tuple #[.string (lkey nx),.bool true])/\Hid (Below W.heap.size W w'):=by
 have hv:FldsAt W (.slice (some ⟨g,0,none⟩) 1 1) [(nx,⟨#[]⟩)]:=flds1k hg (by omega)
 have WC:=Write_c ⟨#[110]⟩ (.slice (some ⟨g,0,none⟩) 1 1) [(nx,⟨#[]⟩)] W (by decide) hv fun p hp=>by
  simp only [List.mem_cons,List.not_mem_nil,or_false] at hp
  subst hp;exact Nat.zero_le _
 rw [show ((⟨#[110]⟩:ByteArray)).data.toList=[110] from rfl,lkey_write nx hn] at WC
 refine WC.mono ?_
 rintro e w' ⟨rfl,h⟩
 exact ⟨rfl,h⟩
theorem write_l (e0:Lg) (he:e0.Ok) (W:World) (g:Nat) (hg:W.heap[g]?=some (.cells #[.int .u64 (sgB e0.up:Int),.string ⟨#[]⟩,.int .u64 0,.string e0.id] 139 (0,0))) :
 Calls Tryz.prog 70 #[.string ⟨#[98,114]⟩,.slice (some ⟨g,0,none⟩) 2 2] W fun e w'=>e=.returned (.tuple #[.string e0.val,.bool true])/\Hid (Below W.heap.size W w'):=by
 have h1:sgB e0.up<256:=by unfold sgB;split <;> omega
 have hv:FldsAt W (.slice (some ⟨g,0,none⟩) 2 2) e0.flds:=flds2k (a1:=0) hg (by
  intro p hp
  simp only [List.mem_cons,List.not_mem_nil,or_false] at hp
  rcases hp with rfl|rfl <;> simp only <;> omega)
 have WC:=Write_c kindsL (.slice (some ⟨g,0,none⟩) 2 2) e0.flds W (by decide) hv fun p hp=>by
  have:=he.id
  simp only [Lg.flds,List.mem_cons,List.not_mem_nil,or_false] at hp
  rcases hp with rfl|rfl
  ·exact Nat.zero_le _
  ·show e0.id.size<=_;omega
 rw [Lg.write e0] at WC
 refine WC.mono ?_
 rintro e w' ⟨rfl,h⟩
 exact ⟨rfl,h⟩
theorem alloc_new_set (w:World) (x:Nat) (v:Value) (a:Array Value) (t:TypeId):((w.setCell ⟨x,0,none⟩ v).alloc (.cells a t)).heap[w.heap.size]?=some (.cells a t (0,0)):=by
 have:=heap_alloc_new (w.setCell ⟨x,0,none⟩ v) (.cells a t)
 simpa using this
def byI (up:Bool):Int:=if up then 1 else -1
section
variable (w1 w w0:World) (K:Nat->Prop) (sb rb ti tl n N a nx:Nat) (C:List Ck) (L:List Lg) (X:List (Nat × ByteArray))
theorem Add_yes (id:ByteArray) (up:Bool) (c:Ck) (h:Hid (Chs w1 w0 w K sb rb ti tl n N a C L nx X)) (hN:a<N/\N<=1000) (hi:id.size=33) (hf:cAt C id=some c) :
 Calls Tryz.prog 19 #[.pointer (some ⟨sb,0,none⟩),.string id,.int .i64 (byI up)] w fun e w'=>e=.returned (.int .i64 0)/\Hid (Chs w1 w0 w' K sb rb ti tl n N (a+1) C (L++[⟨nx,up,id⟩]) (nx+1) X):=by
 obtain ⟨x,hx⟩:=exE (w.heap.size)
 obtain ⟨wb,hwb⟩:=exE (w.alloc (.cells #[.int .i64 0] 34))
 have E0:Hid (ChE w1 w x 0 wb K sb rb ti tl n N a C L nx X):=Hd (by subst hx hwb;exact ChE.start h.out)
 obtain ⟨k,MK⟩:=Mark_k w1 wb wb _ sb rb ti tl n N a nx C L X (Hd E0.out.st)
 have FY:=find_yes id c (Hd E0.out.st) ⟨by omega,hN.2⟩ (by omega) hf
 rw [show c.v=.agg #[.int .i64 (c.page:Int),.int .i64 (c.text.size:Int),.int .i64 c.cnt] from rfl] at FY
 have hnx:=h.out.ok.2.2.2
 have RT:Hid (∀ W,Hid (ChE w1 w x 0 W K sb rb ti tl n N a C L nx X)->Calls Tryz.prog 69 #[.pointer (some ⟨rb,0,none⟩),.int .i64 2] W fun e w'=>e=.returned (.tuple #[.int .u64 (nx:Int),.int .i64 0])/\Hid (ChE w1 w x 0 w' K sb rb ti tl n N a C L nx X)):=Hd fun W hW=>by
  refine (root2 w1 W W _ sb rb ti tl n N a nx C L X (Hd hW.out.st) ⟨by omega,hN.2⟩).mono ?_
  rintro e w' ⟨rfl,hE⟩
  exact ⟨rfl,Hd (hW.out.step hE.out)⟩
 have WN:Hid (∀ W g,Hid (ChE w1 w x 0 W K sb rb ti tl n N a C L nx X)->W.heap[g]?=some (.cells #[.int .u64 (nx:Int),.string ⟨#[]⟩] 139 (0,0))->Calls Tryz.prog 70 #[.string ⟨#[110]⟩,.slice (some ⟨g,0,none⟩) 1 1] W fun e w'=>e=.returned (.tuple #[.string (lkey nx),.bool true])/\Hid (ChE w1 w x 0 w' K sb rb ti tl n N a C L nx X)):=Hd fun W g hW hg=>by
  refine (write_n nx (by omega) W g hg).mono ?_
  rintro e w' ⟨rfl,hE⟩
  exact ⟨rfl,Hd (hW.out.below hE.out)⟩
 have HOK:Lg.Ok ⟨nx,up,id⟩:=⟨by show nx<_;omega,hi⟩
 have WL:Hid (∀ W g,Hid (ChE w1 w x 0 W K sb rb ti tl n N a C L nx X)->W.heap[g]?=some (.cells #[.int .u64 (sgB up:Int),.string ⟨#[]⟩,.int .u64 0,.string id] 139 (0,0))->Calls Tryz.prog 70 #[.string ⟨#[98,114]⟩,.slice (some ⟨g,0,none⟩) 2 2] W fun e w'=>e=.returned (.tuple #[.string (Lg.val ⟨nx,up,id⟩),.bool true])/\Hid (ChE w1 w x 0 w' K sb rb ti tl n N a C L nx X)):=Hd fun W g hW hg=>by
  refine (write_l ⟨nx,up,id⟩ HOK W g hg).mono ?_
  rintro e w' ⟨rfl,hE⟩
  exact ⟨rfl,Hd (hW.out.below hE.out)⟩
 have LP:Hid (∀ W,Hid (ChE w1 w x 0 W K sb rb ti tl n N a C L nx X)->Calls Tryz.prog 71 #[.pointer (some ⟨tl,0,none⟩),.string (lkey nx),.string (Lg.val ⟨nx,up,id⟩)] W fun e w'=>e=.returned (.int .i64 0)/\Hid (ChsM w1 W w' (fun k=>K k\/k=x) sb rb ti tl n N a C (L++[⟨nx,up,id⟩]) nx X)):=Hd fun W hW=>by
  refine (log_put ⟨nx,up,id⟩ HOK rfl (Hd hW.out.st) hN).mono ?_
  rintro e w' ⟨rfl,hE⟩
  exact ⟨rfl,Hd hE.out⟩
 have SR:Hid (∀ W0 W,Hid (ChE w1 w x 0 W0 K sb rb ti tl n N a C L nx X)->Hid (ChsM w1 W0 W (fun k=>K k\/k=x) sb rb ti tl n N a C (L++[⟨nx,up,id⟩]) nx X)->Calls Tryz.prog 72 #[.pointer (some ⟨rb,0,none⟩),.int .i64 2,.int .u64 ((nx:Int)+1)] W fun e w'=>e=.returned (.int .i64 0)/\Hid (ChE w1 w x 0 w' K sb rb ti tl n N (a+1) C (L++[⟨nx,up,id⟩]) (nx+1) X)):=Hd fun W0 W h0 hW=>by
  refine (set_root2 w1 W W0 _ sb rb ti tl n N a nx C _ X hW hN).mono ?_
  rintro e w' ⟨rfl,hE⟩
  exact ⟨rfl,Hd (h0.out.step hE.out)⟩
 have kn:IntKind.u64.wrap ((nx:Int)+1)=(nx:Int)+1:=by
  have:=wrap_u64 (v:=nx+1) (by omega)
  simpa using this
 have HBA:Hid (∀ (W:World) (o:Obj),Below W.heap.size W (W.alloc o)):=Hd fun W o=>(Below.refl _ _).alloc (Nat.le_refl _) o
 generalize c.page=z0 at *
 generalize (c.text.size:Int)=z1 at *
 generalize c.cnt=z2 at *
 generalize hvl:Lg.val ⟨nx,up,id⟩=vl at *
 generalize L++[⟨nx,up,id⟩]=L' at *
 generalize lkey nx=ky at *
 have HH:=Hd h.out
 clear h hN hi hf HOK hvl hnx
 cases up
 all_goals (
  first
   | rw [show byI true=1 from rfl]
   | rw [show byI false=-1 from rfl]
  first
   | rw [show ((sgB true:Nat):Int)=1 from rfl] at WL
   | rw [show ((sgB false:Nat):Int)=0 from rfl] at WL
  go_enter_defers Tryz.func19,Tryz.ntmps19
  go_wp2_with fail
  subst hx
  refine MK.mono ?_
  rintro e wm ⟨rfl,rfl⟩
  go_wp2_with fail
  refine FY.mono ?_
  rintro e w2 ⟨rfl,G2⟩
  have E2:=Hd (E0.out.step G2.out)
  obtain ⟨cx,fx,lx⟩:=E2.out.cell
  obtain ⟨s0,s1,s2⟩:=E2.out.st.sbk.cells
  have lsb:sb<w2.heap.size:=lt_of_heap E2.out.st.sbk.1
  have nsb:sb≠w.heap.size:=E2.out.ne.1.symm
  clear FY MK G2
  go_wp2_with fail
  refine (RT.out _ (Hd ((E2.out.set 0).below (HBA.out _ _)))).mono ?_
  rintro e w3 ⟨rfl,E3⟩
  clear RT cx fx lx s0 s1 s2 lsb
  obtain ⟨cx,fx,lx⟩:=E3.out.cell
  obtain ⟨s0,s1,s2⟩:=E3.out.st.sbk.cells
  have lsb:sb<w3.heap.size:=lt_of_heap E3.out.st.sbk.1
  go_wp2_with fail
  refine (WN.out _ _ (Hd ((E3.out.set 0).below (HBA.out _ _))) (alloc_new_set _ _ _ _ _)).mono ?_
  rintro e w4 ⟨rfl,E4⟩
  clear WN cx fx lx s0 s1 s2 lsb
  obtain ⟨cx,fx,lx⟩:=E4.out.cell
  obtain ⟨s0,s1,s2⟩:=E4.out.st.sbk.cells
  go_wp2_with fail
  refine (WL.out _ _ (Hd (E4.out.below (HBA.out _ _))) (heap_alloc_new _ _)).mono ?_
  rintro e w5 ⟨rfl,E5⟩
  clear WL cx fx lx s0 s1 s2
  obtain ⟨cx,fx,lx⟩:=E5.out.cell
  obtain ⟨s0,s1,s2⟩:=E5.out.st.sbk.cells
  go_wp2_with fail
  refine (LP.out _ E5).mono ?_
  rintro e w6 ⟨rfl,M6⟩
  clear LP cx fx lx s0 s1 s2
  obtain ⟨s0,s1,s2⟩:=M6.out.sbk.cells
  go_wp2_with fail
  refine (SR.out _ _ E5 M6).mono ?_
  rintro e w7 ⟨rfl,E7⟩
  clear SR s0 s1 s2
  obtain ⟨cx,fx,lx⟩:=E7.out.cell
  have E8:=Hd (E7.out.set 0)
  have hfin:=E8.out.cell.1
  go_wp2_with fail
  refine leaves_cons (f:=60) (args:=#[.pointer (some ⟨sb,0,none⟩),.int .i64 (k:Int),.pointer (some ⟨w.heap.size,0,none⟩)]) (by simp) (by simp [go_sem]) ?_
  refine (undo_d _ _ _ _ _ hfin).mono ?_
  rintro e u' w9 ⟨rfl,rfl,rfl⟩
  have HGO:=Hd (ChE.end_ HH.out E8.out)
  simp [Leaves,settle,results,Tryz.results19,go_sem,hfin]
  exact HGO)
end
theorem sRun_take (limit:Nat):∀ (F L:List (ByteArray × ByteArray)) (_:L.length<=limit),(sRun ⟨#[]⟩ limit F L).1=L++F.take (limit-L.length)
 | [],L,_=>by simp [sRun]
 | e::F,L,h=>by
   by_cases hl:L.length=limit
   ·rw [sRun_cons,if_pos (.inl hl),hl];simp
   ·rw [sRun_cons,if_neg (by rintro (h|⟨h,-⟩);· exact hl h
                             ·exact h rfl),sRun_take limit F (L++[e]) (by simp;omega)]
    obtain ⟨d,hd⟩:∃ d,limit-L.length=d+1:=⟨limit-L.length-1,by omega⟩
    rw [hd,List.length_append,show limit-(L.length+[e].length)=d by simp;omega]
    simp
theorem pairK_get (L:List (ByteArray × ByteArray)) (i:Nat) (h:i<L.length):(pairC L)[i*2]?=some (.string L[i].1)/\(pairC L)[i*2+1]?=some (.string L[i].2):=by
 induction L generalizing i with
 | nil=>simp at h
 | cons e L ih =>
   have e1:pairC (e::L)=.string e.1::.string e.2::pairC L:=by simp [pairC]
   rw [e1]
   cases i with
   | zero=>exact ⟨rfl,rfl⟩
   | succ i =>
     have:=ih i (by simpa using h)
     rw [show (i+1)*2=i*2+1+1 by omega]
     simpa using this
theorem from_nil (E:List (ByteArray × ByteArray)):from_ ⟨#[]⟩ E=E:=from_all fun e he=>by
 cases hk:kless e.1 ⟨#[]⟩ with
 | false=>rfl
 | true =>
   rw [kless_iff] at hk
   exact absurd (show e.1.data.toList<[] from hk) (List.not_lt_nil _)
theorem Scan_zero (G:Nat->Prop) (tb rb place n m:Nat) (S:RS) (w:World) (frm tt:ByteArray) (h:RmS w G rb n m S) (ht:TB w tb rb place) (hg:¬G tb) (hp:place<16) (hm:m<=3900000) (hr:S.root place<=65536) (hr1:1<=S.root place) :
 Calls Tryz.prog 87 #[.pointer (some ⟨tb,0,none⟩),.string frm,.string tt,.int .i64 0] w fun e w'=>∃ v,e=.returned (.tuple #[v,.int .i64 0])/\Hid (ScanRes w w' G rb n m S [] v):=by
 have hmf:∀ (fn:Fn) (first cap:Array Value) (w:World),(Instr.makeFunc fn first cap).run Tryz.prog w=.ok (.func fn first cap) w:=fun _ _ _ _=>rfl
 have B0:=Hd ((TBase.start h ht hg).below (scanW_below w))
 have HG:=Hd h.lt
 have HM:=Hd hm
 have A0:=Hd (scanW_acc w)
 have E0:=Hd (scanW_e w)
 have S0:=Hd (scanW_size w)
 have RT:=root_c G tb rb place n m S _ B0.out.room B0.out.blk hp (by omega) hr
 have hq:(0:Int)<=(S.root place:Int)-1:=by omega
 generalize (S.root place:Int)-1=q at *
 clear h ht hg hp hm hr hr1
 go_enter_defers Tryz.func87,Tryz.ntmps87
 go_wp2_with fail
 change Calls Tryz.prog 125 #[.pointer (some ⟨tb,0,none⟩)] (scanW w) _
 generalize scanW w=W0 at *
 refine RT.mono ?_
 rintro e w2 ⟨rfl,hb⟩
 have B9:=Hd (B0.out.below hb.out)
 have A9:=Hd (A0.out.below hb.out)
 have E9:Hid (w2.heap[w.heap.size+1]?=some (.cells #[.int .i64 0] 34 (0,0))):=Hd ((hb.out.block _ (lt_of_heap E0.out)).trans E0.out)
 obtain ⟨v9,hv9⟩:=exE (Value.slice none 0 0)
 rw [hv9] at A9
 clear hv9 RT hb
 have hfl:((w2.setCell ⟨w.heap.size,0,none⟩ v9).setCell ⟨w.heap.size+1,0,none⟩ (.int .i64 0)).cell? ⟨w.heap.size,0,none⟩=some v9:=cell_lit ((heap_set_ne _ (by omega)).trans (heap_set_lit A9.out.blk _)) rfl
 have hfe:((w2.setCell ⟨w.heap.size,0,none⟩ v9).setCell ⟨w.heap.size+1,0,none⟩ (.int .i64 0)).cell? ⟨w.heap.size+1,0,none⟩=some (.int .i64 0):=cell_lit (heap_set_lit ((heap_set_ne _ (by omega)).trans E9.out) _) rfl
 have HRES:Hid (ScanRes w ((w2.setCell ⟨w.heap.size,0,none⟩ v9).setCell ⟨w.heap.size+1,0,none⟩ (.int .i64 0)) G rb n m S [] v9):=Hd (by
  refine ⟨ownsRow_of2 A9.out.row fun k hk=>?_,(((StG.of B9.out (Below.refl _ _)).loc (x:=w.heap.size) (Nat.le_refl _) (fun e=>by have:=HG.out _ e;omega) 0 _).loc (x:=w.heap.size+1) (by omega) (fun e=>by have:=HG.out _ e;omega) 0 _).keep⟩
  have h1:=(A9.out.row.lt k hk).1
  exact (heap_set_ne _ (by omega)).trans (heap_set_ne _ (by omega)))
 have m0:w2.cell? ⟨w.heap.size,0,none⟩=some v9:=cell_lit A9.out.blk rfl
 have m1:w2.frozen? ⟨w.heap.size,0,none⟩=false:=frozen_lit A9.out.blk 0
 have m2:w2.cell? ⟨w.heap.size+1,0,none⟩=some (.int .i64 0):=cell_lit E9.out rfl
 have m3:w2.frozen? ⟨w.heap.size+1,0,none⟩=false:=frozen_lit E9.out 0
 obtain ⟨xa,xm,xc,rfl⟩:∃ a b c,v9=.slice a b c:=by
  rcases A9.out.row.2 with ⟨rfl,_⟩|⟨g,cap,cur,rfl,_⟩
  ·exact ⟨_,_,_,rfl⟩
  ·exact ⟨_,_,_,rfl⟩
 clear B0 A0 E0
 go_wp2_with fail
 refine leaves_cons (f:=124) (args:=#[.pointer (some ⟨w.heap.size+1,0,none⟩)]) (by simp) (by simp [go_sem]) ?_
 refine (guard_idle _ _).mono ?_
 rintro e u' wa ⟨rfl,rfl,rfl⟩
 refine leaves_cons (f:=141) (args:=#[.pointer (some ⟨w.heap.size+1,0,none⟩),.pointer (some ⟨w.heap.size,0,none⟩)]) (by simp [settle]) (by simp [go_sem]) ?_
 refine (scan1_idle _ _ _ _ hfe).mono ?_
 rintro e u' wb ⟨rfl,rfl,rfl⟩
 simp [Leaves,settle,results,Tryz.results87,go_sem,hfe,hfl]
 exact HRES
def LogSc (w1 w w':World) (K:Nat->Prop) (sb rb ti tl n N a:Nat) (C:List Ck) (L:List Lg) (nx:Nat) (X:List (Nat × ByteArray)) (T:List Lg) (v:Value):Prop :=
 w'.ownsRow (w.heap.size+2) 170 2 v T.length (pairC (T.map encL))/\Chs w1 w' w' (fun k=>K k\/(w.heap.size<=k/\k<w'.heap.size)) sb rb ti tl n N a C L nx X/\Kept K w w'
section
variable (w1 w w0:World) (K:Nat->Prop) (sb rb ti tl n N a nx:Nat) (C:List Ck) (L:List Lg) (X:List (Nat × ByteArray))
theorem log_scan (limit:Nat) (h:Hid (Chs w1 w0 w K sb rb ti tl n N a C L nx X)) (hN:a<=N/\N<=1000) (hL:L.length<=1000000) (hl2:limit<=9223372036854775807) :
 Calls Tryz.prog 87 #[.pointer (some ⟨tl,0,none⟩),.string ⟨#[]⟩,.string ⟨#[]⟩,.int .i64 (limit:Int)] w fun e w'=>∃ v,e=.returned (.tuple #[v,.int .i64 0])/\Hid (LogSc w1 w w' K sb rb ti tl n N a C L nx X (L.take limit) v):=by
 obtain ⟨S,o0,o1,h1,h2,h3,h4,h5⟩:=h.out
 have hl:(entsO o1).length=L.length:=by rw [h4.eq,List.length_map]
 rcases Nat.eq_zero_or_pos limit with rfl|hl1
 ·obtain ⟨G,x1,x2,x3,x4⟩:=h1.1.1
  have hng:¬G tl:=(x3 tl (.inr (.inr (.inr rfl)))).2
  have SZ:Calls Tryz.prog 87 #[.pointer (some ⟨tl,0,none⟩),.string ⟨#[]⟩,.string ⟨#[]⟩,.int .i64 0] w fun e w'=>∃ v,e=.returned (.tuple #[v,.int .i64 0])/\Hid (ScanRes w w' G rb n (300*a) S [] v):=by
   cases ho:o1 with
   | none=>exact Scan_none G tl rb 1 n (300*a) S w ⟨#[]⟩ ⟨#[]⟩ 0 x1 h1.1.2.2.2 hng (by decide) (by omega) (by have:=h2.t1;rw [ho] at this;exact this)
   | some T =>
     have ht:=h2.t1
     rw [ho] at ht
     have hp:=x1.lim T.p ht.2.on.top.1
     have hb:=x1.bounds
     exact Scan_zero G tl rb 1 n (300*a) S w ⟨#[]⟩ ⟨#[]⟩ x1 h1.1.2.2.2 hng (by decide) (by omega) (by rw [ht.1];unfold pagesN at hp;omega) (by rw [ht.1];omega)
  refine SZ.mono ?_
  rintro e w' ⟨v,rfl,hE⟩
  obtain ⟨r2,r3⟩:=RSt.ofK x1 x2 x3 x4 hE.out.2
  have hg:=h1.1.of (r2.mono fun k hk=>.inl hk) r3
  refine ⟨v,rfl,Hd ⟨by simpa using hE.out.1,⟨S,o0,o1,⟨⟨r2.mono fun k hk=>?_,hg.1.2⟩,fun _ _=>rfl⟩,h2,h3,h4,h5⟩,hg.2⟩⟩
  rcases hk with (hk|hk)|hk
  ·exact .inl (.inl hk)
  ·exact .inr hk
  ·exact .inl (.inr hk)
 have SC:=scan_g w1 w _ tl rb 1 n (300*a) S o1 ⟨#[]⟩ ⟨#[]⟩ limit h1.1.1 h1.1.2.2.2 (.inr (.inr (.inr rfl))) h2.t1 (by decide) (by omega) (by have:=h2.hgt1 (by omega);omega) (by omega) hl1 hl2
 rw [from_nil,sRun_take limit _ [] (Nat.zero_le _),List.nil_append,h4.eq,List.length_nil,Nat.sub_zero,<-List.map_take,List.length_map] at SC
 refine SC.mono ?_
 rintro e w' ⟨v,rfl,hE⟩
 obtain ⟨r1,r2,r3⟩:=hE.out
 have hg:=h1.1.of (r2.mono fun k hk=>.inl hk) r3
 refine ⟨v,rfl,Hd ⟨r1,⟨S,o0,o1,⟨⟨r2.mono fun k hk=>?_,hg.1.2⟩,fun _ _=>rfl⟩,h2,h3,h4,h5⟩,hg.2⟩⟩
 rcases hk with (hk|hk)|hk
 ·exact .inl (.inl hk)
 ·exact .inr hk
 ·exact .inl (.inr hk)
end
theorem infoE:(Tryz.prog.info? 146).map (fun i=>(i.zero,i.size,i.bytes))=some (some (.agg #[.string ⟨#[]⟩,.string ⟨#[]⟩,.int .i64 0]),3,40):=by kernel_rfl
def entC (T:List Lg):List Value:=T.flatMap fun e=>[.string (lkey e.n),.string e.id,.int .i64 e.by]
theorem entC_snoc (T:List Lg) (e:Lg):entC (T++[e])=entC T++[.string (lkey e.n),.string e.id,.int .i64 e.by]:=by simp [entC]
theorem one3 (a b c:Value) (ha:a.oneCell'=true) (hb:b.oneCell'=true) (hc:c.oneCell'=true):∀ u∈[a,b,c],u.oneCell'=true:=by
 intro u hu;simp at hu;rcases hu with rfl|rfl|rfl <;> assumption
theorem read_lg (e0:Lg) (he:e0.Ok) (W:World):Calls Tryz.prog 88 #[.string ⟨#[98,114]⟩,.string e0.val] W fun e w'=>∃ g k,W.heap.size<=g/\e=.returned (.tuple #[.slice (some ⟨g,0,none⟩) 2 k,.bool true])/\(w'.cell? ⟨g,0,none⟩=some (.int .u64 (sgB e0.up:Int))/\w'.cell? ⟨g,3,none⟩=some (.string e0.id))/\Hid (Below W.heap.size W w'):=by
 have RC:=Read_cK kindsL e0.val W (by decide) (by have:=Lg.val_size he;omega)
 rw [Lg.read e0] at RC
 refine RC.mono ?_
 intro e w' hp
 obtain ⟨v,rfl,ho,hbl⟩:=hp
 rcases ho.2 with ⟨rfl,h0⟩|⟨g,cap,cur,rfl,hbg,-⟩
 ·exact absurd h0 (by simp [Lg.flds])
 ·refine ⟨g,cap,hbg,rfl,?_,Hd hbl⟩
  have c:=fun i (hi:i<4)=>ho.cellAt i (by simpa [Lg.flds] using hi)
  exact ⟨c 0 (by decide),c 3 (by decide)⟩
def FsRel (W0:World) (T:List Lg) (i:Nat) (v:Value) (wr:World):Prop:=wr.ownsRow W0.heap.size 146 3 v i (entC (T.take i))/\Below W0.heap.size W0 wr
def FirstEnd (w1 w w':World) (K:Nat->Prop) (sb rb ti tl n N a:Nat) (C:List Ck) (L:List Lg) (nx:Nat) (X:List (Nat × ByteArray)) (T:List Lg) (v:Value):Prop :=
 w'.ownsRow 0 146 3 v T.length (entC T)/\Chs w1 w' w' (fun k=>K k\/v.ownBlock=some k) sb rb ti tl n N a C L nx X/\Kept K w w'
section
variable (w1 w w0:World) (K:Nat->Prop) (sb rb ti tl n N a nx:Nat) (C:List Ck) (L:List Lg) (X:List (Nat × ByteArray))
theorem first_k (limit:Nat) (h:Hid (Chs w1 w0 w K sb rb ti tl n N a C L nx X)) (hN:a<=N/\N<=1000) (hL:L.length<=1000000) (hl2:limit<=9223372036854775807) :
 Calls Tryz.prog 73 #[.pointer (some ⟨sb,0,none⟩),.int .i64 (limit:Int)] w fun e w'=>∃ v,e=.returned (.tuple #[v,.int .i64 0])/\Hid (FirstEnd w1 w w' K sb rb ti tl n N a C L nx X (L.take limit) v):=by
 have SC:=log_scan w1 w w0 K sb rb ti tl n N a nx C L X limit h hN hL hl2
 have HOK:Hid (∀ e∈L.take limit,e.Ok):=Hd fun e he=>(h.out.ok.2.2.1 e (List.mem_of_mem_take he)).1
 have HLEN:Hid ((L.take limit).length<=1000000):=Hd (by rw [List.length_take];omega)
 obtain ⟨T,hT⟩:=exE (L.take limit)
 rw [hT] at SC HOK HLEN ⊢
 obtain ⟨s0,s1,s2⟩:=h.out.sbk.cells
 clear hN hL hl2 hT
 go_enter Tryz.func73,Tryz.ntmps73
 go_wp2_with fail
 refine SC.mono ?_
 rintro e w4 ⟨v,rfl,HS⟩
 clear SC
 obtain ⟨va,vc,hv⟩:∃ va vc,v=.slice va T.length vc:=by
  rcases HS.out.1.2 with ⟨rfl,h0⟩|⟨g,cap,cur,rfl,-⟩
  ·exact ⟨_,_,by rw [h0]⟩
  ·exact ⟨_,_,rfl⟩
 subst hv
 have CE:Hid (∀ i (hi:i<T.length),∃ g,va=some ⟨g,0,none⟩/\g<w4.heap.size/\w4.cell? ⟨g,i*2,none⟩=some (.string (lkey T[i].n))/\w4.cell? ⟨g,i*2+1,none⟩=some (.string T[i].val)):=Hd fun i hi=>by
  have hr:=HS.out.1
  rcases hr.2 with ⟨e,h0⟩|⟨g,cap,cur,e,h1,h2,-⟩
  ·omega
  ·cases e
   have hl:i<(T.map encL).length:=by simpa using hi
   obtain ⟨x,y⟩:=pairK_get (T.map encL) i hl
   refine ⟨g,rfl,lt_of_heap h2,?_,?_⟩
   ·rw [hr.cellAt (i*2) (by omega),x];simp [encL]
   ·rw [hr.cellAt (i*2+1) (by omega),y];simp [encL]
 have R0:Hid (FsRel w4 T 0 (.slice none 0 0) w4):=Hd ⟨World.ownsRow_nil _ _ _ _,Below.refl _ _⟩
 have HEND:Hid (∀ v w',FsRel w4 T T.length v w'->FirstEnd w1 w w' K sb rb ti tl n N a C L nx X T v):=Hd fun v w' hr=>by
  obtain ⟨h1,h2⟩:=hr
  rw [List.take_length] at h1
  obtain ⟨g1,g2⟩:=HS.out.2
  have hm:=g1.mono (K':=K) fun k hk=>.inl hk
  have hb:Chs w1 w' w' (fun k=>K k\/v.ownBlock=some k) sb rb ti tl n N a C L nx X:=by
   obtain ⟨S,o0,o1,x1,x2⟩:=hm
   refine ⟨S,o0,o1,⟨(x1.1.belowK h2).1.mono fun k hk=>hk.imp id fun hk=>h1.lt k hk,fun _ _=>rfl⟩,x2⟩
  exact ⟨own_le h1 (Nat.zero_le _),hb,g2.trans (hm.keep h2)⟩
 obtain ⟨jE,hjE,hE0,hE1,hE2⟩:=info_parts infoE
 go_wp2_with fail
 go_loopg [8,10,11,12,29] T.length (fun g s8 s10 s11 s12 s29 wr=>∃ (i:Nat) (sv:Value),g=T.length-i/\i<=T.length/\s29=.int .i64 (i:Int)/\sv=s8/\Hid (FsRel w4 T i sv wr))
 case atStart=>exact ⟨0,_,rfl,Nat.zero_le _,rfl,rfl,R0⟩
 case round =>
  obtain ⟨i,sv,rfl,hi,rfl,rfl,HR⟩:=hrel
  clear R0
  by_cases hlt:i<T.length
  ·obtain ⟨g,rfl,hg,c0,c1⟩:=CE.out i hlt
   have hbl:=HR.out.2
   have d0:wr.cell? ⟨g,i*2,none⟩=some (.string (lkey T[i].n)):=(hbl.cell (p:=⟨g,i*2,none⟩) hg).trans c0
   have d1:wr.cell? ⟨g,i*2+1,none⟩=some (.string T[i].val):=(hbl.cell (p:=⟨g,i*2+1,none⟩) hg).trans c1
   have hok:=HOK.out T[i] (List.getElem_mem hlt)
   have RD:=fun W=>read_lg T[i] hok W
   have HSTEP:Hid (∀ v' W5,W5.ownsRow w4.heap.size 146 3 v' (i+1) (entC (T.take i)++[.string (lkey T[i].n),.string T[i].id,.int .i64 T[i].by])->Below w4.heap.size w4 W5->FsRel w4 T (i+1) v' W5):=Hd fun v' W5 ho hb=>by
    refine ⟨?_,hb⟩
    rw [List.take_succ_eq_append_getElem hlt,entC_snoc]
    exact ho
   have u0:IntKind.u64.wrap (2*((sgB T[i].up:Nat):Int))=((2*sgB T[i].up:Nat):Int):=by
    have:=wrap_u64 (v:=2*sgB T[i].up) (by unfold sgB;split <;> omega)
    rw [<-this];congr 1
   have u1:IntKind.i64.wrap ((2*sgB T[i].up:Nat):Int)=((2*sgB T[i].up:Nat):Int):=by
    cases T[i].up <;> decide
   have u2:IntKind.i64.wrap (((2*sgB T[i].up:Nat):Int)-1)=T[i].by:=by
    unfold Lg.by
    cases T[i].up <;> decide
   have HLT:=Hd hlt
   have hl64:i<=1000000:=by have:=HLEN.out;omega
   clear c0 c1 hok hi
   have HL:Hid (i+1<=maxLen/\(i+1)*40<=140737488355328):=Hd (by unfold maxLen;omega)
   generalize T[i].val=vl at *
   generalize lkey T[i].n=ky at *
   generalize T[i].id=id at *
   generalize T[i].by=by_ at *
   generalize 2*sgB T[i].up=z2 at *
   generalize sgB T[i].up=z1 at *
   clear hlt hbl
   go_wp2_with fail
   refine (RD _).mono ?_
   rintro e w6 ⟨gf,kf,hgf,rfl,⟨f0,f3⟩,hb6⟩
   have hbp:w6.cell? ⟨wr.heap.size,0,none⟩=some (.string ky):=cell_lit ((hb6.out.block wr.heap.size (by simp)).trans (heap_alloc_new wr _)) rfl
   have hb7:Below wr.heap.size wr w6:=((Below.refl wr.heap.size wr).alloc (Nat.le_refl _) _).trans (hb6.out.mono (by simp))
   have HB6:Hid (Below w4.heap.size w4 w6.drew):=Hd (HR.out.2.trans (hb7.drew.mono HR.out.2.size))
   have HOD:Hid (w6.drew.ownsRow w4.heap.size 146 3 sv i (entC (T.take i))):=Hd (ownsRow_upd HR.out.1 (hb7.drew.upd' (Nat.le_refl _)) (fun _ _ e=>e))
   have HBX:Hid (∀ o,w4.heap.size<=(w6.drew.alloc o).heap.size):=Hd fun o=>by have:=HB6.out.size;simp at this ⊢;omega
   have CK:Hid (∀ o W5,(w6.drew.alloc o).grownBy W5 sv.ownBlock->W5.cell? ⟨wr.heap.size,0,none⟩=some (.string ky)/\W5.cell? ⟨gf,0,none⟩=some (.int .u64 (z1:Int))/\W5.cell? ⟨gf,3,none⟩=some (.string id)):=Hd fun o W5 hg=>by
    have q:∀ b i v,wr.heap.size<=b->w6.cell? ⟨b,i,none⟩=some v->W5.cell? ⟨b,i,none⟩=some v:=fun b i v hb hc=>by
     have hbb:Below w6.heap.size w6 (w6.drew.alloc o):=((Below.refl w6.heap.size w6).drew).alloc (Nat.le_refl _) _
     refine hg.cell ((hbb.cell (p:=⟨b,i,none⟩) (World.block_lt_of_cell? w6 _ hc)).trans hc) fun e=>?_
     have:=HR.out.1.lt b e.symm
     omega
    have hgf':wr.heap.size<=gf:=by simp at hgf;omega
    exact ⟨q _ _ _ (Nat.le_refl _) hbp,q _ _ _ hgf' f0,q _ _ _ hgf' f3⟩
   clear hb6 hb7 RD d0 d1 hgf
   go_wp2_with fail
   go_region_held3 (fun w'=>w'.cell? ⟨wr.heap.size,0,none⟩=some (.string ky)/\w'.cell? ⟨gf,0,none⟩=some (.int .u64 (z1:Int))/\w'.cell? ⟨gf,3,none⟩=some (.string id)) (go_keep) ((first
    | (refine step_append_y (by rfl) _ _ _ (by rfl) w4.heap.size 146 jE _ 3 40 Tryz.underlying142 hjE hE0 hE1 hE2 rfl (by decide) _ _ _ (by rfl) (HOD.out.alloc _) _ 1 _ (by rfl) (yields_boxL _ #[.string ky,.string id,.int .i64 by_] _ 1 1) rfl (one3 _ _ _ rfl rfl rfl) HL.out.1 HL.out.2 (HBX.out _) ?_
       intro v5 W5 ho5 hg5 ha5
       have HN5:=Hd (HSTEP.out v5 W5 ho5 ((HB6.out.alloc HB6.out.size _).grown hg5 (HBX.out _) (fun k e=>(HOD.out.lt k e).1)))
       obtain ⟨k0,k1,k2⟩:=CK.out _ W5 hg5
       clear ho5 hg5 ha5)))
   all_goals go_wp2_with fail
   all_goals go_roundg (T.length-(i+1))
   all_goals (first
    | (case measure=>have:=HLT.out;omega)
    | (case rel=>exact ⟨i+1,_,rfl,HLT.out,by congr 1,rfl,HN5⟩))
  ·obtain rfl:i=T.length:=by omega
   have HE:=Hd (HEND.out _ _ HR.out)
   clear hlt hi
   go_wp2_with fail
   go_ret2
   exact ⟨_,rfl,HE⟩
end
theorem entC_get (T:List Lg) (i:Nat) (h:i<T.length):(entC T)[i*3]?=some (.string (lkey T[i].n))/\(entC T)[i*3+1]?=some (.string T[i].id)/\(entC T)[i*3+2]?=some (.int .i64 T[i].by):=by
 induction T generalizing i with
 | nil=>simp at h
 | cons e T ih =>
   have e1:entC (e::T)=.string (lkey e.n)::.string e.id::.int .i64 e.by::entC T:=by simp [entC]
   rw [e1]
   cases i with
   | zero=>exact ⟨rfl,rfl,rfl⟩
   | succ i =>
     have:=ih i (by simpa using h)
     rw [show (i+1)*3=i*3+1+1+1 by omega]
     simpa using this
def pend (T:List Lg) (id:ByteArray):Int:=match T with
 | []=>0
 | e::T=>(if e.id=id then e.by else 0)+pend T id
theorem pend_snoc (T:List Lg) (e:Lg) (id:ByteArray):pend (T++[e]) id=pend T id+if e.id=id then e.by else 0:=by
 induction T with
 | nil=>simp [pend]
 | cons x T ih=>simp only [List.cons_append,pend,ih];omega
theorem pend_abs (T:List Lg) (id:ByteArray):-(T.length:Int)<=pend T id/\pend T id<=T.length:=by
 induction T with
 | nil=>simp [pend]
 | cons x T ih =>
   have hb:-1<=x.by/\x.by<=1:=by unfold Lg.by;split <;> omega
   simp only [pend,List.length_cons]
   split <;> omega
section
variable (w1 w w0:World) (K:Nat->Prop) (sb rb ti tl n N a nx:Nat) (C:List Ck) (L:List Lg) (X:List (Nat × ByteArray))
theorem first_all (h:Hid (Chs w1 w0 w K sb rb ti tl n N a C L nx X)) (hN:a<=N/\N<=1000) (hL:L.length<=1000000) :
 Calls Tryz.prog 73 #[.pointer (some ⟨sb,0,none⟩),.int .i64 33554432] w fun e w'=>∃ va vc,e=.returned (.tuple #[.slice va L.length vc,.int .i64 0])/\Hid (FirstEnd w1 w w' K sb rb ti tl n N a C L nx X L (.slice va L.length vc)):=by
 have F:=first_k w1 w w0 K sb rb ti tl n N a nx C L X 33554432 h hN hL (by decide)
 rw [List.take_of_length_le (by omega)] at F
 refine F.mono ?_
 rintro e w' ⟨v,rfl,hE⟩
 obtain ⟨va,vc,rfl⟩:∃ va vc,v=.slice va L.length vc:=by
  rcases hE.out.1.2 with ⟨rfl,h0⟩|⟨g,cap,cur,rfl,-⟩
  ·exact ⟨_,_,by rw [h0]⟩
  ·exact ⟨_,_,rfl⟩
 exact ⟨va,vc,rfl,hE⟩
theorem Waits_k (h:Hid (Chs w1 w0 w K sb rb ti tl n N a C L nx X)) (hN:a<=N/\N<=1000) (hL:L.length<=1000000) :
 Calls Tryz.prog 54 #[.pointer (some ⟨sb,0,none⟩)] w fun e w'=>e=.returned (.tuple #[.int .i64 (L.length:Int),.int .i64 0])/\Hid (Chs w1 w0 w' K sb rb ti tl n N a C L nx X):=by
 have F:=first_all w1 w w0 K sb rb ti tl n N a nx C L X h hN hL
 have HH:Hid (∀ w' v,FirstEnd w1 w w' K sb rb ti tl n N a C L nx X L v->Chs w1 w0 w' K sb rb ti tl n N a C L nx X):=Hd fun w' v hE =>
  ((hE.2.1.mono fun k hk=>.inl hk).to hE.2.2).to h.out.kept
 generalize L.length=ll at *
 clear h hN hL
 go_enter Tryz.func54,Tryz.ntmps54
 go_wp2_with fail
 refine F.mono ?_
 rintro e w2 ⟨va,vc,rfl,hE⟩
 have HE:=Hd (HH.out _ _ hE.out)
 clear F hE HH
 go_wp2_with fail
 go_ret2
 exact ⟨rfl,HE⟩
end
theorem baK_eq {a b:ByteArray}:(a.toList == b.toList)=decide (a=b):=by
 by_cases h:a=b
 ·simp [h]
 ·have:¬a.toList=b.toList:=fun e=>h (by
   rw [Lib.toList_data,Lib.toList_data] at e
   exact ByteArray.ext (Array.toList_inj.1 e))
  simp [h,this]
theorem wrap_sgn {x:Int} (h1:-4611686018427387904<=x) (h2:x<=4611686018427387904):IntKind.i64.wrap x=x:=by
 simp [IntKind.wrap,IntKind.bits,IntKind.signed];omega
section
variable (w1 w w0:World) (K:Nat->Prop) (sb rb ti tl n N a nx:Nat) (C:List Ck) (L:List Lg) (X:List (Nat × ByteArray))
theorem Count_yes (id:ByteArray) (c:Ck) (h:Hid (Chs w1 w0 w K sb rb ti tl n N a C L nx X)) (hN:a<=N/\N<=1000) (hi:id.size<=96) (hf:cAt C id=some c) (hL:L.length<=1000000) :
 Calls Tryz.prog 21 #[.pointer (some ⟨sb,0,none⟩),.string id] w fun e w'=>e=.returned (.tuple #[.int .i64 c.cnt,.int .i64 (pend L id),.int .i64 0])/\Hid (Chs w1 w0 w' K sb rb ti tl n N a C L nx X):=by
 have FY:=find_yes id c h hN hi hf
 rw [show c.v=.agg #[.int .i64 (c.page:Int),.int .i64 (c.text.size:Int),.int .i64 c.cnt] from rfl] at FY
 have HN:=Hd hN
 have HLL:=Hd hL
 generalize c.page=z0 at *
 generalize (c.text.size:Int)=z1 at *
 generalize c.cnt=z2 at *
 clear h hN hi hf hL
 go_enter Tryz.func21,Tryz.ntmps21
 go_wp2_with fail
 refine FY.mono ?_
 rintro e w2 ⟨rfl,G2⟩
 obtain ⟨wb,hwb⟩:=exE (w2.alloc (.cells #[.int .i64 (z0:Int),.int .i64 z1,.int .i64 z2] 124))
 have HB:Hid (Below w2.heap.size w2 wb):=Hd (by subst hwb;exact (Below.refl _ _).alloc (Nat.le_refl _) _)
 have blk:Hid (wb.heap[w2.heap.size]?=some (.cells #[.int .i64 (z0:Int),.int .i64 z1,.int .i64 z2] 124 (0,0))):=Hd (by subst hwb;exact heap_alloc_new _ _)
 have G3:=Hd (G2.out.new HB.out w2.heap.size (Nat.le_refl _) (lt_of_heap blk.out))
 have F:=first_all w1 wb wb _ sb rb ti tl n N a nx C L X G3 HN.out HLL.out
 clear FY
 go_wp2_with fail
 refine F.mono ?_
 rintro e w4 ⟨va,vc,rfl,HS⟩
 clear F
 have b4:Hid (w4.heap[w2.heap.size]?=some (.cells #[.int .i64 (z0:Int),.int .i64 z1,.int .i64 z2] 124 (0,0))):=Hd ((HS.out.2.2 _ (.inr rfl)).trans blk.out)
 have HEND:Hid (∀ w',Below w4.heap.size w4 w'->Chs w1 w0 w' K sb rb ti tl n N a C L nx X/\w'.cell? ⟨w2.heap.size,2,none⟩=some (.int .i64 z2)):=Hd fun w' hb=>by
  refine ⟨?_,cell_lit ((hb.block _ (lt_of_heap b4.out)).trans b4.out) rfl⟩
  have h1:=(HS.out.2.1.below hb).mono (K':=K) fun k hk=>.inl (.inl hk)
  have h2:Kept K w4 w':=(HS.out.2.1.keep hb).mono fun k hk=>.inl (.inl hk)
  obtain ⟨S,o0,o1,x1,x2⟩:=h1
  refine ⟨S,o0,o1,⟨x1.1,?_⟩,x2⟩
  exact ((G2.out.kept.trans (G2.out.keep HB.out)).trans (HS.out.2.2.mono fun k hk=>.inl hk)).trans h2
 have CE:Hid (∀ i (hi:i<L.length),∃ g,va=some ⟨g,0,none⟩/\g<w4.heap.size/\w4.cell? ⟨g,i*3,none⟩=some (.string (lkey L[i].n))/\w4.cell? ⟨g,i*3+1,none⟩=some (.string L[i].id)/\w4.cell? ⟨g,i*3+2,none⟩=some (.int .i64 L[i].by)):=Hd fun i hi=>by
  have hr:=HS.out.1
  rcases hr.2 with ⟨e,h0⟩|⟨g,cap,cur,e,h1,h2,-⟩
  ·omega
  ·cases e
   obtain ⟨x,y,z⟩:=entC_get L i hi
   refine ⟨g,rfl,lt_of_heap h2,?_,?_,?_⟩
   ·rw [hr.cellAt (i*3) (by omega),x]
   ·rw [hr.cellAt (i*3+1) (by omega),y]
   ·rw [hr.cellAt (i*3+2) (by omega),z]
 have R0:Hid (Below w4.heap.size w4 w4):=Hd (Below.refl _ _)
 clear HS
 go_wp2_with fail
 go_loopg [11,13,38] L.length (fun g s11 s13 s38 wr=>∃ (i:Nat),g=L.length-i/\i<=L.length/\s38=.int .i64 (i:Int)/\s11=.int .i64 (pend (L.take i) id)/\Hid (Below w4.heap.size w4 wr))
 case atStart=>exact ⟨0,rfl,Nat.zero_le _,rfl,by simp [pend],R0⟩
 case round =>
  obtain ⟨i,rfl,hi,rfl,rfl,HR⟩:=hrel
  clear R0
  by_cases hlt:i<L.length
  ·obtain ⟨g,rfl,hg,c0,c1,c2⟩:=CE.out i hlt
   have hbl:=HR.out
   have d0:wr.cell? ⟨g,i*3,none⟩=some (.string (lkey L[i].n)):=(hbl.cell (p:=⟨g,i*3,none⟩) hg).trans c0
   have d1:wr.cell? ⟨g,i*3+1,none⟩=some (.string L[i].id):=(hbl.cell (p:=⟨g,i*3+1,none⟩) hg).trans c1
   have d2:wr.cell? ⟨g,i*3+2,none⟩=some (.int .i64 L[i].by):=(hbl.cell (p:=⟨g,i*3+2,none⟩) hg).trans c2
   have hp:pend (L.take (i+1)) id=pend (L.take i) id+if L[i].id=id then L[i].by else 0:=by
    rw [List.take_succ_eq_append_getElem hlt,pend_snoc]
   have hab:=pend_abs (L.take i) id
   have hby:-1<=L[i].by/\L[i].by<=1:=by unfold Lg.by;split <;> omega
   have hsm:i<=1000000:=by have:=HLL.out;omega
   rw [List.length_take] at hab
   have kw:IntKind.i64.wrap (pend (L.take i) id+L[i].by)=pend (L.take i) id+L[i].by:=wrap_sgn (by omega) (by omega)
   generalize L[i]=en at *
   have HLT:=Hd hlt
   have HBN:Hid (∀ o,Below w4.heap.size w4 (wr.alloc o)):=Hd fun o=>HR.out.alloc HR.out.size o
   clear c0 c1 c2 hbl hab hby hi
   by_cases he:en.id=id
   ·rw [if_pos he] at hp
    have q:(en.id.toList == id.toList)=true:=by rw [baK_eq];simp [he]
    have HP:=Hd hp
    clear hp he
    generalize en.id=xi at *
    generalize en.by=yi at *
    generalize pend (L.take i) id=pi at *
    generalize lkey en.n=ky at *
    clear hlt
    go_wp2_with fail
    go_roundg (L.length-(i+1))
    case measure=>have:=HLT.out;omega
    case rel=>exact ⟨i+1,rfl,HLT.out,by congr 1,by rw [HP.out],Hd (HBN.out _)⟩
   ·rw [if_neg he] at hp
    have q:(en.id.toList == id.toList)=false:=by rw [baK_eq];simp [he]
    have HP:=Hd hp
    clear hp he kw
    generalize en.id=xi at *
    generalize en.by=yi at *
    generalize pend (L.take i) id=pi at *
    generalize lkey en.n=ky at *
    clear hlt
    go_wp2_with fail
    go_roundg (L.length-(i+1))
    case measure=>have:=HLT.out;omega
    case rel=>exact ⟨i+1,rfl,HLT.out,by congr 1,by rw [HP.out,Int.add_zero],Hd (HBN.out _)⟩
  ·obtain rfl:i=L.length:=by omega
   obtain ⟨h1,h2⟩:=HEND.out _ HR.out
   have HE:=Hd h1
   rw [List.take_length]
   clear hlt hi h1
   go_wp2_with fail
   go_ret3
   exact ⟨rfl,HE⟩
end
theorem At_k (rb:Nat) (w:World):Calls Tryz.prog 15 #[.pointer (some ⟨rb,0,none⟩)] w fun e w'=>∃ sb ti tl,e=.returned (.pointer (some ⟨sb,0,none⟩))/\Hid (SBk w' sb rb ti tl/\Below w.heap.size w w'/\w.heap.size<=sb/\w.heap.size<=ti/\w.heap.size<=tl):=by
 have A0:=At_c rb 0 w
 have A1:=fun W=>At_c rb 1 W
 rw [show ((0:Nat):Int)=0 from rfl] at A0
 rw [show ((1:Nat):Int)=1 from rfl] at A1
 go_enter Tryz.func15,Tryz.ntmps15
 go_wp2_with fail
 refine A0.mono ?_
 rintro e w2 ⟨rfl,h2⟩
 go_wp2_with fail
 refine (A1 w2).mono ?_
 rintro e w3 ⟨rfl,h3⟩
 go_wp2_with fail
 have h4:∀ o,Below w3.heap.size w3 (w3.alloc o):=fun o=>(Below.refl _ _).alloc (Nat.le_refl _) o
 have HE:Hid (∀ o,TB (w3.alloc o) w.heap.size rb 0/\TB (w3.alloc o) w2.heap.size rb 1/\Below w.heap.size w (w3.alloc o)/\w.heap.size<=w3.heap.size/\w.heap.size<=w2.heap.size):=Hd fun o=>by
  have s2:=h2.out.2.size
  have s3:=h3.out.2.size
  exact ⟨(h2.out.1.below h3.out.2).below (h4 o),h3.out.1.below (h4 o),(h2.out.2.trans (h3.out.2.mono s2)).trans ((h4 o).mono (by omega)),by omega,s2⟩
 have HZ:Hid (w.heap.size<=w3.heap.size/\w.heap.size<=w2.heap.size):=Hd ⟨by have:=h2.out.2.size;have:=h3.out.2.size;omega,h2.out.2.size⟩
 clear h2 h3 h4 A0 A1
 go_ret
 exact ⟨_,_,_,rfl,Hd ⟨⟨heap_alloc_new _ _,(HE.out _).1,(HE.out _).2.1⟩,(HE.out _).2.2.1,HZ.out.1,Nat.le_refl _,HZ.out.2⟩⟩
theorem Chs.start {w1 wd we:World} {G:Nat->Prop} {rb n N sb ti tl:Nat} (h:NewRoom w1 wd G rb n) (h4:4<=n) (hN:24*N<=pagesN n) (hs:SBk we sb rb ti tl) (hb:Below wd.heap.size wd we) (hl:wd.heap.size<=sb/\wd.heap.size<=ti/\wd.heap.size<=tl) :
 Chs w1 we we (fun _=>False) sb rb ti tl n N 0 [] [] 0 []:=by
 have h0:=lt_of_heap hs.1
 have h1:=lt_of_heap hs.2.1
 have h2:=lt_of_heap hs.2.2
 refine ⟨_,none,none,⟨⟨((RSt.start h h4).below hb).1.mono fun k hk=>?_,hs⟩,fun _ _=>rfl⟩,⟨rfl,rfl,pigeon_spare n _ (by simpa using hN),Nat.zero_le _,Nat.zero_le _,fun x hx=>(by cases hx),List.nodup_nil,fun q hq=>(by cases hq)⟩,⟨rfl,fun c hc=>(by cases hc)⟩,⟨rfl,fun c hc=>(by cases hc)⟩,rfl,Nat.le_refl _⟩
 rcases hk with hk|rfl|rfl|rfl
 ·exact hk.elim
 all_goals exact .inr ⟨by omega,by omega⟩
def Ck.add (c:Ck) (d:Int):Ck:=⟨c.id,c.page,c.cnt+d,c.text⟩
def MgStep (C:List Ck) (e:Lg) (C':List Ck):Prop:=(cAt C e.id=none/\C'=C)\/∃ c,cAt C e.id=some c/\PutC (c.add e.by) C C'
inductive Mg (C:List Ck):List Lg->List Ck->Prop
 | nil:Mg C [] C
 | snoc {T:List Lg} {C1 C2:List Ck} {e:Lg}:Mg C T C1->MgStep C1 e C2->Mg C (T++[e]) C2
theorem PutC.mem {c:Ck} {C C':List Ck} (h:PutC c C C'):∀ d∈C',d=c\/d∈C:=by
 obtain ⟨A,B,rfl,h',-,-⟩:=h
 intro d hd
 simp only [List.mem_append,List.mem_cons] at hd
 rcases hd with hd|hd|hd
 ·rcases h' with rfl|⟨c0,-,rfl⟩ <;> simp [hd]
 ·exact .inl hd
 ·rcases h' with rfl|⟨c0,-,rfl⟩ <;> simp [hd]
theorem Ck.add_ok {c:Ck} {d:Int} (h:c.Ok) (h1:-1000000000<=c.cnt+d) (h2:c.cnt+d<=1000000000):(c.add d).Ok:=⟨h.id,h.page,h.t1,h.t2,h1,h2⟩
def Cnts (C:List Ck) (b:Int):Prop:=∀ c∈C,-b<=c.cnt/\c.cnt<=b
theorem MgStep.cnts {C C':List Ck} {e:Lg} {b:Int} (h:MgStep C e C') (hc:Cnts C b):Cnts C' (b+1):=by
 have hb:-1<=e.by/\e.by<=1:=by unfold Lg.by;split <;> omega
 rcases h with ⟨-,rfl⟩|⟨c,h1,h2⟩
 ·intro d hd;have:=hc d hd;omega
 ·intro d hd
  rcases h2.mem d hd with rfl|hd
  ·have:=hc c (cAt_some h1).1
   show -(b+1)<=c.cnt+e.by/\c.cnt+e.by<=b+1
   omega
  ·have:=hc d hd;omega
theorem Mg.cnts {C C':List Ck} {T:List Lg} {b:Int} (h:Mg C T C') (hc:Cnts C b):Cnts C' (b+T.length):=by
 induction h with
 | nil=>simpa using hc
 | snoc h1 h2 ih =>
   have:=h2.cnts ih
   rw [List.length_append,List.length_singleton]
   intro d hd
   have:=this d hd
   omega
theorem ChE.more {w1 wA w:World} {x:Nat} {er:Int} {K:Nat->Prop} {sb rb ti tl n N a a' nx:Nat} {C:List Ck} {L:List Lg} {X:List (Nat × ByteArray)} (h:ChE w1 wA x er w K sb rb ti tl n N a C L nx X) (ha:a<=a'):ChE w1 wA x er w K sb rb ti tl n N a' C L nx X:=by
 obtain ⟨S,o0,o1,h1,h2,h3,h4,h5,h6⟩:=h.st
 exact ⟨⟨S,o0,o1,⟨h1.1.more (by omega),h1.2⟩,h2.less (by omega) ha ha,h3,h4,h5,by omega⟩,h.kp,h.bx,h.lo,h.ne,h.nk⟩
section
variable (w1 w w0:World) (K:Nat->Prop) (sb rb ti tl n N a nx:Nat) (C:List Ck) (L:List Lg) (X:List (Nat × ByteArray))
theorem ChE.row {wb w4:World} {x:Nat} {v:Value} {T:List Lg} (h:ChE w1 w x 0 wb K sb rb ti tl n N a C L nx X) (hs:FirstEnd w1 wb w4 (fun k=>K k\/k=x) sb rb ti tl n N a C L nx X T v) :
 ChE w1 w4 x 0 w4 (fun k=>K k\/v.ownBlock=some k) sb rb ti tl n N a C L nx X:=by
 have bx:=(hs.2.2 x (.inr rfl)).trans h.bx
 refine ⟨hs.2.1.mono fun k hk=>?_,fun _ _=>rfl,bx,h.lo,h.ne,?_⟩
 ·rcases hk with (hk|hk)|hk
  ·exact .inl (.inl hk)
  ·exact .inr hk
  ·exact .inl (.inr hk)
 ·rintro (hk|hk)
  ·exact h.nk hk
  ·rcases hs.1.2 with ⟨rfl,-⟩|⟨g,cap,cur,rfl,h1,h2,-⟩
   ·cases hk
   ·have e:g=x:=by simpa [Value.ownBlock] using hk
    subst e
    rw [bx] at h2
    simp at h2
theorem Merge_k (lim:Int) (limit:Nat) (hmx:max lim 0=(limit:Int)) (hl2:limit<=9223372036854775807) (h:Hid (Chs w1 w0 w K sb rb ti tl n N a C L nx X)) (hN:a+2*L.length<=N/\N<=1000) (hB:Cnts C 1000000) :
 Calls Tryz.prog 20 #[.pointer (some ⟨sb,0,none⟩),.int .i64 lim] w fun e w'=>e=.returned (.tuple #[.int .i64 ((L.take limit).length:Int),.int .i64 0])/\Hid (∃ C',Mg C (L.take limit) C'/\Chs w1 w0 w' K sb rb ti tl n N (a+2*(L.take limit).length) C' (L.drop limit) nx X):=by
 obtain ⟨x,hx⟩:=exE (w.heap.size)
 obtain ⟨wb,hwb⟩:=exE (w.alloc (.cells #[.int .i64 0] 34))
 have E0:Hid (ChE w1 w x 0 wb K sb rb ti tl n N a C L nx X):=Hd (by subst hx hwb;exact ChE.start h.out)
 obtain ⟨k,MK⟩:=Mark_k w1 wb wb _ sb rb ti tl n N a nx C L X (Hd E0.out.st)
 have F:=first_k w1 wb wb _ sb rb ti tl n N a nx C L X limit (Hd E0.out.st) ⟨by omega,hN.2⟩ (by omega) hl2
 have HN:=Hd hN
 have HB:=Hd hB
 have HH:=Hd h.out
 obtain ⟨T,hT⟩:=exE (L.take limit)
 have HT:Hid (L.take limit=T):=Hd hT
 have HTL:Hid (T.length<=L.length/\L=T++L.drop limit):=Hd ⟨by rw [<-hT,List.length_take];omega,by rw [<-hT];exact (List.take_append_drop limit L).symm⟩
 have HOK:Hid (∀ e∈T,e.id.size=33):=Hd fun e he=>(h.out.ok.2.2.1 e (List.mem_of_mem_take (by rw [hT];exact he))).1.id
 rw [hT] at F ⊢
 clear h hN hB hl2 hT
 go_enter_defers Tryz.func20,Tryz.ntmps20
 go_wp2_with fail
 subst hx
 refine MK.mono ?_
 rintro e wm ⟨rfl,rfl⟩
 go_wp2_with fail
 refine F.mono ?_
 rintro e w4 ⟨v,rfl,HS⟩
 clear F MK
 obtain ⟨va,vc,hv⟩:∃ va vc,v=.slice va T.length vc:=by
  rcases HS.out.1.2 with ⟨rfl,h0⟩|⟨g,cap,cur,rfl,-⟩
  ·exact ⟨_,_,by rw [h0]⟩
  ·exact ⟨_,_,rfl⟩
 subst hv
 have E4:=Hd (ChE.row w1 w K sb rb ti tl n N a nx C L X E0.out HS.out)
 have hend:Hid (∀ w9 er a9 C9 L9 nx9 X9,ChE w1 w4 w.heap.size er w9 (fun k=>K k\/(Value.slice va T.length vc).ownBlock=some k) sb rb ti tl n N a9 C9 L9 nx9 X9->Chs w1 w0 w9 K sb rb ti tl n N a9 C9 L9 nx9 X9):=Hd fun w9 er a9 C9 L9 nx9 X9 h9=>by
  have h1:=h9.st.mono (K':=K) fun k hk=>.inl (.inl hk)
  refine h1.to ?_
  exact ((HH.out.kept.trans E0.out.kp).trans (HS.out.2.2.mono fun k hk=>.inl hk)).trans (h9.kp.mono fun k hk=>.inl hk)
 obtain ⟨cx,fx,lx⟩:=E4.out.cell
 have E5:=Hd (E4.out.set 0)
 have R0:Hid (∃ Ci,Mg C (T.take 0) Ci/\ChE w1 w4 w.heap.size 0 (w4.setCell ⟨w.heap.size,0,none⟩ (.int .i64 0)) (fun k=>K k\/(Value.slice va T.length vc).ownBlock=some k) sb rb ti tl n N (a+2*0) Ci (L.drop 0) nx X):=Hd ⟨C,by simpa using Mg.nil,by simpa using E5.out⟩
 have CE:Hid (∀ i (hi:i<T.length),∃ g,va=some ⟨g,0,none⟩/\∀ W,Kept (fun k=>K k\/(Value.slice va T.length vc).ownBlock=some k) w4 W->W.cell? ⟨g,i*3,none⟩=some (.string (lkey T[i].n))/\W.cell? ⟨g,i*3+1,none⟩=some (.string T[i].id)/\W.cell? ⟨g,i*3+2,none⟩=some (.int .i64 T[i].by)):=Hd fun i hi=>by
  have hr:=HS.out.1
  rcases hr.2 with ⟨e,h0⟩|⟨g,cap,cur,e,h1,h2,-⟩
  ·omega
  ·cases e
   obtain ⟨x,y,z⟩:=entC_get T i hi
   refine ⟨g,rfl,fun W hW=>?_⟩
   have hb:W.heap[g]?=w4.heap[g]?:=hW g (.inr rfl)
   have q:∀ j v,w4.cell? ⟨g,j,none⟩=some v->W.cell? ⟨g,j,none⟩=some v:=fun j v hv=>(World.cell?_of_block hb).trans hv
   refine ⟨q _ _ ?_,q _ _ ?_,q _ _ ?_⟩
   ·rw [hr.cellAt (i*3) (by omega),x]
   ·rw [hr.cellAt (i*3+1) (by omega),y]
   ·rw [hr.cellAt (i*3+2) (by omega),z]
 clear HS E4 E5
 go_wp2_with fail
 go_loopg [8,9,10,11,12,13,14,30] T.length (fun g s8 s9 s10 s11 s12 s13 s14 s30 wr=>∃ (i:Nat),g=T.length-i/\i<=T.length/\s30=.int .i64 (i:Int)/\Hid (∃ Ci,Mg C (T.take i) Ci/\ChE w1 w4 w.heap.size 0 wr (fun k=>K k\/(Value.slice va T.length vc).ownBlock=some k) sb rb ti tl n N (a+2*i) Ci (L.drop i) nx X))
 case atStart=>exact ⟨0,rfl,Nat.zero_le _,rfl,R0⟩
 case round =>
  obtain ⟨i,rfl,hi,rfl,HR⟩:=hrel
  clear R0 cx fx lx
  by_cases hlt:i<T.length
  ·obtain ⟨g,rfl,hcell⟩:=CE.out i hlt
   obtain ⟨Ci,hm,ER⟩:=HR.out
   obtain ⟨c0,c1,c2⟩:=hcell wr ER.kp
   obtain ⟨LD,hLD⟩:=exE (L.drop (i+1))
   have hdrop:L.drop i=T[i]::LD:=by
    rw [<-hLD]
    have h1:i<L.length:=by have:=HTL.out.1;omega
    rw [List.drop_eq_getElem_cons h1]
    congr 1
    have h2:=HTL.out.2
    have:L[i]?=T[i]?:=by
     conv=>lhs;rw [h2]
     exact List.getElem?_append_left hlt
    rw [List.getElem?_eq_getElem h1,List.getElem?_eq_getElem hlt] at this
    exact Option.some.inj this
   have hid:=HOK.out T[i] (List.getElem_mem hlt)
   have htk:T.take (i+1)=T.take i++[T[i]]:=by rw [List.take_succ_eq_append_getElem hlt]
   have hcnt:=hm.cnts HB.out
   have htl:(T.take i).length<=1000:=by have:=HTL.out.1;have:=HN.out;rw [List.length_take];omega
   have hby:-1<=T[i].by/\T[i].by<=1:=by unfold Lg.by;split <;> omega
   generalize T[i]=en at *
   rw [hdrop] at ER
   have HLT:=Hd hlt
   have hsm:i<=1000000:=by have:=HTL.out.1;have:=HN.out;omega
   have hiN:a+2*i+2<=N:=by have:=HTL.out.1;have:=HN.out;omega
   have HIN:=Hd hiN
   have E6:=Hd (ER.new (.cells #[.string (lkey en.n),.string en.id,.int .i64 en.by] 146))
   have HM:Hid (∀ C2,MgStep Ci en C2->Mg C (T.take (i+1)) C2):=Hd fun C2 h2=>by rw [htk];exact Mg.snoc hm h2
   have HNX:Hid (∀ W C2,MgStep Ci en C2->ChE w1 (wr.alloc (.cells #[.string (lkey en.n),.string en.id,.int .i64 en.by] 146)) w.heap.size 0 W (fun k=>(K k\/(Value.slice (some ⟨g,0,none⟩) T.length vc).ownBlock=some k)\/k=wr.heap.size) sb rb ti tl n N (a+2*i+2) C2 LD nx X->∃ Ci,Mg C (T.take (i+1)) Ci/\ChE w1 w4 w.heap.size 0 W (fun k=>K k\/(Value.slice (some ⟨g,0,none⟩) T.length vc).ownBlock=some k) sb rb ti tl n N (a+2*(i+1)) Ci (L.drop (i+1)) nx X):=Hd fun W C2 hs h9=>⟨C2,HM.out C2 hs,by rw [hLD];exact ER.old h9⟩
   have blk:Hid ((wr.alloc (.cells #[.string (lkey en.n),.string en.id,.int .i64 en.by] 146)).heap[wr.heap.size]?=some (.cells #[.string (lkey en.n),.string en.id,.int .i64 en.by] 146 (0,0))):=Hd (heap_alloc_new _ _)
   have CY:Hid (∀ W C2 L2 a2,ChE w1 (wr.alloc (.cells #[.string (lkey en.n),.string en.id,.int .i64 en.by] 146)) w.heap.size 0 W (fun k=>(K k\/(Value.slice (some ⟨g,0,none⟩) T.length vc).ownBlock=some k)\/k=wr.heap.size) sb rb ti tl n N a2 C2 L2 nx X->(W.cell? ⟨sb,2,none⟩=some (.pointer (some ⟨tl,0,none⟩))/\W.cell? ⟨wr.heap.size,0,none⟩=some (.string (lkey en.n)))/\W.cell? ⟨wr.heap.size,1,none⟩=some (.string en.id)/\W.cell? ⟨wr.heap.size,2,none⟩=some (.int .i64 en.by)/\wr.heap.size<W.heap.size/\sb<W.heap.size):=Hd fun W C2 L2 a2 h9=>by
    have hb:=(h9.kp wr.heap.size (.inr rfl)).trans blk.out
    exact ⟨⟨h9.st.sbk.cells.2.2,cell_lit hb rfl⟩,cell_lit hb rfl,cell_lit hb rfl,lt_of_heap hb,lt_of_heap h9.st.sbk.1⟩
   have DL:Hid (∀ W C2 a2,a2<=a+2*i+1->Hid (ChE w1 (wr.alloc (.cells #[.string (lkey en.n),.string en.id,.int .i64 en.by] 146)) w.heap.size 0 W (fun k=>(K k\/(Value.slice (some ⟨g,0,none⟩) T.length vc).ownBlock=some k)\/k=wr.heap.size) sb rb ti tl n N a2 C2 (en::LD) nx X)->Calls Tryz.prog 74 #[.pointer (some ⟨tl,0,none⟩),.string (lkey en.n)] W fun e w'=>e=.returned (.tuple #[.bool true,.int .i64 0])/\(w'.cell? ⟨sb,2,none⟩=some (.pointer (some ⟨tl,0,none⟩))/\w'.cell? ⟨wr.heap.size,0,none⟩=some (.string (lkey en.n)))/\Hid (ChE w1 (wr.alloc (.cells #[.string (lkey en.n),.string en.id,.int .i64 en.by] 146)) w.heap.size 0 w' (fun k=>(K k\/(Value.slice (some ⟨g,0,none⟩) T.length vc).ownBlock=some k)\/k=wr.heap.size) sb rb ti tl n N (a+2*i+2) C2 LD nx X)):=Hd fun W C2 a2 ha hW=>by
    refine (log_del en (Hd hW.out.st) (by have:=HIN.out;have:=HN.out;omega)).mono ?_
    rintro e w' ⟨rfl,hE⟩
    have h9:=(hW.out.step hE.out).more (a':=a+2*i+2) (by omega)
    exact ⟨rfl,(CY.out _ _ _ _ h9).1,Hd h9⟩
   cases hf:cAt Ci en.id with
   | none =>
     have FN:=find_no en.id (Hd E6.out.st) (by have:=HN.out;omega) (by omega) hf
     rw [show ck0=.agg #[.int .i64 0,.int .i64 0,.int .i64 0] from rfl] at FN
     have HS0:Hid (MgStep Ci en Ci):=Hd (.inl ⟨hf,rfl⟩)
     have HF:=Hd hf
     clear hf hcnt htl hby hiN hm ER hcell hdrop htk hid hi hLD
     generalize en.id=id at *
     generalize en.by=by_ at *
     generalize lkey en.n=ky at *
     clear hlt
     go_wp2_with fail
     refine FN.mono ?_
     rintro e w6 ⟨rfl,G6⟩
     have E7:=Hd (E6.out.step G6.out)
     obtain ⟨⟨d0,d1⟩,d2,d3,d4,d5⟩:=CY.out _ _ _ _ E7.out
     have E8:Hid (∀ o,ChE w1 _ w.heap.size 0 (w6.alloc o).drew _ sb rb ti tl n N (a+2*i) Ci (en::LD) nx X):=Hd fun o=>E7.out.below ((Below.refl w6.heap.size w6).alloc (Nat.le_refl _) o).drew
     clear FN G6
     go_wp2_with fail
     go_region_held3 (fun w'=>w'.cell? ⟨sb,2,none⟩=some (.pointer (some ⟨tl,0,none⟩))/\w'.cell? ⟨wr.heap.size,0,none⟩=some (.string ky)) (go_keep) ((first
      | (go_at_call 74
         refine Calls.at_args (DL.out _ Ci (a+2*i) (by omega) (Hd (E8.out _))) (by with_reducible rfl) ?_
         rintro e w9 ⟨rfl,hk9,H9⟩)))
     all_goals go_wp2_with fail
     all_goals go_roundg (T.length-(i+1))
     all_goals (first
      | (case measure=>have:=HLT.out;omega)
      | (case rel=>exact ⟨i+1,rfl,HLT.out,by congr 1,Hd (HNX.out _ _ HS0.out H9.out)⟩))
   | some c =>
     obtain ⟨hmem,hcid⟩:=cAt_some hf
     have hok:=E6.out.st.ok.1 c hmem
     have hcb:=hcnt c hmem
     have FY:=find_yes en.id c (Hd E6.out.st) (by have:=HN.out;omega) (by omega) hf
     rw [show c.v=.agg #[.int .i64 (c.page:Int),.int .i64 (c.text.size:Int),.int .i64 c.cnt] from rfl] at FY
     have KP:Hid (∀ W,Hid (ChE w1 (wr.alloc (.cells #[.string (lkey en.n),.string en.id,.int .i64 en.by] 146)) w.heap.size 0 W (fun k=>(K k\/(Value.slice (some ⟨g,0,none⟩) T.length vc).ownBlock=some k)\/k=wr.heap.size) sb rb ti tl n N (a+2*i) Ci (en::LD) nx X)->Calls Tryz.prog 68 #[.pointer (some ⟨sb,0,none⟩),.string en.id,.agg #[.int .i64 (c.page:Int),.int .i64 (c.text.size:Int),.int .i64 (c.cnt+en.by)]] W fun e w'=>e=.returned (.int .i64 0)/\Hid (∃ C2,MgStep Ci en C2/\ChE w1 (wr.alloc (.cells #[.string (lkey en.n),.string en.id,.int .i64 en.by] 146)) w.heap.size 0 w' (fun k=>(K k\/(Value.slice (some ⟨g,0,none⟩) T.length vc).ownBlock=some k)\/k=wr.heap.size) sb rb ti tl n N (a+2*i+1) C2 (en::LD) nx X)):=Hd fun W hW=>by
      have hk:=keep_k w1 W W _ sb rb ti tl n N (a+2*i) nx Ci (en::LD) X (c.add en.by) (Ck.add_ok hok (by omega) (by omega)) (Hd hW.out.st) (by have:=HIN.out;have:=HN.out;omega)
      rw [show (c.add en.by).id=en.id from hcid] at hk
      refine hk.mono ?_
      rintro e w' ⟨rfl,hE⟩
      obtain ⟨C2,h1,h2⟩:=hE.out
      exact ⟨rfl,Hd ⟨C2,.inr ⟨c,hf,h2⟩,hW.out.step h1⟩⟩
     have kw:IntKind.i64.wrap (c.cnt+en.by)=c.cnt+en.by:=wrap_sgn (by omega) (by omega)
     clear hf hcnt htl hby hiN hm ER hcell hdrop htk hid hi hLD hmem hok hcb hcid
     generalize c.page=z0 at *
     generalize (c.text.size:Int)=z1 at *
     generalize c.cnt=z2 at *
     generalize en.id=id at *
     generalize en.by=by_ at *
     generalize lkey en.n=ky at *
     clear hlt
     go_wp2_with fail
     refine FY.mono ?_
     rintro e w6 ⟨rfl,G6⟩
     have E7:=Hd (E6.out.step G6.out)
     obtain ⟨⟨d0,d1⟩,d2,d3,d4,d5⟩:=CY.out _ _ _ _ E7.out
     have E8:Hid (∀ o,ChE w1 _ w.heap.size 0 (w6.alloc o) _ sb rb ti tl n N (a+2*i) Ci (en::LD) nx X):=Hd fun o=>E7.out.below ((Below.refl w6.heap.size w6).alloc (Nat.le_refl _) o)
     clear FY G6
     go_wp2_with fail
     refine (KP.out _ (Hd (E8.out _))).mono ?_
     rintro e w7 ⟨rfl,H7⟩
     obtain ⟨C2,HS2,H8⟩:=H7.out
     have HS3:=Hd HS2
     have H9:=Hd H8
     have H10:=Hd (H8.below (Below.refl w7.heap.size w7).drew)
     clear HS2 d0 d1 d2 d3 d4 d5
     obtain ⟨⟨d0,d1⟩,d2,d3,d4,d5⟩:=CY.out _ _ _ _ H8
     clear H8 KP E8
     go_wp2_with fail
     go_region_held3 (fun w'=>w'.cell? ⟨sb,2,none⟩=some (.pointer (some ⟨tl,0,none⟩))/\w'.cell? ⟨wr.heap.size,0,none⟩=some (.string ky)) (go_keep) ((first
      | (go_at_call 74
         refine Calls.at_args (DL.out _ C2 (a+2*i+1) (Nat.le_refl _) H10) (by with_reducible rfl) ?_
         rintro e w9 ⟨rfl,hk9,H11⟩)))
     all_goals go_wp2_with fail
     all_goals go_roundg (T.length-(i+1))
     all_goals (first
      | (case measure=>have:=HLT.out;omega)
      | (case rel=>exact ⟨i+1,rfl,HLT.out,by congr 1,Hd (HNX.out _ _ HS3.out H11.out)⟩))
  ·obtain rfl:i=T.length:=by omega
   obtain ⟨Ci,hm,hE⟩:=HR.out
   rw [List.take_length] at hm
   have hE8:=Hd (hE.set 0)
   have hfin:=hE8.out.cell.1
   obtain ⟨cx,fx,lx⟩:=hE.cell
   have HD:Hid (L.drop T.length=L.drop limit):=Hd (by
    have h1:=HTL.out.2
    rw [<-HT.out,List.length_take]
    by_cases hc:limit<=L.length
    ·rw [Nat.min_eq_left hc]
    ·rw [Nat.min_eq_right (by omega),List.drop_length,List.drop_eq_nil_of_le (by omega)])
   have HG:Hid (∃ C',Mg C T C'/\Chs w1 w0 (wr.setCell ⟨w.heap.size,0,none⟩ (.int .i64 0)) K sb rb ti tl n N (a+2*T.length) C' (L.drop limit) nx X):=Hd ⟨Ci,hm,by rw [<-HD.out];exact hend.out _ _ _ _ _ _ _ hE8.out⟩
   clear hlt hi hm hE
   go_wp2_with fail
   refine leaves_cons (f:=60) (args:=#[.pointer (some ⟨sb,0,none⟩),.int .i64 (k:Int),.pointer (some ⟨w.heap.size,0,none⟩)]) (by simp) (by simp [go_sem]) ?_
   refine (undo_d _ _ _ _ _ hfin).mono ?_
   rintro e u' w9 ⟨rfl,rfl,rfl⟩
   simp [Leaves,settle,results,Tryz.results20,go_sem,hfin]
   exact HG.out
end
set_option maxHeartbeats 1000000
theorem less_catK (p a b:List UInt8):Op.bytesLess (p++a) (p++b)=Op.bytesLess a b:=by
 induction p with
 | nil=>rfl
 | cons c p ih =>
   show (decide (c<c) || (c == c && Op.bytesLess (p++a) (p++b)))=_
   rw [ih];simp
theorem kless_name (p:ByteArray) {j k:Nat} (hj:j<256) (hk:k<256):kless (nameB p j) (nameB p k)=decide (j<k):=by
 unfold kless
 rw [Lib.toList_data,Lib.toList_data,nameB_data,nameB_data,less_catK]
 show (decide (UInt8.ofNat j<UInt8.ofNat k) || (UInt8.ofNat j == UInt8.ofNat k && false))=_
 rw [Bool.and_false,Bool.or_false]
 apply decide_eq_decide.2
 rw [UInt8.lt_iff_toNat_lt,UInt8.toNat_ofNat',UInt8.toNat_ofNat']
 omega
theorem kless_ff (p:ByteArray) (j:Nat):kless (nameB p j) (p++ffB)=true:=by
 unfold kless
 rw [Lib.toList_data,Lib.toList_data,nameB_data,show (p++ffB).data.toList=p.data.toList++[255,255] by simp [ffB],less_catK]
 show (decide (UInt8.ofNat j<255) || (UInt8.ofNat j == 255 && true))=true
 generalize UInt8.ofNat j=x
 by_cases h:x<255
 ·simp [h]
 ·have:x=255:=by
   apply UInt8.toNat_inj.1
   rw [UInt8.lt_iff_toNat_lt] at h
   have:=x.toNat_lt
   have e:(255:UInt8).toNat=255:=rfl
   omega
  subst this;rfl
theorem NoC.none {C:List Ck} {p:ByteArray} {k:Nat} (h:NoC C (nameB p k) (p++ffB)) (hk:k<256) (j:Nat) (h1:k<=j) (h2:j<256):cAt C (nameB p j)=none :=
 cAt_no fun c hc e=>by
  have:=h c hc (by rw [e,kless_name p h2 hk];simp;omega)
  rw [e,kless_ff] at this
  cases this
theorem names_len {C:List Ck} {p:ByteArray} {k:Nat} (hk:k<=256) (h:∀ j,j<k->cAt C (nameB p j)≠none):k<=C.length:=by
 refine Nat.le_of_not_lt fun hlt=>?_
 obtain ⟨q,q1,q2⟩:=pigeon k (C.map fun c=>(c.id.data.toList.getLast?.getD 0).toNat) (by rw [List.length_map];exact hlt)
 cases hf:cAt C (nameB p q) with
 | none=>exact h q q1 hf
 | some c =>
   obtain ⟨h1,h2⟩:=cAt_some hf
   refine q2 (List.mem_map.2 ⟨c,h1,?_⟩)
   rw [h2,nameB_data]
   simp
   omega
def NoHit (C:List Ck) (p t:ByteArray) (i:Nat):Prop:=∀ j,j<i->∀ c,cAt C (nameB p j)=some c->c.text≠t
def FreeAt (C:List Ck) (p:ByteArray) (i:Nat) (f:Int):Prop:=(f=-1/\∀ j,j<i->cAt C (nameB p j)≠none)\/∃ k:Nat,f=(k:Int)/\k<i/\cAt C (nameB p k)=none/\∀ j,j<k->cAt C (nameB p j)≠none
theorem FreeAt.zero (C:List Ck) (p:ByteArray):FreeAt C p 0 (-1):=.inl ⟨rfl,fun j hj=>absurd hj (by omega)⟩
theorem FreeAt.yes {C:List Ck} {p:ByteArray} {i:Nat} {f:Int} {c:Ck} (h:FreeAt C p i f) (hc:cAt C (nameB p i)=some c):FreeAt C p (i+1) f:=by
 rcases h with ⟨h1,h2⟩|⟨k,h1,h2,h3⟩
 ·refine .inl ⟨h1,fun j hj=>?_⟩
  by_cases e:j=i
  ·subst e;rw [hc];simp
  ·exact h2 j (by omega)
 ·exact .inr ⟨k,h1,by omega,h3⟩
theorem FreeAt.no {C:List Ck} {p:ByteArray} {i:Nat} {f:Int} (h:FreeAt C p i f) (hc:cAt C (nameB p i)=none) (hf:f<0):FreeAt C p (i+1) (i:Int):=by
 rcases h with ⟨h1,h2⟩|⟨k,h1,h2,h3⟩
 ·exact .inr ⟨i,rfl,by omega,hc,h2⟩
 ·omega
theorem FreeAt.no' {C:List Ck} {p:ByteArray} {i:Nat} {f:Int} (h:FreeAt C p i f) (hf:¬f<0):FreeAt C p (i+1) f:=by
 rcases h with ⟨h1,h2⟩|⟨k,h1,h2,h3⟩
 ·omega
 ·exact .inr ⟨k,h1,by omega,h3⟩
theorem FreeAt.fin {C:List Ck} {p:ByteArray} {f:Int} (h:FreeAt C p 256 f) (hC:C.length<256):∃ k:Nat,f=(k:Int)/\k<256/\cAt C (nameB p k)=none/\∀ j,j<k->cAt C (nameB p j)≠none:=by
 rcases h with ⟨h1,h2⟩|⟨k,h1,h2,h3⟩
 ·have:=names_len (by omega) h2;omega
 ·exact ⟨k,h1,h2,h3⟩
theorem FreeAt.pos {C:List Ck} {p:ByteArray} {f:Int} {i:Nat} (h:FreeAt C p i f) (hi:i<=256) (hf:¬f<0):∃ k:Nat,f=(k:Int)/\k<256/\cAt C (nameB p k)=none/\∀ j,j<k->cAt C (nameB p j)≠none:=by
 rcases h with ⟨h1,h2⟩|⟨k,h1,h2,h3⟩
 ·omega
 ·exact ⟨k,h1,by omega,h3⟩
theorem NoHit.zero (C:List Ck) (p t:ByteArray):NoHit C p t 0:=fun j hj=>absurd hj (by omega)
theorem NoHit.yes {C:List Ck} {p t:ByteArray} {i:Nat} {c:Ck} (h:NoHit C p t i) (hc:cAt C (nameB p i)=some c) (ht:c.text≠t):NoHit C p t (i+1):=fun j hj d hd=>by
 by_cases e:j=i
 ·subst e;rw [hc] at hd;cases hd;exact ht
 ·exact h j (by omega) d hd
theorem NoHit.no {C:List Ck} {p t:ByteArray} {i:Nat} (h:NoHit C p t i) (hc:cAt C (nameB p i)=none):NoHit C p t (i+1):=fun j hj d hd=>by
 by_cases e:j=i
 ·subst e;rw [hc] at hd;cases hd
 ·exact h j (by omega) d hd
theorem NoHit.all {C:List Ck} {p t:ByteArray} {i:Nat} (h:NoHit C p t i) (hi:i<256) (hn:NoC C (nameB p i) (p++ffB)):NoHit C p t 256:=fun j hj d hd=>by
 by_cases e:j<i
 ·exact h j e d hd
 ·rw [hn.none hi j (by omega) hj] at hd;cases hd
def PutRes (w1 w0 w:World) (K:Nat->Prop) (sb rb ti tl n N a:Nat) (C:List Ck) (L:List Lg) (nx:Nat) (X:List (Nat × ByteArray)) (p t:ByteArray) (id:ByteArray) (fresh:Bool):Prop :=
 (fresh=false/\∃ k c,k<256/\id=nameB p k/\cAt C id=some c/\c.text=t/\NoHit C p t k/\Chs w1 w0 w K sb rb ti tl n N a C L nx X) \/
 (fresh=true/\∃ k page C',k<256/\id=nameB p k/\cAt C id=none/\(∀ j,j<k->cAt C (nameB p j)≠none)/\NoHit C p t 256/\PutC ⟨id,page,0,t⟩ C C'/\Chs w1 w0 w K sb rb ti tl n N (a+2) C' L nx ((page,t)::X))
set_option maxHeartbeats 4000000
section
variable (w1 w w0:World) (K:Nat->Prop) (sb rb ti tl n N a nx:Nat) (C:List Ck) (L:List Lg) (X:List (Nat × ByteArray))
theorem Put_k (t:ByteArray) (h:Hid (Chs w1 w0 w K sb rb ti tl n N a C L nx X)) (hN:a+2<=N/\N<=1000) (ht1:1<=t.size) (ht2:t.size<=128) (hC:C.length<=250) (hX:∀ c∈C,(c.page,c.text)∈X) :
 Calls Tryz.prog 18 #[.pointer (some ⟨sb,0,none⟩),.string t] w fun e w'=>∃ id fresh,e=.returned (.tuple #[.string id,.bool fresh,.int .i64 0])/\Hid (PutRes w1 w0 w' K sb rb ti tl n N a C L nx X (prB t) t id fresh):=by
 obtain ⟨x,hx⟩:=exE (w.heap.size)
 obtain ⟨wb,hwb⟩:=exE (w.alloc (.cells #[.int .i64 0] 34))
 have HOK:=Hd h.out.ok.1
 have E0:Hid (ChE w1 w x 0 wb K sb rb ti tl n N a C L nx X):=Hd (by subst hx hwb;exact ChE.start h.out)
 obtain ⟨k,MK⟩:=Mark_k w1 wb wb _ sb rb ti tl n N a nx C L X (Hd E0.out.st)
 have F0:=find_no ⟨#[]⟩ (Hd E0.out.st) ⟨by omega,hN.2⟩ (by decide) (cAt_no fun c hc e=>by have:=(HOK.out c hc).id;rw [e] at this;cases this)
 rw [show ck0=.agg #[.int .i64 0,.int .i64 0,.int .i64 0] from rfl] at F0
 have PR:=fun W=>Print_c t W (by omega)
 obtain ⟨p,hp⟩:=exE (prB t)
 have hps:p.size=32:=by rw [<-hp];exact prB_size t
 have HSZ:Hid (∀ k,(nameB p k).size=33):=Hd fun k=>by rw [nameB_size,hps]
 rw [hp] at PR ⊢
 have NM:Hid (∀ W (k:Nat),k<256->Calls Tryz.prog 64 #[.string p,.int .i64 (k:Int)] W fun e w'=>e=.returned (.string (nameB p k))/\Hid (Below W.heap.size W w')):=Hd fun W k hk=>name_c p k W (by omega) hk
 have FN:Hid (∀ W (s:ByteArray),s.size=33->cAt C s=none->Hid (ChE w1 w x 0 W K sb rb ti tl n N a C L nx X)->Calls Tryz.prog 62 #[.pointer (some ⟨sb,0,none⟩),.string s] W fun e w'=>e=.returned (.tuple #[.agg #[.int .i64 0,.int .i64 0,.int .i64 0],.bool false,.int .i64 0])/\Hid (ChE w1 w x 0 w' K sb rb ti tl n N a C L nx X)):=Hd fun W s hs hc hW=>by
  refine (find_no s (Hd hW.out.st) ⟨by omega,hN.2⟩ (by omega) hc).mono ?_
  rintro e w' ⟨rfl,hE⟩
  exact ⟨rfl,Hd (hW.out.step hE.out)⟩
 have FY:Hid (∀ W (s:ByteArray) (c:Ck),s.size=33->cAt C s=some c->Hid (ChE w1 w x 0 W K sb rb ti tl n N a C L nx X)->Calls Tryz.prog 62 #[.pointer (some ⟨sb,0,none⟩),.string s] W fun e w'=>e=.returned (.tuple #[.agg #[.int .i64 (c.page:Int),.int .i64 (c.text.size:Int),.int .i64 c.cnt],.bool true,.int .i64 0])/\Hid (ChE w1 w x 0 w' K sb rb ti tl n N a C L nx X)):=Hd fun W s c hs hc hW=>by
  refine (find_yes s c (Hd hW.out.st) ⟨by omega,hN.2⟩ (by omega) hc).mono ?_
  rintro e w' ⟨rfl,hE⟩
  exact ⟨rfl,Hd (hW.out.step hE.out)⟩
 have LS:Hid (∀ W (k:Nat),k<256->Hid (ChE w1 w x 0 W K sb rb ti tl n N a C L nx X)->Calls Tryz.prog 65 #[.pointer (some ⟨sb,0,none⟩),.string p,.int .i64 (k:Int)] W fun e w'=>∃ b:Bool,e=.returned (.tuple #[.bool b,.int .i64 0])/\(b=true ↔ NoC C (nameB p k) (p++ffB))/\Hid (ChE w1 w x 0 w' K sb rb ti tl n N a C L nx X)):=Hd fun W k hk hW=>by
  refine (last_k w1 W W _ sb rb ti tl n N a nx C L X p k (by omega) hk (Hd hW.out.st) ⟨by omega,hN.2⟩ (by omega)).mono ?_
  rintro e w' ⟨b,rfl,hb,hE⟩
  exact ⟨b,rfl,hb,Hd (hW.out.step hE.out)⟩
 have BG:Hid (∀ W WA g (c:Ck),c∈C->Hid (ChE w1 WA x 0 W (fun k=>K k\/k=g) sb rb ti tl n N a C L nx X)->WA.cell? ⟨g,0,none⟩=some (.int .i64 (c.page:Int))->Calls Tryz.prog 66 #[.pointer (some ⟨rb,0,none⟩),.int .i64 (c.page:Int)] W fun e w'=>e=.returned (.tuple #[.string c.text,.int .i64 0])/\(w'.cell? ⟨sb,0,none⟩=some (.pointer (some ⟨rb,0,none⟩))/\w'.cell? ⟨g,0,none⟩=some (.int .i64 (c.page:Int)))/\Hid (ChE w1 WA x 0 w' (fun k=>K k\/k=g) sb rb ti tl n N a C L nx X)):=Hd fun W WA g c hc hW hg=>by
  refine (blob_get w1 W W _ sb rb ti tl n N a nx C L X c.page c.text (hX c hc) (HOK.out c hc).t2 (Hd hW.out.st) ⟨by omega,hN.2⟩).mono ?_
  rintro e w' ⟨rfl,hE⟩
  have hs:=hW.out.step hE.out
  exact ⟨rfl,⟨hs.st.sbk.cells.1,(World.cell?_of_block (hs.kp g (.inr rfl))).trans hg⟩,Hd hs⟩
 have BP:Hid (∀ W,Hid (ChE w1 w x 0 W K sb rb ti tl n N a C L nx X)->Calls Tryz.prog 67 #[.pointer (some ⟨rb,0,none⟩),.string t] W fun e w'=>∃ page:Nat,e=.returned (.tuple #[.int .i64 (page:Int),.int .i64 0])/\Hid (page<65536/\ChE w1 w x 0 w' K sb rb ti tl n N (a+1) C L nx ((page,t)::X))):=Hd fun W hW=>by
  refine (blob_put w1 W W _ sb rb ti tl n N a nx C L X t ht2 (Hd hW.out.st) ⟨by omega,hN.2⟩).mono ?_
  rintro e w' ⟨page,rfl,hE⟩
  exact ⟨page,rfl,Hd ⟨hE.out.1,hW.out.step hE.out.2⟩⟩
 have KP:Hid (∀ W (page:Nat) (s:ByteArray),page<65536->s.size=33->Hid (ChE w1 w x 0 W K sb rb ti tl n N (a+1) C L nx ((page,t)::X))->Calls Tryz.prog 68 #[.pointer (some ⟨sb,0,none⟩),.string s,.agg #[.int .i64 (page:Int),.int .i64 (t.size:Int),.int .i64 0]] W fun e w'=>e=.returned (.int .i64 0)/\Hid (∃ C',PutC ⟨s,page,0,t⟩ C C'/\ChE w1 w x 0 w' K sb rb ti tl n N (a+2) C' L nx ((page,t)::X))):=Hd fun W page s hpg hs hW=>by
  refine (keep_k w1 W W _ sb rb ti tl n N (a+1) nx C L ((page,t)::X) ⟨s,page,0,t⟩ ⟨hs,hpg,ht1,ht2,by show (-1000000000:Int)<=0;decide,by show (0:Int)<=1000000000;decide⟩ (Hd hW.out.st) ⟨by omega,hN.2⟩).mono ?_
  rintro e w' ⟨rfl,hE⟩
  obtain ⟨C',h1,h2⟩:=hE.out
  exact ⟨rfl,Hd ⟨C',h2,hW.out.step h1⟩⟩
 have HH:=Hd h.out
 have k1:((t.size:Int)<1)=False:=by simp;omega
 have k2:((128:Int)<t.size)=False:=by simp;omega
 have HCL:Hid (C.length<256):=Hd (by omega)
 clear h hN ht1 ht2 hC hX hp hps
 go_enter_defers Tryz.func18,Tryz.ntmps18
 go_wp2_with fail
 subst hx
 refine MK.mono ?_
 rintro e wm ⟨rfl,rfl⟩
 go_wp2_with fail
 refine F0.mono ?_
 rintro e w2 ⟨rfl,G2⟩
 have E2:=Hd (E0.out.step G2.out)
 have E3:Hid (∀ o,ChE w1 w w.heap.size 0 (w2.alloc o) K sb rb ti tl n N a C L nx X):=Hd fun o=>E2.out.below ((Below.refl _ _).alloc (Nat.le_refl _) o)
 clear F0 MK G2
 go_wp2_with fail
 refine (PR _).mono ?_
 rintro e w3 ⟨rfl,hb3⟩
 have R0:Hid (FreeAt C p 0 (-1)/\NoHit C p t 0/\ChE w1 w w.heap.size 0 w3 K sb rb ti tl n N a C L nx X):=Hd ⟨FreeAt.zero C p,NoHit.zero C p t,(E3.out _).below hb3.out⟩
 clear E2 E3 hb3 PR k1 k2
 go_wp2_with fail
 go_loopg [11,12,13,14,15,16,17,18,43,55,59,94,98] 256 (fun g s11 s12 s13 s14 s15 s16 s17 s18 s43 s55 s59 s94 s98 wr=>∃ (i:Nat) (f:Int),g=256-i/\i<=256/\s43=.int .i64 (i:Int)/\s11=.int .i64 f/\Hid (FreeAt C p i f/\NoHit C p t i/\ChE w1 w w.heap.size 0 wr K sb rb ti tl n N a C L nx X))
 case atStart=>exact ⟨0,-1,rfl,Nat.zero_le _,rfl,rfl,R0⟩
 case round =>
  obtain ⟨i,f,rfl,hi,rfl,rfl,HR⟩:=hrel
  clear R0
  have HE:=Hd HR.out.2.2
  have HFA:=Hd (And.intro HR.out.1 HR.out.2.1)
  clear HR
  by_cases hlt:i<256
  ·have NMi:=NM.out wr i hlt
   have hsz:=HSZ.out i
   have LSi:Hid (∀ W,Hid (ChE w1 w w.heap.size 0 W K sb rb ti tl n N a C L nx X)->Calls Tryz.prog 65 #[.pointer (some ⟨sb,0,none⟩),.string p,.int .i64 (i:Int)] W fun e w'=>∃ b:Bool,e=.returned (.tuple #[.bool b,.int .i64 0])/\(b=true ↔ NoC C (nameB p i) (p++ffB))/\Hid (ChE w1 w w.heap.size 0 w' K sb rb ti tl n N a C L nx X)):=Hd fun W hW=>LS.out W i hlt hW
   have HLT:=Hd hlt
   have hltI:(i:Int)<256:=by omega
   cases hf:cAt C (nameB p i) with
   | none =>
     have FNi:=fun W=>FN.out W _ hsz hf
     have HF:=Hd hf
     clear hf hlt hi hsz
     go_wp2_with fail
     refine NMi.mono ?_
     rintro e w4 ⟨rfl,hb4⟩
     go_wp2_with fail
     refine (FNi _ (Hd (HE.out.below hb4.out))).mono ?_
     rintro e w5 ⟨rfl,HE5⟩
     have HE6:Hid (∀ o,ChE w1 w w.heap.size 0 (w5.alloc o) K sb rb ti tl n N a C L nx X):=Hd fun o=>HE5.out.below ((Below.refl _ _).alloc (Nat.le_refl _) o)
     clear NMi FNi hb4
     by_cases hneg:f<0
     ·have HNG:=Hd hneg
      go_wp2_with fail
      refine (LSi.out _ (Hd (HE6.out _))).mono ?_
      rintro e w6 ⟨bb,rfl,hbb,HE7⟩
      clear HE5 HE6
      cases bb with
      | false =>
        clear hbb
        go_wp2_with fail
        go_roundg (256-(i+1))
        case measure=>have:=HLT.out;omega
        case rel=>exact ⟨i+1,_,rfl,HLT.out,by congr 1,rfl,Hd ⟨HFA.out.1.no HF.out HNG.out,HFA.out.2.no HF.out,HE7.out⟩⟩
      | true =>
        have HKF:Hid (i<256/\cAt C (nameB p i)=none/\(∀ j,j<i->cAt C (nameB p j)≠none)/\NoHit C p t 256):=Hd (by
         obtain ⟨k',e1,e2,e3,e4⟩:=(HFA.out.1.no HF.out HNG.out).pos HLT.out (by omega)
         obtain rfl:k'=i:=by omega
         exact ⟨e2,e3,e4,HFA.out.2.all HLT.out (hbb.1 rfl)⟩)
        clear hbb
        have CF:=Hd (HE7.out.st.sbk.cells)
        have BPw:=BP.out _ HE7
        obtain ⟨s0,s1,s2⟩:=CF.out
        obtain ⟨cx,fx,lx⟩:=HE7.out.cell
        have lsb:sb<w6.heap.size:=lt_of_heap HE7.out.st.sbk.1
        clear CF
        go_wp2_with fail
        refine BPw.mono ?_
        rintro e w5 ⟨page,rfl,HP5⟩
        have HPG:Hid (page<65536):=Hd HP5.out.1
        have E5:=Hd HP5.out.2
        clear BPw cx fx lx s0 s1 s2 lsb HP5
        obtain ⟨cx,fx,lx⟩:=E5.out.cell
        have E6:=Hd (E5.out.set 0)
        obtain ⟨w6,hw6⟩:=exE (w5.setCell ⟨w.heap.size,0,none⟩ (.int .i64 0))
        rw [hw6] at E6
        have lx6:=E6.out.cell.1
        obtain ⟨s0,s1,s2⟩:=E6.out.st.sbk.cells
        have NM6:=NM.out w6 i HKF.out.1
        go_wp2_with fail
        refine NM6.mono ?_
        rintro e w7 ⟨rfl,hb7⟩
        have E7:=Hd (E6.out.below hb7.out)
        have KPw:=KP.out _ page (nameB p i) HPG.out (HSZ.out _) E7
        clear NM6 hb7 lx6 s0 s1 s2 hw6
        obtain ⟨s0,s1,s2⟩:=E7.out.st.sbk.cells
        go_wp2_with fail
        refine KPw.mono ?_
        rintro e w8 ⟨rfl,HK8⟩
        obtain ⟨C',hpc,hE8⟩:=HK8.out
        have E8:=Hd hE8
        have HPC:=Hd hpc
        clear KPw HK8 hE8 hpc cx fx lx s0 s1 s2
        have NM8:=NM.out w8 i HKF.out.1
        go_wp2_with fail
        refine NM8.mono ?_
        rintro e w9 ⟨rfl,hb9⟩
        have E9:=Hd (E8.out.below hb9.out)
        clear NM8 hb9
        obtain ⟨cx,fx,lx⟩:=E9.out.cell
        have E10:=Hd (E9.out.set 0)
        have hfin:=E10.out.cell.1
        have HG:Hid (PutRes w1 w0 (w9.setCell ⟨w.heap.size,0,none⟩ (.int .i64 0)) K sb rb ti tl n N a C L nx X p t (nameB p i) true):=Hd (.inr ⟨rfl,i,page,C',HKF.out.1,rfl,HKF.out.2.1,HKF.out.2.2.1,HKF.out.2.2.2,HPC.out,ChE.end_ HH.out E10.out⟩)
        go_wp2_with fail
        refine leaves_cons (f:=60) (args:=#[.pointer (some ⟨sb,0,none⟩),.int .i64 (k:Int),.pointer (some ⟨w.heap.size,0,none⟩)]) (by simp) (by simp [go_sem]) ?_
        refine (undo_d _ _ _ _ _ hfin).mono ?_
        rintro e u' wz ⟨rfl,rfl,rfl⟩
        simp [Leaves,settle,results,Tryz.results18,go_sem,hfin]
        exact HG
     ·have hpos:Hid (∃ kf:Nat,f=(kf:Int)/\kf<256/\cAt C (nameB p kf)=none/\∀ j,j<kf->cAt C (nameB p j)≠none):=Hd (HFA.out.1.pos (Nat.le_of_lt HLT.out) hneg)
      have HNG:=Hd hneg
      go_wp2_with fail
      refine (LSi.out _ (Hd (HE6.out _))).mono ?_
      rintro e w6 ⟨bb,rfl,hbb,HE7⟩
      clear HE5 HE6
      cases bb with
      | false =>
        clear hbb
        go_wp2_with fail
        go_roundg (256-(i+1))
        case measure=>have:=HLT.out;omega
        case rel=>exact ⟨i+1,_,rfl,HLT.out,by congr 1,rfl,Hd ⟨HFA.out.1.no' (by have:=HNG.out;omega),HFA.out.2.no HF.out,HE7.out⟩⟩
      | true =>
        obtain ⟨kf,hkf,q1,q2,q3⟩:=hpos.out
        have HKF:Hid (kf<256/\cAt C (nameB p kf)=none/\(∀ j,j<kf->cAt C (nameB p j)≠none)/\NoHit C p t 256):=Hd ⟨q1,q2,q3,HFA.out.2.all HLT.out (hbb.1 rfl)⟩
        subst hkf
        clear hbb q1 q2 q3 hneg HFA HNG hpos
        have CF:=Hd (HE7.out.st.sbk.cells)
        have BPw:=BP.out _ HE7
        obtain ⟨s0,s1,s2⟩:=CF.out
        obtain ⟨cx,fx,lx⟩:=HE7.out.cell
        have lsb:sb<w6.heap.size:=lt_of_heap HE7.out.st.sbk.1
        clear CF
        go_wp2_with fail
        refine BPw.mono ?_
        rintro e w5 ⟨page,rfl,HP5⟩
        have HPG:Hid (page<65536):=Hd HP5.out.1
        have E5:=Hd HP5.out.2
        clear BPw cx fx lx s0 s1 s2 lsb HP5
        obtain ⟨cx,fx,lx⟩:=E5.out.cell
        have E6:=Hd (E5.out.set 0)
        obtain ⟨w6,hw6⟩:=exE (w5.setCell ⟨w.heap.size,0,none⟩ (.int .i64 0))
        rw [hw6] at E6
        have lx6:=E6.out.cell.1
        obtain ⟨s0,s1,s2⟩:=E6.out.st.sbk.cells
        have NM6:=NM.out w6 kf HKF.out.1
        go_wp2_with fail
        refine NM6.mono ?_
        rintro e w7 ⟨rfl,hb7⟩
        have E7:=Hd (E6.out.below hb7.out)
        have KPw:=KP.out _ page (nameB p kf) HPG.out (HSZ.out _) E7
        clear NM6 hb7 lx6 s0 s1 s2 hw6
        obtain ⟨s0,s1,s2⟩:=E7.out.st.sbk.cells
        go_wp2_with fail
        refine KPw.mono ?_
        rintro e w8 ⟨rfl,HK8⟩
        obtain ⟨C',hpc,hE8⟩:=HK8.out
        have E8:=Hd hE8
        have HPC:=Hd hpc
        clear KPw HK8 hE8 hpc cx fx lx s0 s1 s2
        have NM8:=NM.out w8 kf HKF.out.1
        go_wp2_with fail
        refine NM8.mono ?_
        rintro e w9 ⟨rfl,hb9⟩
        have E9:=Hd (E8.out.below hb9.out)
        clear NM8 hb9
        obtain ⟨cx,fx,lx⟩:=E9.out.cell
        have E10:=Hd (E9.out.set 0)
        have hfin:=E10.out.cell.1
        have HG:Hid (PutRes w1 w0 (w9.setCell ⟨w.heap.size,0,none⟩ (.int .i64 0)) K sb rb ti tl n N a C L nx X p t (nameB p kf) true):=Hd (.inr ⟨rfl,kf,page,C',HKF.out.1,rfl,HKF.out.2.1,HKF.out.2.2.1,HKF.out.2.2.2,HPC.out,ChE.end_ HH.out E10.out⟩)
        go_wp2_with fail
        refine leaves_cons (f:=60) (args:=#[.pointer (some ⟨sb,0,none⟩),.int .i64 (k:Int),.pointer (some ⟨w.heap.size,0,none⟩)]) (by simp) (by simp [go_sem]) ?_
        refine (undo_d _ _ _ _ _ hfin).mono ?_
        rintro e u' wz ⟨rfl,rfl,rfl⟩
        simp [Leaves,settle,results,Tryz.results18,go_sem,hfin]
        exact HG
   | some c =>
     have hcm:=(cAt_some hf).1
     have FYi:=fun W=>FY.out W _ c hsz hf
     have HF:=Hd hf
     have BGi:Hid (∀ W WA g,Hid (ChE w1 WA w.heap.size 0 W (fun k=>K k\/k=g) sb rb ti tl n N a C L nx X)->WA.cell? ⟨g,0,none⟩=some (.int .i64 (c.page:Int))->Calls Tryz.prog 66 #[.pointer (some ⟨rb,0,none⟩),.int .i64 (c.page:Int)] W fun e w'=>e=.returned (.tuple #[.string c.text,.int .i64 0])/\(w'.cell? ⟨sb,0,none⟩=some (.pointer (some ⟨rb,0,none⟩))/\w'.cell? ⟨g,0,none⟩=some (.int .i64 (c.page:Int)))/\Hid (ChE w1 WA w.heap.size 0 w' (fun k=>K k\/k=g) sb rb ti tl n N a C L nx X)):=Hd fun W WA g h1 h2=>BG.out W WA g c hcm h1 h2
     clear hf hlt hi hsz hcm
     obtain ⟨tx,htx⟩:=exE (c.text)
     have HTX:=Hd htx
     rw [htx] at BGi FYi
     generalize c.page=z0 at *
     generalize c.cnt=z2 at *
     generalize (tx.size:Int)=z1 at *
     clear htx
     go_wp2_with fail
     refine NMi.mono ?_
     rintro e w4 ⟨rfl,hb4⟩
     go_wp2_with fail
     refine (FYi _ (Hd (HE.out.below hb4.out))).mono ?_
     rintro e w5 ⟨rfl,HE5⟩
     clear NMi FYi hb4
     have HE6:=Hd (HE5.out.new (.cells #[.int .i64 (z0:Int),.int .i64 z1,.int .i64 z2] 124))
     have HOLD:Hid (∀ W,ChE w1 (w5.alloc (.cells #[.int .i64 (z0:Int),.int .i64 z1,.int .i64 z2] 124)) w.heap.size 0 W (fun k=>K k\/k=w5.heap.size) sb rb ti tl n N a C L nx X->ChE w1 w w.heap.size 0 W K sb rb ti tl n N a C L nx X):=Hd fun W h9=>ChE.old HE5.out h9
     obtain ⟨w6,hw6⟩:=exE (w5.alloc (.cells #[.int .i64 (z0:Int),.int .i64 z1,.int .i64 z2] 124))
     have g0:w6.cell? ⟨w5.heap.size,0,none⟩=some (.int .i64 (z0:Int)):=by rw [<-hw6];exact cell_lit (heap_alloc_new _ _) rfl
     rw [hw6] at HE6 HOLD
     obtain ⟨s0,s1,s2⟩:=HE6.out.st.sbk.cells
     have lsb:sb<w6.heap.size:=lt_of_heap HE6.out.st.sbk.1
     have HE7:Hid (ChE w1 w6 w.heap.size 0 w6.drew (fun k=>K k\/k=w5.heap.size) sb rb ti tl n N a C L nx X):=Hd (HE6.out.below (Below.refl _ _).drew)
     have HG0:=Hd g0
     clear HE5
     go_wp2_with fail
     go_region_held3 (fun w'=>w'.cell? ⟨sb,0,none⟩=some (.pointer (some ⟨rb,0,none⟩))/\w'.cell? ⟨w5.heap.size,0,none⟩=some (.int .i64 (z0:Int))) (go_keep) ((first
      | (go_at_call 66
         refine Calls.at_args (BGi.out _ _ _ HE7 HG0.out) (by with_reducible rfl) ?_
         rintro e w7 ⟨rfl,hk7,HE8⟩)))
     all_goals (
      have HE9:=Hd (HOLD.out _ HE8.out)
      clear HE6 HE7 HE8 HOLD s0 s1 s2 lsb g0 HG0 hk7 hw6 BGi
      by_cases he:tx=t
      ·have q:(tx.toList == t.toList)=true:=by rw [baK_eq];simp [he]
       have NM2:=NM.out w7 i HLT.out
       have HQ:=Hd he
       clear he
       go_wp2_with fail
       refine NM2.mono ?_
       rintro e w9 ⟨rfl,hb9⟩
       have E9:=Hd (HE9.out.below hb9.out)
       clear NM2 hb9
       obtain ⟨cx,fx,lx⟩:=E9.out.cell
       have E10:=Hd (E9.out.set 0)
       have hfin:=E10.out.cell.1
       have HG:Hid (PutRes w1 w0 (w9.setCell ⟨w.heap.size,0,none⟩ (.int .i64 0)) K sb rb ti tl n N a C L nx X p t (nameB p i) false):=Hd (.inl ⟨rfl,i,c,HLT.out,rfl,HF.out,HTX.out.trans HQ.out,HFA.out.2,ChE.end_ HH.out E10.out⟩)
       go_wp2_with fail
       refine leaves_cons (f:=60) (args:=#[.pointer (some ⟨sb,0,none⟩),.int .i64 (k:Int),.pointer (some ⟨w.heap.size,0,none⟩)]) (by simp) (by simp [go_sem]) ?_
       refine (undo_d _ _ _ _ _ hfin).mono ?_
       rintro e u' wz ⟨rfl,rfl,rfl⟩
       simp [Leaves,settle,results,Tryz.results18,go_sem,hfin]
       exact HG
      ·have q:(tx.toList == t.toList)=false:=by rw [baK_eq];simp [he]
       have HQ:=Hd he
       clear he
       go_wp2_with fail
       go_roundg (256-(i+1))
       case measure=>have:=HLT.out;omega
       case rel=>exact ⟨i+1,_,rfl,HLT.out,by congr 1,rfl,Hd ⟨HFA.out.1.yes HF.out,HFA.out.2.yes HF.out (fun e=>HQ.out (HTX.out.symm.trans e)),HE9.out⟩⟩)
  ·obtain rfl:i=256:=by omega
   obtain ⟨kf,hkf,q1,q2,q3⟩:=HFA.out.1.fin HCL.out
   have HKF:Hid (kf<256/\cAt C (nameB p kf)=none/\(∀ j,j<kf->cAt C (nameB p j)≠none)/\NoHit C p t 256):=Hd ⟨q1,q2,q3,HFA.out.2⟩
   subst hkf
   clear q1 q2 q3 HFA hlt hi
   have CF:=Hd (HE.out.st.sbk.cells)
   have BPw:=BP.out _ HE
   obtain ⟨s0,s1,s2⟩:=CF.out
   obtain ⟨cx,fx,lx⟩:=HE.out.cell
   have lsb:sb<wr.heap.size:=lt_of_heap HE.out.st.sbk.1
   clear CF
   go_wp2_with fail
   refine BPw.mono ?_
   rintro e w5 ⟨page,rfl,HP5⟩
   have HPG:Hid (page<65536):=Hd HP5.out.1
   have E5:=Hd HP5.out.2
   clear BPw cx fx lx s0 s1 s2 lsb HP5
   obtain ⟨cx,fx,lx⟩:=E5.out.cell
   have E6:=Hd (E5.out.set 0)
   obtain ⟨w6,hw6⟩:=exE (w5.setCell ⟨w.heap.size,0,none⟩ (.int .i64 0))
   rw [hw6] at E6
   have lx6:=E6.out.cell.1
   obtain ⟨s0,s1,s2⟩:=E6.out.st.sbk.cells
   have NM6:=NM.out w6 kf HKF.out.1
   go_wp2_with fail
   refine NM6.mono ?_
   rintro e w7 ⟨rfl,hb7⟩
   have E7:=Hd (E6.out.below hb7.out)
   have KPw:=KP.out _ page (nameB p kf) HPG.out (HSZ.out _) E7
   clear NM6 hb7 lx6 s0 s1 s2 hw6
   obtain ⟨s0,s1,s2⟩:=E7.out.st.sbk.cells
   go_wp2_with fail
   refine KPw.mono ?_
   rintro e w8 ⟨rfl,HK8⟩
   obtain ⟨C',hpc,hE8⟩:=HK8.out
   have E8:=Hd hE8
   have HPC:=Hd hpc
   clear KPw HK8 hE8 hpc cx fx lx s0 s1 s2
   have NM8:=NM.out w8 kf HKF.out.1
   go_wp2_with fail
   refine NM8.mono ?_
   rintro e w9 ⟨rfl,hb9⟩
   have E9:=Hd (E8.out.below hb9.out)
   clear NM8 hb9
   obtain ⟨cx,fx,lx⟩:=E9.out.cell
   have E10:=Hd (E9.out.set 0)
   have hfin:=E10.out.cell.1
   have HG:Hid (PutRes w1 w0 (w9.setCell ⟨w.heap.size,0,none⟩ (.int .i64 0)) K sb rb ti tl n N a C L nx X p t (nameB p kf) true):=Hd (.inr ⟨rfl,kf,page,C',HKF.out.1,rfl,HKF.out.2.1,HKF.out.2.2.1,HKF.out.2.2.2,HPC.out,ChE.end_ HH.out E10.out⟩)
   go_wp2_with fail
   refine leaves_cons (f:=60) (args:=#[.pointer (some ⟨sb,0,none⟩),.int .i64 (k:Int),.pointer (some ⟨w.heap.size,0,none⟩)]) (by simp) (by simp [go_sem]) ?_
   refine (undo_d _ _ _ _ _ hfin).mono ?_
   rintro e u' wz ⟨rfl,rfl,rfl⟩
   simp [Leaves,settle,results,Tryz.results18,go_sem,hfin]
   exact HG
end
set_option maxHeartbeats 1000000
theorem PutC.nil {c:Ck} {C':List Ck} (h:PutC c [] C'):C'=[c]:=by
 obtain ⟨A,B,rfl,h',-,-⟩:=h
 rcases h' with h'|⟨c0,-,h'⟩
 ·have:=List.append_eq_nil_iff.1 h'.symm
  rw [this.1,this.2];rfl
 ·simp at h'
theorem PutC.same {c c0:Ck} {C':List Ck} (h:PutC c [c0] C') (e:c0.id=c.id):C'=[c]:=by
 obtain ⟨A,B,rfl,h',hA,hB⟩:=h
 rcases h' with h'|⟨c1,-,h'⟩
 ·exfalso
  have hm:c0∈A++B:=by rw [<-h'];simp
  rcases List.mem_append.1 hm with hm|hm
  ·exact kless_ne (hA c0 hm) e
  ·exact kless_ne (hB c0 hm) e.symm
 ·cases A with
  | nil =>
    rw [List.nil_append] at h'
    have:=(List.cons.inj h').2
    subst this;rfl
  | cons x A =>
    rw [List.cons_append] at h'
    have:=(List.cons.inj h').2
    simp at this
theorem cAt_one {c:Ck}:cAt [c] c.id=some c:=by simp [cAt]
theorem cAt_one_some {c d:Ck} {s:ByteArray} (h:cAt [c] s=some d):d=c/\c.id=s:=by
 obtain ⟨h1,h2⟩:=cAt_some h
 simp at h1
 subst h1
 exact ⟨rfl,h2⟩
theorem Mg.one {c:Ck} {T:List Lg} {C':List Ck} (h:Mg [c] T C') (hT:∀ e∈T,e.id=c.id):C'=[c.add (pend T c.id)]:=by
 induction h with
 | nil=>simp [pend,Ck.add]
 | @snoc T C1 C2 e h1 h2 ih =>
   have e1:=ih fun x hx=>hT x (by simp [hx])
   have e2:=hT e (by simp)
   subst e1
   rcases h2 with ⟨h3,-⟩|⟨d,h3,h4⟩
   ·exact absurd e2.symm (cAt_none h3 (c.add (pend T c.id)) (by simp))
   ·obtain ⟨rfl,h5⟩:=cAt_one_some h3
    have:=h4.same rfl
    rw [this,pend_snoc,if_pos e2]
    simp only [Ck.add,List.cons.injEq,Ck.mk.injEq,and_true,true_and]
    omega
section
variable {w1 w0 w:World} {K:Nat->Prop} {sb rb ti tl n N a nx:Nat} {C:List Ck} {L:List Lg} {X:List (Nat × ByteArray)} {p t id:ByteArray} {fresh:Bool}
theorem PutRes.empty (h:PutRes w1 w0 w K sb rb ti tl n N a [] L nx X p t id fresh):fresh=true/\id=nameB p 0/\∃ page,Chs w1 w0 w K sb rb ti tl n N (a+2) [⟨id,page,0,t⟩] L nx ((page,t)::X):=by
 rcases h with ⟨-,k,c,-,-,h,-⟩|⟨h1,k,page,C',-,h2,-,h3,-,h4,h5⟩
 ·simp [cAt] at h
 ·have hk:k=0:=by
   rcases Nat.eq_zero_or_pos k with h|h
   ·exact h
   ·exact absurd rfl (h3 0 h)
  subst hk
  rw [h4.nil] at h5
  exact ⟨h1,h2,page,h5⟩
theorem PutRes.one {c:Ck} (h:PutRes w1 w0 w K sb rb ti tl n N a [c] L nx X p t id fresh) (hi:c.id=nameB p 0) (ht:c.text=t):fresh=false/\id=c.id/\Chs w1 w0 w K sb rb ti tl n N a [c] L nx X:=by
 rcases h with ⟨h1,k,d,-,h2,h,-,-,h5⟩|⟨-,k,page,C',-,-,-,-,h4,-⟩
 ·obtain ⟨rfl,h6⟩:=cAt_one_some h
  exact ⟨h1,h6.symm,h5⟩
 ·exact absurd ht (h4 0 (by decide) c (by rw [<-hi];exact cAt_one))
end
set_option maxHeartbeats 4000000
def aB:ByteArray:=⟨#[97]⟩
theorem awake11_c (w:World):Calls Tryz.prog 13 #[] w fun e w'=>e=.returned (.bool true)/\Hid (Below w.heap.size w w'):=by
 have WD:=Wide_c 3000 w (by decide) (by decide)
 rw [show ((3000:Nat):Int)=3000 from rfl] at WD
 go_enter Tryz.func13,Tryz.ntmps13
 go_wp2_with fail
 refine WD.mono ?_
 rintro e wb ⟨db,lb,FL,rfl,H1⟩
 clear WD
 go_wp2_with fail
 refine (Begin_c lb wb).mono ?_
 rintro e wc ⟨rfl,H2⟩
 have OF:=Of_c _ lb 3000 FL _ [] wc (chg_new H1.out H2.out) (by decide)
 go_wp2_with fail
 refine OF.mono ?_
 rintro e wd ⟨rb,G,rfl,H3⟩
 have NR:=Hd (NewRoom.of (w1:=w) (Below.refl _ _) H1.out H2.out H3.out)
 clear OF H1 H2 H3
 have AT:=At_k rb wd
 go_wp2_with fail
 refine AT.mono ?_
 rintro e we ⟨sb,ti,tl,rfl,HT⟩
 have M0:=Hd (Chs.start (N:=20) NR.out (by decide) (by decide) HT.out.1 HT.out.2.1 HT.out.2.2)
 clear NR HT AT
 have P1:=Put_k w we we (fun _=>False) sb rb ti tl 3000 20 0 0 [] [] [] aB M0 (by decide) (by decide) (by decide) (by decide) (fun c hc=>by cases hc)
 rw [show aB=⟨#[97]⟩ from rfl] at P1
 clear M0
 go_wp2_with fail
 refine P1.mono ?_
 rintro e w3 ⟨id,fresh,rfl,HP⟩
 obtain ⟨rfl,hid,page,HC⟩:=PutRes.empty HP.out
 have M1:=Hd HC
 have hsz:id.size=33:=by rw [hid,nameB_size,prB_size]
 have HI:=Hd hid
 clear HP HC P1 hid
 have P2:=Put_k w w3 we (fun _=>False) sb rb ti tl 3000 20 2 0 [⟨id,page,0,⟨#[97]⟩⟩] [] [(page,⟨#[97]⟩)] aB M1 (by decide) (by decide) (by decide) (show 1<=250 by decide) (fun c hc=>by simp at hc;subst hc;simp)
 rw [show aB=⟨#[97]⟩ from rfl] at P2
 clear M1
 go_wp2_with fail
 refine P2.mono ?_
 rintro e w4 ⟨id2,fresh,rfl,HP⟩
 obtain ⟨rfl,hid,HC⟩:=PutRes.one HP.out HI.out rfl
 obtain rfl:id2=id:=hid
 have M2:=Hd HC
 clear HP HC P2
 have AD:=Add_yes w w4 we (fun _=>False) sb rb ti tl 3000 20 2 0 [⟨id2,page,0,⟨#[97]⟩⟩] [] [(page,⟨#[97]⟩)] id2 true ⟨id2,page,0,⟨#[97]⟩⟩ M2 (by decide) hsz cAt_one
 rw [show byI true=1 from rfl] at AD
 clear M2
 go_wp2_with fail
 refine AD.mono ?_
 rintro e w5 ⟨rfl,M3⟩
 clear AD
 have MG:=Merge_k w w5 we (fun _=>False) sb rb ti tl 3000 20 3 1 [⟨id2,page,0,⟨#[97]⟩⟩] ([]++[Lg.mk 0 true id2]) [(page,⟨#[97]⟩)] 9 9 rfl (by decide) M3 (show 3+2*1<=20/\20<=1000 by decide) (fun c hc=>by simp at hc;subst hc;exact ⟨by show (-1000000:Int)<=0;decide,by show (0:Int)<=1000000;decide⟩)
 have e9:(List.take 9 (([]:List Lg)++[(⟨0,true,id2⟩:Lg)])).length=1:=rfl
 rw [e9,show ((1:Nat):Int)=1 from rfl] at MG
 clear M3
 go_wp2_with fail
 refine MG.mono ?_
 rintro e w6 ⟨rfl,HM⟩
 have M4:Hid (Chs w we w6 (fun _=>False) sb rb ti tl 3000 20 5 [⟨id2,page,1,⟨#[97]⟩⟩] [] 1 [(page,⟨#[97]⟩)]):=Hd (by
  obtain ⟨C',h1,h2⟩:=HM.out
  have:=Mg.one h1 (fun e he=>by simp at he;subst he;rfl)
  rw [this] at h2
  simpa [Ck.add,pend,Lg.by] using h2)
 clear HM MG
 have CT:=Count_yes w w6 we (fun _=>False) sb rb ti tl 3000 20 5 1 [⟨id2,page,1,⟨#[97]⟩⟩] [] [(page,⟨#[97]⟩)] id2 ⟨id2,page,1,⟨#[97]⟩⟩ M4 (by decide) (by omega) cAt_one (by decide)
 simp only [pend] at CT
 clear M4
 go_wp2_with fail
 refine CT.mono ?_
 rintro e w7 ⟨rfl,M5⟩
 clear CT
 have GT:=Get_yes w w7 we (fun _=>False) sb rb ti tl 3000 20 5 1 [⟨id2,page,1,⟨#[97]⟩⟩] [] [(page,⟨#[97]⟩)] id2 ⟨id2,page,1,⟨#[97]⟩⟩ M5 (by decide) (by omega) cAt_one (by simp)
 simp only at GT
 have HB:Hid (∀ w8,Hid (Chs w we w8 (fun _=>False) sb rb ti tl 3000 20 5 [⟨id2,page,1,⟨#[97]⟩⟩] [] 1 [(page,⟨#[97]⟩)])->Below w.heap.size w w8):=Hd fun w8 h=>h.out.bel
 have hse:((id2.size:Int) == 33)=true:=by rw [hsz];rfl
 clear M5 hsz
 go_wp2_with fail
 refine GT.mono ?_
 rintro e w8 ⟨rfl,M6⟩
 clear GT
 go_wp2_with fail
 go_ret
 exact ⟨rfl,Hd (HB.out _ M6)⟩
set_option maxHeartbeats 2000000
theorem wrap_up {k n:Nat} (h:k<n) (hn:n<=9223372036854775807):wrap64 ((k:Int)+1)=((k+1:Nat):Int):=by
 have e:(k:Int)+1=((k+1:Nat):Int):=by push_cast;rfl
 rw [e]
 unfold wrap64;omega
theorem read_ck (c:Ck) (hc:c.Ok) (W:World):Calls Tryz.prog 88 #[.string ⟨#[104,98,110]⟩,.string c.val] W fun e w'=>∃ g k,W.heap.size<=g/\e=.returned (.tuple #[.slice (some ⟨g,0,none⟩) 3 k,.bool true])/\(w'.cell? ⟨g,2,none⟩=some (.int .u64 (c.text.size:Int))/\w'.cell? ⟨g,4,none⟩=some (.int .u64 (sgn64 c.cnt:Int)))/\Hid (Below W.heap.size W w'):=by
 have RC:=Read_cK kindsC c.val W (by decide) (by have:=Ck.val_size c;omega)
 rw [Ck.read hc] at RC
 refine RC.mono ?_
 intro e w' hp
 obtain ⟨v,rfl,ho,hbl⟩:=hp
 rcases ho.2 with ⟨rfl,h0⟩|⟨g,cap,cur,rfl,hbg,-⟩
 ·exact absurd h0 (by simp [Ck.flds])
 ·refine ⟨g,cap,hbg,rfl,?_,Hd hbl⟩
  have c:=fun i (hi:i<6)=>ho.cellAt i (by simpa [Ck.flds] using hi)
  exact ⟨c 2 (by decide),c 4 (by decide)⟩
theorem infoC:(Tryz.prog.info? 106).map (fun i=>(i.zero,i.size,i.bytes))=some (some (.agg #[.string ⟨#[]⟩,.int .i64 0,.int .i64 0]),3,32):=by kernel_rfl
def chkC (C:List Ck):List Value:=C.flatMap fun c=>[.string c.id,.int .i64 (c.text.size:Int),.int .i64 c.cnt]
theorem chkC_snoc (T:List Ck) (c:Ck):chkC (T++[c])=chkC T++[.string c.id,.int .i64 (c.text.size:Int),.int .i64 c.cnt]:=by simp [chkC]
def AlRel (W0:World) (T:List Ck) (i:Nat) (v:Value) (wr:World):Prop:=wr.ownsRow W0.heap.size 106 3 v i (chkC (T.take i))/\Below W0.heap.size W0 wr
def AllEnd (w1 w w':World) (K:Nat->Prop) (sb rb ti tl n N a:Nat) (C:List Ck) (L:List Lg) (nx:Nat) (X:List (Nat × ByteArray)) (v:Value):Prop :=
 w'.ownsRow 0 106 3 v C.length (chkC C)/\Chs w1 w' w' (fun k=>K k\/v.ownBlock=some k) sb rb ti tl n N a C L nx X/\Kept K w w'
def IdxSc (w1 w w':World) (K:Nat->Prop) (sb rb ti tl n N a:Nat) (C:List Ck) (L:List Lg) (nx:Nat) (X:List (Nat × ByteArray)) (v:Value):Prop :=
 w'.ownsRow (w.heap.size+2) 170 2 v C.length (pairC (C.map encC))/\Chs w1 w' w' (fun k=>K k\/(w.heap.size<=k/\k<w'.heap.size)) sb rb ti tl n N a C L nx X/\Kept K w w'
section
variable (w1 w w0:World) (K:Nat->Prop) (sb rb ti tl n N a nx:Nat) (C:List Ck) (L:List Lg) (X:List (Nat × ByteArray))
theorem idx_scan (h:Hid (Chs w1 w0 w K sb rb ti tl n N a C L nx X)) (hN:a<=N/\N<=1000) (hL:C.length<=1000000) :
 Calls Tryz.prog 87 #[.pointer (some ⟨ti,0,none⟩),.string ⟨#[]⟩,.string ⟨#[]⟩,.int .i64 33554432] w fun e w'=>∃ v,e=.returned (.tuple #[v,.int .i64 0])/\Hid (IdxSc w1 w w' K sb rb ti tl n N a C L nx X v):=by
 obtain ⟨S,o0,o1,h1,h2,h3,h4,h5⟩:=h.out
 have hl:(entsO o0).length=C.length:=by rw [h3.eq,List.length_map]
 have SC:=scan_g w1 w _ ti rb 0 n (300*a) S o0 ⟨#[]⟩ ⟨#[]⟩ 33554432 h1.1.1 h1.1.2.2.1 (.inr (.inr (.inl rfl))) h2.t0 (by decide) (by omega) (by have:=h2.hgt0 (by omega);omega) (by omega) (by decide) (by decide)
 rw [from_nil,sRun_take 33554432 _ [] (Nat.zero_le _),List.nil_append,h3.eq,List.length_nil,Nat.sub_zero,<-List.map_take,List.take_of_length_le (by omega),List.length_map] at SC
 refine SC.mono ?_
 rintro e w' ⟨v,rfl,hE⟩
 obtain ⟨r1,r2,r3⟩:=hE.out
 have hg:=h1.1.of (r2.mono fun k hk=>.inl hk) r3
 refine ⟨v,rfl,Hd ⟨r1,⟨S,o0,o1,⟨⟨r2.mono fun k hk=>?_,hg.1.2⟩,fun _ _=>rfl⟩,h2,h3,h4,h5⟩,hg.2⟩⟩
 rcases hk with (hk|hk)|hk
 ·exact .inl (.inl hk)
 ·exact .inr hk
 ·exact .inl (.inr hk)
theorem All_k (h:Hid (Chs w1 w0 w K sb rb ti tl n N a C L nx X)) (hN:a<=N/\N<=1000) (hL:C.length<=1000000) :
 Calls Tryz.prog 30 #[.pointer (some ⟨sb,0,none⟩)] w fun e w'=>∃ v,e=.returned (.tuple #[v,.int .i64 0])/\Hid (AllEnd w1 w w' K sb rb ti tl n N a C L nx X v):=by
 have SC:=idx_scan w1 w w0 K sb rb ti tl n N a nx C L X h hN hL
 have HOK:Hid (∀ c∈C,c.Ok):=Hd h.out.ok.1
 have HLEN:Hid (C.length<=1000000):=Hd hL
 obtain ⟨s0,s1,s2⟩:=h.out.sbk.cells
 have HH:=Hd h.out.kept
 clear h hN hL
 go_enter Tryz.func30,Tryz.ntmps30
 go_wp2_with fail
 refine SC.mono ?_
 rintro e w4 ⟨v,rfl,HS⟩
 clear SC
 obtain ⟨va,vc,hv⟩:∃ va vc,v=.slice va C.length vc:=by
  rcases HS.out.1.2 with ⟨rfl,h0⟩|⟨g,cap,cur,rfl,-⟩
  ·exact ⟨_,_,by rw [h0]⟩
  ·exact ⟨_,_,rfl⟩
 subst hv
 have CE:Hid (∀ i (hi:i<C.length),∃ g,va=some ⟨g,0,none⟩/\g<w4.heap.size/\w4.cell? ⟨g,i*2,none⟩=some (.string C[i].id)/\w4.cell? ⟨g,i*2+1,none⟩=some (.string C[i].val)):=Hd fun i hi=>by
  have hr:=HS.out.1
  rcases hr.2 with ⟨e,h0⟩|⟨g,cap,cur,e,h1,h2,-⟩
  ·omega
  ·cases e
   have hl:i<(C.map encC).length:=by simpa using hi
   obtain ⟨x,y⟩:=pairK_get (C.map encC) i hl
   refine ⟨g,rfl,lt_of_heap h2,?_,?_⟩
   ·rw [hr.cellAt (i*2) (by omega),x];simp [encC]
   ·rw [hr.cellAt (i*2+1) (by omega),y];simp [encC]
 have R0:Hid (AlRel w4 C 0 (.slice none 0 0) w4):=Hd ⟨World.ownsRow_nil _ _ _ _,Below.refl _ _⟩
 have HEND:Hid (∀ v w',AlRel w4 C C.length v w'->AllEnd w1 w w' K sb rb ti tl n N a C L nx X v):=Hd fun v w' hr=>by
  obtain ⟨h1,h2⟩:=hr
  rw [List.take_length] at h1
  obtain ⟨g1,g2⟩:=HS.out.2
  have hm:=g1.mono (K':=K) fun k hk=>.inl hk
  have hb:Chs w1 w' w' (fun k=>K k\/v.ownBlock=some k) sb rb ti tl n N a C L nx X:=by
   obtain ⟨S,o0,o1,x1,x2⟩:=hm
   refine ⟨S,o0,o1,⟨(x1.1.belowK h2).1.mono fun k hk=>hk.imp id fun hk=>h1.lt k hk,fun _ _=>rfl⟩,x2⟩
  exact ⟨own_le h1 (Nat.zero_le _),hb,g2.trans (hm.keep h2)⟩
 obtain ⟨jE,hjE,hE0,hE1,hE2⟩:=info_parts infoC
 go_wp2_with fail
 go_loopg [6,8,9,10,26] C.length (fun g s6 s8 s9 s10 s26 wr=>∃ (i:Nat) (sv:Value),g=C.length-i/\i<=C.length/\s26=.int .i64 (i:Int)/\sv=s6/\Hid (AlRel w4 C i sv wr))
 case atStart=>exact ⟨0,_,rfl,Nat.zero_le _,rfl,rfl,R0⟩
 case round =>
  obtain ⟨i,sv,rfl,hi,rfl,rfl,HR⟩:=hrel
  clear R0
  by_cases hlt:i<C.length
  ·obtain ⟨g,rfl,hg,c0,c1⟩:=CE.out i hlt
   have hbl:=HR.out.2
   have d0:wr.cell? ⟨g,i*2,none⟩=some (.string C[i].id):=(hbl.cell (p:=⟨g,i*2,none⟩) hg).trans c0
   have d1:wr.cell? ⟨g,i*2+1,none⟩=some (.string C[i].val):=(hbl.cell (p:=⟨g,i*2+1,none⟩) hg).trans c1
   have hok:=HOK.out C[i] (List.getElem_mem hlt)
   have RD:=fun W=>read_ck C[i] hok W
   have HSTEP:Hid (∀ v' W5,W5.ownsRow w4.heap.size 106 3 v' (i+1) (chkC (C.take i)++[.string C[i].id,.int .i64 (C[i].text.size:Int),.int .i64 C[i].cnt])->Below w4.heap.size w4 W5->AlRel w4 C (i+1) v' W5):=Hd fun v' W5 ho hb=>by
    refine ⟨?_,hb⟩
    rw [List.take_succ_eq_append_getElem hlt,chkC_snoc]
    exact ho
   have u0:IntKind.i64.wrap ((C[i].text.size:Nat):Int)=((C[i].text.size:Nat):Int):=wrap_sgn (by omega) (by have:=hok.t2;omega)
   have u1:IntKind.i64.wrap (sgn64 C[i].cnt:Int)=C[i].cnt:=sgn64_back _ (by have:=hok.c1;omega) (by have:=hok.c2;omega)
   have HLT:=Hd hlt
   have hl64:i<=1000000:=by have:=HLEN.out;omega
   clear c0 c1 hok hi
   have HL:Hid (i+1<=maxLen/\(i+1)*32<=140737488355328):=Hd (by unfold maxLen;omega)
   generalize C[i].val=vl at *
   generalize C[i].id=ky at *
   generalize C[i].text.size=z1 at *
   generalize sgn64 C[i].cnt=z2 at *
   generalize C[i].cnt=z3 at *
   clear hlt hbl
   go_wp2_with fail
   refine (RD _).mono ?_
   rintro e w6 ⟨gf,kf,hgf,rfl,⟨f2,f4⟩,hb6⟩
   have hbp:w6.cell? ⟨wr.heap.size,0,none⟩=some (.string ky):=cell_lit ((hb6.out.block wr.heap.size (by simp)).trans (heap_alloc_new wr _)) rfl
   have hb7:Below wr.heap.size wr w6:=((Below.refl wr.heap.size wr).alloc (Nat.le_refl _) _).trans (hb6.out.mono (by simp))
   have HB6:Hid (Below w4.heap.size w4 w6.drew):=Hd (HR.out.2.trans (hb7.drew.mono HR.out.2.size))
   have HOD:Hid (w6.drew.ownsRow w4.heap.size 106 3 sv i (chkC (C.take i))):=Hd (ownsRow_upd HR.out.1 (hb7.drew.upd' (Nat.le_refl _)) (fun _ _ e=>e))
   have HBX:Hid (∀ o,w4.heap.size<=(w6.drew.alloc o).heap.size):=Hd fun o=>by have:=HB6.out.size;simp at this ⊢;omega
   have CK:Hid (∀ o W5,(w6.drew.alloc o).grownBy W5 sv.ownBlock->W5.cell? ⟨wr.heap.size,0,none⟩=some (.string ky)/\W5.cell? ⟨gf,2,none⟩=some (.int .u64 (z1:Int))/\W5.cell? ⟨gf,4,none⟩=some (.int .u64 (z2:Int))):=Hd fun o W5 hg=>by
    have q:∀ b i v,wr.heap.size<=b->w6.cell? ⟨b,i,none⟩=some v->W5.cell? ⟨b,i,none⟩=some v:=fun b i v hb hc=>by
     have hbb:Below w6.heap.size w6 (w6.drew.alloc o):=((Below.refl w6.heap.size w6).drew).alloc (Nat.le_refl _) _
     refine hg.cell ((hbb.cell (p:=⟨b,i,none⟩) (World.block_lt_of_cell? w6 _ hc)).trans hc) fun e=>?_
     have:=HR.out.1.lt b e.symm
     omega
    have hgf':wr.heap.size<=gf:=by simp at hgf;omega
    exact ⟨q _ _ _ (Nat.le_refl _) hbp,q _ _ _ hgf' f2,q _ _ _ hgf' f4⟩
   clear hb6 hb7 RD d0 d1 hgf
   go_wp2_with fail
   go_region_held3 (fun w'=>w'.cell? ⟨wr.heap.size,0,none⟩=some (.string ky)/\w'.cell? ⟨gf,2,none⟩=some (.int .u64 (z1:Int))/\w'.cell? ⟨gf,4,none⟩=some (.int .u64 (z2:Int))) (go_keep) ((first
    | (refine step_append_y (by rfl) _ _ _ (by rfl) w4.heap.size 106 jE _ 3 32 Tryz.underlying68 hjE hE0 hE1 hE2 rfl (by decide) _ _ _ (by rfl) (HOD.out.alloc _) _ 1 _ (by rfl) (yields_boxL _ #[.string ky,.int .i64 (z1:Int),.int .i64 z3] _ 1 1) rfl (one3 _ _ _ rfl rfl rfl) HL.out.1 HL.out.2 (HBX.out _) ?_
       intro v5 W5 ho5 hg5 ha5
       have HN5:=Hd (HSTEP.out v5 W5 ho5 ((HB6.out.alloc HB6.out.size _).grown hg5 (HBX.out _) (fun k e=>(HOD.out.lt k e).1)))
       obtain ⟨k0,k1,k2⟩:=CK.out _ W5 hg5
       clear ho5 hg5 ha5)))
   all_goals go_wp2_with fail
   all_goals go_roundg (C.length-(i+1))
   all_goals (first
    | (case measure=>have:=HLT.out;omega)
    | (case rel=>exact ⟨i+1,_,rfl,HLT.out,by congr 1,rfl,HN5⟩))
  ·obtain rfl:i=C.length:=by omega
   have HE:=Hd (HEND.out _ _ HR.out)
   clear hlt hi
   go_wp2_with fail
   go_ret2
   exact ⟨_,rfl,HE⟩
end
open Go.RowKit Go.MapKept
section
variable {κ α:Type} [DecidableEq κ] {K:KEnc κ} {V:α->Value} {w:World} {r it:Nat} {m left:List (κ × α)}
end
set_option maxHeartbeats 1000000
theorem RSt.upd {w1 w w':World} {K F:Nat->Prop} {rb n m:Nat} {S:RS} (h:RSt w1 w K rb n m S) (hu:Upd F w w') (hF:∀ k,F k->K k/\w1.heap.size<=k):RSt w1 w' K rb n m S:=by
 obtain ⟨G,a,b,d,e⟩:=h
 exact ⟨G,a.frame hu fun k hk hf=>(d k (hF k hf).1).2 hk,b,fun k hk=>⟨Nat.lt_of_lt_of_le (d k hk).1 hu.size,(d k hk).2⟩,e.trans (hu.below e.size fun k hk hf=>by have:=(hF k hf).2;omega)⟩
theorem Chs.upd {w1 w0 w w':World} {K F:Nat->Prop} {sb rb ti tl n N a nx:Nat} {C:List Ck} {L:List Lg} {X:List (Nat × ByteArray)} (h:Chs w1 w0 w K sb rb ti tl n N a C L nx X) (hu:Upd F w w') (hF:∀ k,F k->K k/\w1.heap.size<=k/\k≠sb/\k≠ti/\k≠tl):Chs w1 w' w' K sb rb ti tl n N a C L nx X:=by
 obtain ⟨S,o0,o1,h1,h2⟩:=h
 have hs:=h1.1.2
 refine ⟨S,o0,o1,⟨⟨h1.1.1.upd hu fun k hk=>⟨.inl (hF k hk).1,(hF k hk).2.1⟩,?_,?_,?_⟩,fun _ _=>rfl⟩,h2⟩
 ·exact hu.at hs.1 fun hf=>(hF _ hf).2.2.1 rfl
 ·exact hu.at hs.2.1 fun hf=>(hF _ hf).2.2.2.1 rfl
 ·exact hu.at hs.2.2 fun hf=>(hF _ hf).2.2.2.2 rfl
section
variable {w1 w0 w w':World} {K:Nat->Prop} {sb rb ti tl i:Nat} {M:List (ByteArray × ByteArray)} {t:ByteArray}
end
set_option maxHeartbeats 2000000
section
variable (w1 w w0:World) (K:Nat->Prop) (sb rb ti tl n N m:Nat) (C:List Ck) (L:List Lg) (X:List (Nat × ByteArray))
end
theorem RSt.updN {w1 w w':World} {K F:Nat->Prop} {rb n m:Nat} {S:RS} (h:RSt w1 w K rb n m S) (hu:Upd F w w') (hF:∀ k,F k->K k/\w1.heap.size<=k):RSt w1 w' (fun k=>K k\/(w.heap.size<=k/\k<w'.heap.size)) rb n m S:=by
 obtain ⟨G,a,b,d,e⟩:=h
 refine ⟨G,a.frame hu fun k hk hf=>(d k (hF k hf).1).2 hk,b,fun k hk=>?_,e.trans (hu.below e.size fun k hk hf=>by have:=(hF k hf).2;omega)⟩
 rcases hk with hk|hk
 ·exact ⟨Nat.lt_of_lt_of_le (d k hk).1 hu.size,(d k hk).2⟩
 ·exact ⟨hk.2,fun hg=>by have:=a.lt k hg;omega⟩
theorem Chs.updN {w1 w0 w w':World} {K F:Nat->Prop} {sb rb ti tl n N a nx:Nat} {C:List Ck} {L:List Lg} {X:List (Nat × ByteArray)} (h:Chs w1 w0 w K sb rb ti tl n N a C L nx X) (hu:Upd F w w') (hF:∀ k,F k->K k/\w1.heap.size<=k/\k≠sb/\k≠ti/\k≠tl):Chs w1 w' w' (fun k=>K k\/(w.heap.size<=k/\k<w'.heap.size)) sb rb ti tl n N a C L nx X:=by
 obtain ⟨S,o0,o1,h1,h2⟩:=h
 have hs:=h1.1.2
 refine ⟨S,o0,o1,⟨⟨(h1.1.1.updN hu fun k hk=>⟨.inl (hF k hk).1,(hF k hk).2.1⟩).mono fun k hk=>?_,?_,?_,?_⟩,fun _ _=>rfl⟩,h2⟩
 ·rcases hk with (hk|hk)|hk
  ·exact .inl (.inl hk)
  ·exact .inr hk
  ·exact .inl (.inr hk)
 ·exact hu.at hs.1 fun hf=>(hF _ hf).2.2.1 rfl
 ·exact hu.at hs.2.1 fun hf=>(hF _ hf).2.2.2.1 rfl
 ·exact hu.at hs.2.2 fun hf=>(hF _ hf).2.2.2.2 rfl
section
variable {w1 w0 w w':World} {K K' F:Nat->Prop} {sb rb ti tl n N m:Nat} {C:List Ck} {L:List Lg} {X:List (Nat × ByteArray)}
end
section
variable {w1 w0 w wr w' w3 w4:World} {K:Nat->Prop} {sb rb ti tl n N m k B:Nat} {C C' C2:List Ck} {L L':List Lg} {X X' X2:List (Nat × ByteArray)} {P:List (List UInt8)} {vp v v':Value}
end
set_option maxHeartbeats 4000000
section
variable (w1 w w0:World) (K:Nat->Prop) (sb rb ti tl n N m:Nat) (C:List Ck) (L:List Lg) (X:List (Nat × ByteArray))
end
set_option maxHeartbeats 2000000
set_option maxHeartbeats 4000000
section
variable {w1 w0 w W W2 w3 w4:World} {K:Nat->Prop} {sb rb ti tl n N m ys bb:Nat} {C:List Ck} {L:List Lg} {X:List (Nat × ByteArray)} {out:List UInt8}
end
set_option maxHeartbeats 2000000
set_option maxHeartbeats 4000000
section
variable (w1 w w0:World) (K:Nat->Prop) (sb rb ti tl n N m:Nat) (C:List Ck) (L:List Lg) (X:List (Nat × ByteArray))
end
end Go.Proofs.YtdcjhpafipbpkaaGreatDoor
