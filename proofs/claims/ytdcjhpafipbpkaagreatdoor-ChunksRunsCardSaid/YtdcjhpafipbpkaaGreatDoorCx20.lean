/- Parts of the proof of ChunksRuns,joined: CrnE,CrnF,CrnG. No condition. -/
import Derived.Test.YtdcjhpafipbpkaaGreatDoorCx19
set_option linter.unusedSimpArgs false
set_option linter.unusedVariables false
set_option linter.unusedSectionVars false
namespace Go.Proofs.YtdcjhpafipbpkaaGreatDoor
set_option maxRecDepth 100000
set_option maxHeartbeats 8000000
open Go.RowKit
section
variable {w1 wr:World} {B sb rb ti tl k a nx:Nat} {v0 v1:Value} {K:Nat -> Prop} {C:List Ck} {L:List Lg}
theorem Do_put (n by_:Int) (t:ByteArray) (raw:Bool) (h:Hid (RnL w1 B sb rb ti tl k v0 v1 K C L nx a wr)) (hk:k < 80) :
 Calls Tryz.prog 47 #[.pointer (some ⟨sb,0,none⟩),.pointer (some ⟨B,0,none⟩),.agg #[.int .i64 0,.int .i64 n,.int .i64 by_,.string t,.bool raw]] wr fun e w'=>e=.returned (.tuple #[.bool true,.bool false]) /\ Hid (∃ v0' v1' K' C2 L2 nx2 a2,RnL w1 B sb rb ti tl (k + 1) v0' v1' K' C2 L2 nx2 a2 w'):=by
 have hN:=h.out.new (actO 0 n by_ t raw)
 obtain ⟨W1,hW1⟩:=exE (wr.alloc (.cells #[.int .i64 0,.int .i64 n,.int .i64 by_,.string t,.bool raw] 96))
 rw [show wr.alloc (actO 0 n by_ t raw)=W1 from hW1] at hN
 have hy:W1.heap[wr.heap.size]?=some (actO 0 n by_ t raw):=by rw [<- hW1]; exact heap_alloc_new _ _
 obtain ⟨f0,fc0,f1,fc1,hf⟩:=h.out.ref.form
 cases hf
 have HN:=Hd hN
 have HY:=Hd hy
 obtain ⟨y0,y1,y2,y3,y4⟩:=act_cells (K:=K) (fun _ _=>rfl) hy
 obtain ⟨id,fr,er,her,hbo⟩:=HN.out.put hk t
 obtain ⟨D,E,PE,RP⟩:=hbo
 clear hN hy h
 go_enter Tryz.func47,Tryz.ntmps47
 go_wp2_with fail
 clear hW1
 refine PE.mono ?_
 rintro e w4 ⟨rfl,q4⟩
 obtain ⟨a',C',L',nx',hD,hE,hbud',q4⟩:=q4.out
 clear y0 y1 y2 y3 y4 PE
 obtain ⟨y0,y1,y2,y3,y4⟩:=act_cells q4.kept HY.out
 have bx4:=(q4.kept B HN.out.kb).trans HN.out.box
 have x0:=cell_lit bx4 (i:=0) rfl
 have x1:=cell_lit bx4 (i:=1) rfl
 obtain ⟨hS0,hSa,RA,RB⟩:=RnL.calls (rt:=fun v'=>.tuple #[v',.string id,.bool fr,.int .i64 er]) (fn:=97) (args:=#[.agg #[.slice f0 (rC C).length fc0,.slice f1 (rL L).length fc1],.string t]) HN.out q4 HY.out hbud' (fun W hW=>by rw [hD,hE]; exact RP W hW)
 unfold ActS at hS0 hSa RA RB
 clear RP bx4 HY HN q4 hbud' hD hE
 go_wp2_with fail
 go_region_held3 (fun w'=>w'.cell? ⟨B,0,none⟩=some (.slice f0 (rC C).length fc0) /\ w'.cell? ⟨B,1,none⟩=some (.slice f1 (rL L).length fc1) /\ w'.cell? ⟨wr.heap.size,0,none⟩=some (.int .i64 0) /\ w'.cell? ⟨wr.heap.size,1,none⟩=some (.int .i64 n) /\ w'.cell? ⟨wr.heap.size,2,none⟩=some (.int .i64 by_) /\ w'.cell? ⟨wr.heap.size,3,none⟩=some (.string t) /\ w'.cell? ⟨wr.heap.size,4,none⟩=some (.bool raw)) (first | (go_keep; done) | exact hSa _ | exact hka _ | exact hkb) ((first
  | (go_at_call 97
     refine Calls.at_args RA (by with_reducible rfl) ?_
     rintro e w5 ⟨g0,n0,c0,g1,n1,c1,rfl,hk5,hka,HA⟩)
  | (go_at_call 97
     refine Calls.at_args RB (by with_reducible rfl) ?_
     rintro e w5 ⟨g0,n0,c0,g1,n1,c1,rfl,hk5,hkb,⟨⟨t0,t1⟩,t2,t3⟩,HA⟩)))
 all_goals (
  clear x0 x1 y0 y1 y2 y3 y4
  first
   | obtain ⟨⟨z0,z1⟩,⟨b0,b1,b2,b3⟩,HG⟩:=HA.out _ rfl
   | obtain ⟨⟨z0,z1⟩,⟨b0,b1,b2,b3⟩,HG⟩:=HA.out
  go_wp2_with fail
  go_ret2
  exact ⟨by simp,HG⟩)
theorem Do_add (n by_:Int) (t:ByteArray) (raw:Bool) (h:Hid (RnL w1 B sb rb ti tl k v0 v1 K C L nx a wr)) (hk:k < 80) :
 Calls Tryz.prog 47 #[.pointer (some ⟨sb,0,none⟩),.pointer (some ⟨B,0,none⟩),.agg #[.int .i64 1,.int .i64 n,.int .i64 by_,.string t,.bool raw]] wr fun e w'=>e=.returned (.tuple #[.bool true,.bool false]) /\ Hid (∃ v0' v1' K' C2 L2 nx2 a2,RnL w1 B sb rb ti tl (k + 1) v0' v1' K' C2 L2 nx2 a2 w'):=by
 have hN:=h.out.new (actO 1 n by_ t raw)
 obtain ⟨W1,hW1⟩:=exE (wr.alloc (.cells #[.int .i64 1,.int .i64 n,.int .i64 by_,.string t,.bool raw] 96))
 rw [show wr.alloc (actO 1 n by_ t raw)=W1 from hW1] at hN
 have hy:W1.heap[wr.heap.size]?=some (actO 1 n by_ t raw):=by rw [<- hW1]; exact heap_alloc_new _ _
 obtain ⟨f0,fc0,f1,fc1,hf⟩:=h.out.ref.form
 cases hf
 have HN0:=Hd hN
 obtain ⟨y0,y1,y2,y3,y4⟩:=act_cells (K:=K) (fun _ _=>rfl) hy
 have x0:=cell_lit hN.box (i:=0) rfl
 have x1:=cell_lit hN.box (i:=1) rfl
 obtain ⟨⟨s1,s2,s3⟩,-⟩:=hN.sm hk
 have NM:Calls Tryz.prog 98 #[.agg #[.slice f0 (rC C).length fc0,.slice f1 (rL L).length fc1],.agg #[.int .i64 1,.int .i64 n,.int .i64 by_,.string t,.bool raw]] W1.drew fun e w'=>∃ id,e=.returned (.string id) /\ (w'.cell? ⟨B,0,none⟩=some (.slice f0 (rC C).length fc0) /\ w'.cell? ⟨B,1,none⟩=some (.slice f1 (rL L).length fc1) /\ w'.cell? ⟨wr.heap.size,0,none⟩=some (.int .i64 1) /\ w'.cell? ⟨wr.heap.size,1,none⟩=some (.int .i64 n) /\ w'.cell? ⟨wr.heap.size,2,none⟩=some (.int .i64 by_) /\ w'.cell? ⟨wr.heap.size,3,none⟩=some (.string t) /\ w'.cell? ⟨wr.heap.size,4,none⟩=some (.bool raw)) /\ Hid (Below W1.heap.size W1 w'):=by
  refine (nameL_c (.agg #[.slice f0 (rC C).length fc0,.slice f1 (rL L).length fc1]) (rC C) (rL L) (1,n,by_,t,raw) W1.drew (hN.ref.below (Below.refl _ _).drew) (by rw [rC_lenC]; omega)).mono ?_
  rintro e w' ⟨id,rfl,hb⟩
  have hb2:Below W1.heap.size W1 w':=(Below.refl W1.heap.size W1).drew.trans hb.out
  have q1:=(hb2.block _ (lt_of_heap hN.box)).trans hN.box
  have q2:=(hb2.block _ (lt_of_heap hy)).trans hy
  exact ⟨id,rfl,ActS.of q1 q2,Hd hb2⟩
 have HY0:=Hd hy
 clear hN hy h s1 s2 s3
 go_enter Tryz.func47,Tryz.ntmps47
 go_wp2_with fail
 clear hW1
 go_region_held3 (fun w'=>w'.cell? ⟨B,0,none⟩=some (.slice f0 (rC C).length fc0) /\ w'.cell? ⟨B,1,none⟩=some (.slice f1 (rL L).length fc1) /\ w'.cell? ⟨wr.heap.size,0,none⟩=some (.int .i64 1) /\ w'.cell? ⟨wr.heap.size,1,none⟩=some (.int .i64 n) /\ w'.cell? ⟨wr.heap.size,2,none⟩=some (.int .i64 by_) /\ w'.cell? ⟨wr.heap.size,3,none⟩=some (.string t) /\ w'.cell? ⟨wr.heap.size,4,none⟩=some (.bool raw)) (go_keep) ((first
  | (go_at_call 98
     refine Calls.at_args NM (by with_reducible rfl) ?_
     rintro e w2 ⟨id,rfl,hk2,HB2⟩)))
 have hN:=HN0.out.below HB2.out
 have hy:=(HB2.out.block _ (lt_of_heap HY0.out)).trans HY0.out
 have HN:=Hd hN
 have HY:=Hd hy
 clear x0 x1 y0 y1 y2 y3 y4
 obtain ⟨x0,x1,y0,y1,y2,y3,y4⟩:=hk2
 obtain ⟨er,her,hbo⟩:=HN.out.add hk id by_
 obtain ⟨D,E,PE,RP⟩:=hbo
 clear hN hy HN0 HY0 HB2 NM
 go_wp2_with fail
 refine PE.mono ?_
 rintro e w4 ⟨rfl,q4⟩
 obtain ⟨a',C',L',nx',hD,hE,hbud',q4⟩:=q4.out
 clear x0 x1 y0 y1 y2 y3 y4 PE
 obtain ⟨y0,y1,y2,y3,y4⟩:=act_cells q4.kept HY.out
 have bx4:=(q4.kept B HN.out.kb).trans HN.out.box
 have x0:=cell_lit bx4 (i:=0) rfl
 have x1:=cell_lit bx4 (i:=1) rfl
 obtain ⟨hS0,hSa,RA,RB⟩:=RnL.calls (rt:=fun v'=>.tuple #[v',.int .i64 er]) (fn:=99) (args:=#[.agg #[.slice f0 (rC C).length fc0,.slice f1 (rL L).length fc1],.string id,.int .i64 by_]) HN.out q4 HY.out hbud' (fun W hW=>by rw [hD,hE]; exact RP W hW)
 unfold ActS at hS0 hSa RA RB
 clear RP bx4 HY HN q4 hbud' hD hE
 go_wp2_with fail
 go_region_held3 (fun w'=>w'.cell? ⟨B,0,none⟩=some (.slice f0 (rC C).length fc0) /\ w'.cell? ⟨B,1,none⟩=some (.slice f1 (rL L).length fc1) /\ w'.cell? ⟨wr.heap.size,0,none⟩=some (.int .i64 1) /\ w'.cell? ⟨wr.heap.size,1,none⟩=some (.int .i64 n) /\ w'.cell? ⟨wr.heap.size,2,none⟩=some (.int .i64 by_) /\ w'.cell? ⟨wr.heap.size,3,none⟩=some (.string t) /\ w'.cell? ⟨wr.heap.size,4,none⟩=some (.bool raw)) (first | (go_keep; done) | exact hSa _ | exact hka _ | exact hkb) ((first
  | (go_at_call 99
     refine Calls.at_args RA (by with_reducible rfl) ?_
     rintro e w5 ⟨g0,n0,c0,g1,n1,c1,rfl,hk5,hka,HA⟩)
  | (go_at_call 99
     refine Calls.at_args RB (by with_reducible rfl) ?_
     rintro e w5 ⟨g0,n0,c0,g1,n1,c1,rfl,hk5,hkb,⟨⟨t0,t1⟩,t2,t3⟩,HA⟩)))
 all_goals (
  clear x0 x1 y0 y1 y2 y3 y4
  first
   | obtain ⟨⟨z0,z1⟩,⟨b0,b1,b2,b3⟩,HG⟩:=HA.out _ rfl
   | obtain ⟨⟨z0,z1⟩,⟨b0,b1,b2,b3⟩,HG⟩:=HA.out
  go_wp2_with fail
  go_ret2
  exact ⟨by simp,HG⟩)
theorem Do_apply (n by_:Int) (t:ByteArray) (raw:Bool) (h:Hid (RnL w1 B sb rb ti tl k v0 v1 K C L nx a wr)) (hk:k < 80) :
 Calls Tryz.prog 47 #[.pointer (some ⟨sb,0,none⟩),.pointer (some ⟨B,0,none⟩),.agg #[.int .i64 5,.int .i64 n,.int .i64 by_,.string t,.bool raw]] wr fun e w'=>e=.returned (.tuple #[.bool true,.bool false]) /\ Hid (∃ v0' v1' K' C2 L2 nx2 a2,RnL w1 B sb rb ti tl (k + 1) v0' v1' K' C2 L2 nx2 a2 w'):=by
 have hN:=h.out.new (actO 5 n by_ t raw)
 obtain ⟨W1,hW1⟩:=exE (wr.alloc (.cells #[.int .i64 5,.int .i64 n,.int .i64 by_,.string t,.bool raw] 96))
 rw [show wr.alloc (actO 5 n by_ t raw)=W1 from hW1] at hN
 have hy:W1.heap[wr.heap.size]?=some (actO 5 n by_ t raw):=by rw [<- hW1]; exact heap_alloc_new _ _
 obtain ⟨f0,fc0,f1,fc1,hf⟩:=h.out.ref.form
 cases hf
 have HN0:=Hd hN
 obtain ⟨y0,y1,y2,y3,y4⟩:=act_cells (K:=K) (fun _ _=>rfl) hy
 have x0:=cell_lit hN.box (i:=0) rfl
 have x1:=cell_lit hN.box (i:=1) rfl
 obtain ⟨⟨s1,s2,s3⟩,-⟩:=hN.sm hk
 have NM:Calls Tryz.prog 98 #[.agg #[.slice f0 (rC C).length fc0,.slice f1 (rL L).length fc1],.agg #[.int .i64 5,.int .i64 n,.int .i64 by_,.string t,.bool raw]] W1.drew fun e w'=>∃ id,e=.returned (.string id) /\ (w'.cell? ⟨B,0,none⟩=some (.slice f0 (rC C).length fc0) /\ w'.cell? ⟨B,1,none⟩=some (.slice f1 (rL L).length fc1) /\ w'.cell? ⟨wr.heap.size,0,none⟩=some (.int .i64 5) /\ w'.cell? ⟨wr.heap.size,1,none⟩=some (.int .i64 n) /\ w'.cell? ⟨wr.heap.size,2,none⟩=some (.int .i64 by_) /\ w'.cell? ⟨wr.heap.size,3,none⟩=some (.string t) /\ w'.cell? ⟨wr.heap.size,4,none⟩=some (.bool raw)) /\ Hid (Below W1.heap.size W1 w'):=by
  refine (nameL_c (.agg #[.slice f0 (rC C).length fc0,.slice f1 (rL L).length fc1]) (rC C) (rL L) (5,n,by_,t,raw) W1.drew (hN.ref.below (Below.refl _ _).drew) (by rw [rC_lenC]; omega)).mono ?_
  rintro e w' ⟨id,rfl,hb⟩
  have hb2:Below W1.heap.size W1 w':=(Below.refl W1.heap.size W1).drew.trans hb.out
  have q1:=(hb2.block _ (lt_of_heap hN.box)).trans hN.box
  have q2:=(hb2.block _ (lt_of_heap hy)).trans hy
  exact ⟨id,rfl,ActS.of q1 q2,Hd hb2⟩
 have HY0:=Hd hy
 clear hN hy h s1 s2 s3
 go_enter Tryz.func47,Tryz.ntmps47
 go_wp2_with fail
 clear hW1
 go_region_held3 (fun w'=>w'.cell? ⟨B,0,none⟩=some (.slice f0 (rC C).length fc0) /\ w'.cell? ⟨B,1,none⟩=some (.slice f1 (rL L).length fc1) /\ w'.cell? ⟨wr.heap.size,0,none⟩=some (.int .i64 5) /\ w'.cell? ⟨wr.heap.size,1,none⟩=some (.int .i64 n) /\ w'.cell? ⟨wr.heap.size,2,none⟩=some (.int .i64 by_) /\ w'.cell? ⟨wr.heap.size,3,none⟩=some (.string t) /\ w'.cell? ⟨wr.heap.size,4,none⟩=some (.bool raw)) (go_keep) ((first
  | (go_at_call 98
     refine Calls.at_args NM (by with_reducible rfl) ?_
     rintro e w2 ⟨id,rfl,hk2,HB2⟩)))
 have hN:=HN0.out.below HB2.out
 have hy:=(HB2.out.block _ (lt_of_heap HY0.out)).trans HY0.out
 have HN:=Hd hN
 have HY:=Hd hy
 clear x0 x1 y0 y1 y2 y3 y4
 obtain ⟨x0,x1,y0,y1,y2,y3,y4⟩:=hk2
 obtain ⟨er,hbo⟩:=HN.out.apply hk id by_
 obtain ⟨D,E,PE,RP⟩:=hbo
 clear hN hy HN0 HY0 HB2 NM
 go_wp2_with fail
 refine PE.mono ?_
 rintro e w4 ⟨rfl,q4⟩
 obtain ⟨a',C',L',nx',hD,hE,hbud',q4⟩:=q4.out
 clear x0 x1 y0 y1 y2 y3 y4 PE
 obtain ⟨y0,y1,y2,y3,y4⟩:=act_cells q4.kept HY.out
 have bx4:=(q4.kept B HN.out.kb).trans HN.out.box
 have x0:=cell_lit bx4 (i:=0) rfl
 have x1:=cell_lit bx4 (i:=1) rfl
 obtain ⟨hS0,hSa,RA,RB⟩:=RnL.calls (rt:=fun v'=>.tuple #[v',.int .i64 er]) (fn:=100) (args:=#[.agg #[.slice f0 (rC C).length fc0,.slice f1 (rL L).length fc1],.string id,.int .i64 by_]) HN.out q4 HY.out hbud' (fun W hW=>by rw [hD,hE]; exact RP W hW)
 unfold ActS at hS0 hSa RA RB
 clear RP bx4 HY HN q4 hbud' hD hE
 go_wp2_with fail
 go_region_held3 (fun w'=>w'.cell? ⟨B,0,none⟩=some (.slice f0 (rC C).length fc0) /\ w'.cell? ⟨B,1,none⟩=some (.slice f1 (rL L).length fc1) /\ w'.cell? ⟨wr.heap.size,0,none⟩=some (.int .i64 5) /\ w'.cell? ⟨wr.heap.size,1,none⟩=some (.int .i64 n) /\ w'.cell? ⟨wr.heap.size,2,none⟩=some (.int .i64 by_) /\ w'.cell? ⟨wr.heap.size,3,none⟩=some (.string t) /\ w'.cell? ⟨wr.heap.size,4,none⟩=some (.bool raw)) (first | (go_keep; done) | exact hSa _ | exact hka _ | exact hkb) ((first
  | (go_at_call 100
     refine Calls.at_args RA (by with_reducible rfl) ?_
     rintro e w5 ⟨g0,n0,c0,g1,n1,c1,rfl,hk5,hka,HA⟩)
  | (go_at_call 100
     refine Calls.at_args RB (by with_reducible rfl) ?_
     rintro e w5 ⟨g0,n0,c0,g1,n1,c1,rfl,hk5,hkb,⟨⟨t0,t1⟩,t2,t3⟩,HA⟩)))
 all_goals (
  clear x0 x1 y0 y1 y2 y3 y4
  first
   | obtain ⟨⟨z0,z1⟩,⟨b0,b1,b2,b3⟩,HG⟩:=HA.out _ rfl
   | obtain ⟨⟨z0,z1⟩,⟨b0,b1,b2,b3⟩,HG⟩:=HA.out
  go_wp2_with fail
  go_ret2
  exact ⟨by simp,HG⟩)
theorem Do_merge (n by_:Int) (t:ByteArray) (raw:Bool) (h:Hid (RnL w1 B sb rb ti tl k v0 v1 K C L nx a wr)) (hk:k < 80) (hn:I64 n) :
 Calls Tryz.prog 47 #[.pointer (some ⟨sb,0,none⟩),.pointer (some ⟨B,0,none⟩),.agg #[.int .i64 2,.int .i64 n,.int .i64 by_,.string t,.bool raw]] wr fun e w'=>e=.returned (.tuple #[.bool true,.bool false]) /\ Hid (∃ v0' v1' K' C2 L2 nx2 a2,RnL w1 B sb rb ti tl (k + 1) v0' v1' K' C2 L2 nx2 a2 w'):=by
 have hN:=h.out.new (actO 2 n by_ t raw)
 obtain ⟨W1,hW1⟩:=exE (wr.alloc (.cells #[.int .i64 2,.int .i64 n,.int .i64 by_,.string t,.bool raw] 96))
 rw [show wr.alloc (actO 2 n by_ t raw)=W1 from hW1] at hN
 have hy:W1.heap[wr.heap.size]?=some (actO 2 n by_ t raw):=by rw [<- hW1]; exact heap_alloc_new _ _
 obtain ⟨f0,fc0,f1,fc1,hf⟩:=h.out.ref.form
 cases hf
 have HN:=Hd hN
 have HY:=Hd hy
 obtain ⟨y0,y1,y2,y3,y4⟩:=act_cells (K:=K) (fun _ _=>rfl) hy
 obtain ⟨m,hbo⟩:=HN.out.merge hk n hn
 obtain ⟨D,E,PE,RP⟩:=hbo
 clear hN hy h
 go_enter Tryz.func47,Tryz.ntmps47
 go_wp2_with fail
 clear hW1
 refine PE.mono ?_
 rintro e w4 ⟨rfl,q4⟩
 obtain ⟨a',C',L',nx',hD,hE,hbud',q4⟩:=q4.out
 clear y0 y1 y2 y3 y4 PE
 obtain ⟨y0,y1,y2,y3,y4⟩:=act_cells q4.kept HY.out
 have bx4:=(q4.kept B HN.out.kb).trans HN.out.box
 have x0:=cell_lit bx4 (i:=0) rfl
 have x1:=cell_lit bx4 (i:=1) rfl
 obtain ⟨hS0,hSa,RA,RB⟩:=RnL.calls (rt:=fun v'=>.tuple #[v',.int .i64 (m:Int)]) (fn:=49) (args:=#[.agg #[.slice f0 (rC C).length fc0,.slice f1 (rL L).length fc1],.int .i64 n]) HN.out q4 HY.out hbud' (fun W hW=>by rw [hD,hE]; exact RP W hW)
 unfold ActS at hS0 hSa RA RB
 clear RP bx4 HY HN q4 hbud' hD hE
 go_wp2_with fail
 go_region_held3 (fun w'=>w'.cell? ⟨B,0,none⟩=some (.slice f0 (rC C).length fc0) /\ w'.cell? ⟨B,1,none⟩=some (.slice f1 (rL L).length fc1) /\ w'.cell? ⟨wr.heap.size,0,none⟩=some (.int .i64 2) /\ w'.cell? ⟨wr.heap.size,1,none⟩=some (.int .i64 n) /\ w'.cell? ⟨wr.heap.size,2,none⟩=some (.int .i64 by_) /\ w'.cell? ⟨wr.heap.size,3,none⟩=some (.string t) /\ w'.cell? ⟨wr.heap.size,4,none⟩=some (.bool raw)) (first | (go_keep; done) | exact hSa _ | exact hka _ | exact hkb) ((first
  | (go_at_call 49
     refine Calls.at_args RA (by with_reducible rfl) ?_
     rintro e w5 ⟨g0,n0,c0,g1,n1,c1,rfl,hk5,hka,HA⟩)
  | (go_at_call 49
     refine Calls.at_args RB (by with_reducible rfl) ?_
     rintro e w5 ⟨g0,n0,c0,g1,n1,c1,rfl,hk5,hkb,⟨⟨t0,t1⟩,t2,t3⟩,HA⟩)))
 all_goals (
  clear x0 x1 y0 y1 y2 y3 y4
  first
   | obtain ⟨⟨z0,z1⟩,⟨b0,b1,b2,b3⟩,HG⟩:=HA.out _ rfl
   | obtain ⟨⟨z0,z1⟩,⟨b0,b1,b2,b3⟩,HG⟩:=HA.out
  go_wp2_with fail
  go_ret2
  exact ⟨by simp,HG⟩)
theorem Do_recl (n by_:Int) (t:ByteArray) (raw:Bool) (h:Hid (RnL w1 B sb rb ti tl k v0 v1 K C L nx a wr)) (hk:k < 80) (hn:I64 n) :
 Calls Tryz.prog 47 #[.pointer (some ⟨sb,0,none⟩),.pointer (some ⟨B,0,none⟩),.agg #[.int .i64 3,.int .i64 n,.int .i64 by_,.string t,.bool raw]] wr fun e w'=>e=.returned (.tuple #[.bool true,.bool false]) /\ Hid (∃ v0' v1' K' C2 L2 nx2 a2,RnL w1 B sb rb ti tl (k + 1) v0' v1' K' C2 L2 nx2 a2 w'):=by
 have hN:=h.out.new (actO 3 n by_ t raw)
 obtain ⟨W1,hW1⟩:=exE (wr.alloc (.cells #[.int .i64 3,.int .i64 n,.int .i64 by_,.string t,.bool raw] 96))
 rw [show wr.alloc (actO 3 n by_ t raw)=W1 from hW1] at hN
 have hy:W1.heap[wr.heap.size]?=some (actO 3 n by_ t raw):=by rw [<- hW1]; exact heap_alloc_new _ _
 obtain ⟨f0,fc0,f1,fc1,hf⟩:=h.out.ref.form
 cases hf
 have HN:=Hd hN
 have HY:=Hd hy
 obtain ⟨y0,y1,y2,y3,y4⟩:=act_cells (K:=K) (fun _ _=>rfl) hy
 obtain ⟨m,hbo⟩:=HN.out.recl hk n hn
 obtain ⟨D,E,PE,RP⟩:=hbo
 clear hN hy h
 go_enter Tryz.func47,Tryz.ntmps47
 go_wp2_with fail
 clear hW1
 refine PE.mono ?_
 rintro e w4 ⟨rfl,q4⟩
 obtain ⟨a',C',L',nx',hD,hE,hbud',q4⟩:=q4.out
 clear y0 y1 y2 y3 y4 PE
 obtain ⟨y0,y1,y2,y3,y4⟩:=act_cells q4.kept HY.out
 have bx4:=(q4.kept B HN.out.kb).trans HN.out.box
 have x0:=cell_lit bx4 (i:=0) rfl
 have x1:=cell_lit bx4 (i:=1) rfl
 obtain ⟨hS0,hSa,RA,RB⟩:=RnL.calls (rt:=fun v'=>.tuple #[v',.int .i64 (m:Int)]) (fn:=50) (args:=#[.agg #[.slice f0 (rC C).length fc0,.slice f1 (rL L).length fc1],.int .i64 n]) HN.out q4 HY.out hbud' (fun W hW=>by rw [hD,hE]; exact RP W hW)
 unfold ActS at hS0 hSa RA RB
 clear RP bx4 HY HN q4 hbud' hD hE
 go_wp2_with fail
 go_region_held3 (fun w'=>w'.cell? ⟨B,0,none⟩=some (.slice f0 (rC C).length fc0) /\ w'.cell? ⟨B,1,none⟩=some (.slice f1 (rL L).length fc1) /\ w'.cell? ⟨wr.heap.size,0,none⟩=some (.int .i64 3) /\ w'.cell? ⟨wr.heap.size,1,none⟩=some (.int .i64 n) /\ w'.cell? ⟨wr.heap.size,2,none⟩=some (.int .i64 by_) /\ w'.cell? ⟨wr.heap.size,3,none⟩=some (.string t) /\ w'.cell? ⟨wr.heap.size,4,none⟩=some (.bool raw)) (first | (go_keep; done) | exact hSa _ | exact hka _ | exact hkb) ((first
  | (go_at_call 50
     refine Calls.at_args RA (by with_reducible rfl) ?_
     rintro e w5 ⟨g0,n0,c0,g1,n1,c1,rfl,hk5,hka,HA⟩)
  | (go_at_call 50
     refine Calls.at_args RB (by with_reducible rfl) ?_
     rintro e w5 ⟨g0,n0,c0,g1,n1,c1,rfl,hk5,hkb,⟨⟨t0,t1⟩,t2,t3⟩,HA⟩)))
 all_goals (
  clear x0 x1 y0 y1 y2 y3 y4
  first
   | obtain ⟨⟨z0,z1⟩,⟨b0,b1,b2,b3⟩,HG⟩:=HA.out _ rfl
   | obtain ⟨⟨z0,z1⟩,⟨b0,b1,b2,b3⟩,HG⟩:=HA.out
  go_wp2_with fail
  go_ret2
  exact ⟨by simp,HG⟩)
end
section
variable {w1 wr w':World} {B sb rb ti tl k a nx:Nat} {v0 v1:Value} {K:Nat -> Prop} {C:List Ck} {L:List Lg}
theorem RnL.stay (h:RnL w1 B sb rb ti tl k v0 v1 K C L nx a wr) (q:Chs w1 wr w' K sb rb ti tl 30000 1000 a C L nx (cpg C)):RnL w1 B sb rb ti tl k v0 v1 K C L nx a w':=by
 have hk:=q.kept
 exact ⟨q.reset,(hk B h.kb).trans h.box,h.kb,h.ref.keepW (h.loc.mono fun j hj=>hj.1) hk fun j e=>q.klt e,h.loc,h.lo,h.bud⟩
theorem RnL.up (h:RnL w1 B sb rb ti tl k v0 v1 K C L nx a wr):RnL w1 B sb rb ti tl (k + 1) v0 v1 K C L nx a wr:=⟨h.st,h.box,h.kb,h.ref,h.loc,h.lo,h.bud.same⟩
theorem RnL.xs (h:RnL w1 B sb rb ti tl k v0 v1 K C L nx a wr):wr.cell? ⟨B,0,none⟩=some v0 /\ wr.cell? ⟨B,1,none⟩=some v1:=⟨cell_lit h.box rfl,cell_lit h.box rfl⟩
theorem Do_else (what n by_:Int) (t:ByteArray) (raw:Bool) (h:Hid (RnL w1 B sb rb ti tl k v0 v1 K C L nx a wr)) (hw:what ≠ 0 /\ what ≠ 1 /\ what ≠ 2 /\ what ≠ 3 /\ what ≠ 4 /\ what ≠ 5) :
 Calls Tryz.prog 47 #[.pointer (some ⟨sb,0,none⟩),.pointer (some ⟨B,0,none⟩),.agg #[.int .i64 what,.int .i64 n,.int .i64 by_,.string t,.bool raw]] wr fun e w'=>e=.returned (.tuple #[.bool true,.bool false]) /\ Hid (∃ v0' v1' K' C2 L2 nx2 a2,RnL w1 B sb rb ti tl (k + 1) v0' v1' K' C2 L2 nx2 a2 w'):=by
 obtain ⟨h0,h1,h2,h3,h4,h5⟩:=hw
 have d0:(what == 0)=false:=by simpa using h0
 have d1:(what == 1)=false:=by simpa using h1
 have d2:(what == 2)=false:=by simpa using h2
 have d3:(what == 3)=false:=by simpa using h3
 have d4:(what == 4)=false:=by simpa using h4
 have d5:(what == 5)=false:=by simpa using h5
 have HG:=Hd (h.out.below ((Below.refl _ _).alloc (Nat.le_refl _) (.cells #[.int .i64 what,.int .i64 n,.int .i64 by_,.string t,.bool raw] 96))).up
 clear h h0 h1 h2 h3 h4 h5
 go_enter Tryz.func47,Tryz.ntmps47
 go_wp2_with fail
 go_ret2
 exact ⟨rfl,Hd ⟨_,_,_,_,_,_,_,HG.out⟩⟩
theorem Do_get (n by_:Int) (t:ByteArray) (raw:Bool) (h:Hid (RnL w1 B sb rb ti tl k v0 v1 K C L nx a wr)) (hk:k < 80) :
 Calls Tryz.prog 47 #[.pointer (some ⟨sb,0,none⟩),.pointer (some ⟨B,0,none⟩),.agg #[.int .i64 4,.int .i64 n,.int .i64 by_,.string t,.bool raw]] wr fun e w'=>e=.returned (.tuple #[.bool true,.bool false]) /\ Hid (∃ v0' v1' K' C2 L2 nx2 a2,RnL w1 B sb rb ti tl (k + 1) v0' v1' K' C2 L2 nx2 a2 w'):=by
 have hN:=h.out.new (actO 4 n by_ t raw)
 obtain ⟨W1,hW1⟩:=exE (wr.alloc (.cells #[.int .i64 4,.int .i64 n,.int .i64 by_,.string t,.bool raw] 96))
 rw [show wr.alloc (actO 4 n by_ t raw)=W1 from hW1] at hN
 have hy:W1.heap[wr.heap.size]?=some (actO 4 n by_ t raw):=by rw [<- hW1]; exact heap_alloc_new _ _
 obtain ⟨f0,fc0,f1,fc1,hf⟩:=h.out.ref.form
 cases hf
 have HN0:=Hd hN
 obtain ⟨y0,y1,y2,y3,y4⟩:=act_cells (K:=K) (fun _ _=>rfl) hy
 have x0:=cell_lit hN.box (i:=0) rfl
 have x1:=cell_lit hN.box (i:=1) rfl
 obtain ⟨⟨s1,s2,s3⟩,-⟩:=hN.sm hk
 have NM:Calls Tryz.prog 98 #[.agg #[.slice f0 (rC C).length fc0,.slice f1 (rL L).length fc1],.agg #[.int .i64 4,.int .i64 n,.int .i64 by_,.string t,.bool raw]] W1.drew fun e w'=>∃ id,e=.returned (.string id) /\ (w'.cell? ⟨B,0,none⟩=some (.slice f0 (rC C).length fc0) /\ w'.cell? ⟨B,1,none⟩=some (.slice f1 (rL L).length fc1) /\ w'.cell? ⟨wr.heap.size,0,none⟩=some (.int .i64 4) /\ w'.cell? ⟨wr.heap.size,1,none⟩=some (.int .i64 n) /\ w'.cell? ⟨wr.heap.size,2,none⟩=some (.int .i64 by_) /\ w'.cell? ⟨wr.heap.size,3,none⟩=some (.string t) /\ w'.cell? ⟨wr.heap.size,4,none⟩=some (.bool raw)) /\ Hid (Below W1.heap.size W1 w'):=by
  refine (nameL_c (.agg #[.slice f0 (rC C).length fc0,.slice f1 (rL L).length fc1]) (rC C) (rL L) (4,n,by_,t,raw) W1.drew (hN.ref.below (Below.refl _ _).drew) (by rw [rC_lenC]; omega)).mono ?_
  rintro e w' ⟨id,rfl,hb⟩
  have hb2:Below W1.heap.size W1 w':=(Below.refl W1.heap.size W1).drew.trans hb.out
  have q1:=(hb2.block _ (lt_of_heap hN.box)).trans hN.box
  have q2:=(hb2.block _ (lt_of_heap hy)).trans hy
  exact ⟨id,rfl,ActS.of q1 q2,Hd hb2⟩
 have HY0:=Hd hy
 clear hN hy h s1 s2 s3
 go_enter Tryz.func47,Tryz.ntmps47
 go_wp2_with fail
 clear hW1
 go_region_held3 (fun w'=>w'.cell? ⟨B,0,none⟩=some (.slice f0 (rC C).length fc0) /\ w'.cell? ⟨B,1,none⟩=some (.slice f1 (rL L).length fc1) /\ w'.cell? ⟨wr.heap.size,0,none⟩=some (.int .i64 4) /\ w'.cell? ⟨wr.heap.size,1,none⟩=some (.int .i64 n) /\ w'.cell? ⟨wr.heap.size,2,none⟩=some (.int .i64 by_) /\ w'.cell? ⟨wr.heap.size,3,none⟩=some (.string t) /\ w'.cell? ⟨wr.heap.size,4,none⟩=some (.bool raw)) (go_keep) ((first
  | (go_at_call 98
     refine Calls.at_args NM (by with_reducible rfl) ?_
     rintro e w2 ⟨id,rfl,hk2,HB2⟩)))
 have hN:=HN0.out.below HB2.out
 have hy:=(HB2.out.block _ (lt_of_heap HY0.out)).trans HY0.out
 have HN:=Hd hN
 have HY:=Hd hy
 clear x0 x1 y0 y1 y2 y3 y4
 obtain ⟨x0,x1,y0,y1,y2,y3,y4⟩:=hk2
 clear hN hy HN0 HY0 HB2 NM
 have hsm:=(HN.out.sm hk).1
 have HST:=Hd hsm
 cases hf:cAt C id with
 | none =>
   have GP:=Get_none2 w1 w2 w2 _ sb rb ti tl 30000 1000 a nx C L (cpg C) id (Hd HN.out.st) ⟨by omega,by decide⟩ hf
   have hg0:getR (rC C) id=(⟨#[]⟩,6):=by unfold getR; rw [fnd_rC,hf]; rfl
   go_wp2_with fail
   refine GP.mono ?_
   rintro e w3 ⟨rfl,q3⟩
   have HN3:=Hd (HN.out.stay q3.out)
   clear x0 x1 y0 y1 y2 y3 y4 GP
   obtain ⟨x0,x1⟩:=HN3.out.xs
   have R3:=Get_rc _ (rC C) (rL L) id w3 HN3.out.ref (by rw [rC_lenC]; omega)
   rw [hg0] at R3
   go_wp2_with fail
   refine R3.mono ?_
   rintro e w4 ⟨rfl,hb4⟩
   have HN4:=Hd (HN3.out.below hb4.out)
   clear x0 x1 R3
   obtain ⟨x0,x1⟩:=HN4.out.xs
   have C4:=Count_none2 w1 w4 w4 _ sb rb ti tl 30000 1000 a nx C L (cpg C) id (Hd HN4.out.st) ⟨by omega,by decide⟩ hf
   go_wp2_with fail
   refine C4.mono ?_
   rintro e w5 ⟨rfl,q5⟩
   have HN5:=Hd (HN4.out.stay q5.out)
   clear x0 x1 C4
   obtain ⟨x0,x1⟩:=HN5.out.xs
   have P5:=Pending_rc _ (rC C) (rL L) id w5 HN5.out.ref (by rw [rL_lenC]; omega) (lg_by L)
   go_wp2_with fail
   refine P5.mono ?_
   rintro e w6 ⟨rfl,hb6⟩
   have HN6:=Hd (HN5.out.below hb6.out)
   clear x0 x1 P5
   obtain ⟨x0,x1⟩:=HN6.out.xs
   have HG:=Hd (HN6.out.below (Below.refl w6.heap.size w6).drew).up
   clear hf hg0 HN HY HN3 HN4 HN5 HN6 q3 q5 hb4 hb6 hsm
   generalize (pendR (rL L) id).1=ps at *
   generalize ((pendR (rL L) id).2:Int)=pn at *
   go_wp2_with fail
   refine wp_region_noPanic ?_
   refine wp_region_held_drew (S:=(fun (w':World)=>w'.cell? ⟨B,0,none⟩=some (.slice f0 (rC C).length fc0) /\ w'.cell? ⟨B,1,none⟩=some (.slice f1 (rL L).length fc1))) (by kernel_rfl) ?_ (fun hHeld=>?_)
   ·exact ⟨x0,x1⟩
   refine' tkH 0 rfl ?_
   try simp only [Act.put,List.setIfInBounds_toArray,List.set_cons_zero,List.set_cons_succ,List.getElem_toArray,List.getElem_cons_zero]
   refine' tkH 1 rfl ?_; try simp only [Act.put,awL]
   refine' tkH 2 rfl ?_; try simp only [Act.put,awL]
   refine' tkH 3 rfl ?_; try simp only [Act.put,awL]
   refine' tkH 4 rfl ?_; try simp only [Act.put,awL]
   refine' tkH 5 rfl ?_; try simp only [Act.put,awL]
   refine' tkH 6 rfl ?_; try simp only [Act.put,awL]
   refine' tkH 7 rfl ?_; try simp only [Act.put,awL]
   refine' tkH 8 rfl ?_; try simp only [Act.put,awL]
   refine' tkH 9 rfl ?_; try simp only [Act.put,awL]
   refine' tkH 10 rfl ?_; try simp only [Act.put,awL]
   refine' tkH 11 rfl ?_ (Or.inr ⟨by rfl,rfl⟩)
   try simp only [Act.put,awL]
   refine' tkH 12 rfl ?_ (Or.inr ⟨by rfl,rfl⟩)
   try simp only [Act.put,awL]
   refine' tkH 13 rfl ?_ (Or.inr ⟨by rfl,rfl⟩)
   try simp only [Act.put,awL]
   refine' tkH 14 rfl ?_ (Or.inr ⟨by rfl,rfl⟩)
   try simp only [Act.put,awL]
   refine' tkH 15 rfl ?_ (Or.inr ⟨by rfl,rfl⟩)
   try simp only [Act.put,awL]
   refine' tkH 16 rfl ?_ (Or.inr ⟨by rfl,rfl⟩)
   try simp only [Act.put,awL]
   refine' tkH 17 rfl ?_ (Or.inr ⟨by rfl,rfl⟩)
   try simp only [Act.put,awL]
   refine' tkH 18 rfl ?_ (Or.inr ⟨by rfl,rfl⟩)
   try simp only [Act.put,awL]
   refine' tkH 19 rfl ?_ (Or.inr ⟨by rfl,rfl⟩)
   try simp only [Act.put,awL]
   refine' tkH 20 rfl ?_ (Or.inr ⟨by rfl,rfl⟩)
   try simp only [Act.put,awL]
   refine' tkH 21 rfl ?_ (Or.inr ⟨by rfl,rfl⟩)
   try simp only [Act.put,awL]
   refine' tkH 22 rfl ?_ (Or.inr ⟨by rfl,rfl⟩)
   try simp only [Act.put,awL]
   refine' tkH 23 rfl ?_ (Or.inr ⟨by rfl,rfl⟩)
   try simp only [Act.put,awL]
   refine' tkH 24 rfl ?_ (Or.inr ⟨by rfl,rfl⟩)
   try simp only [Act.put,awL]
   refine' tkH 25 rfl ?_ (Or.inr ⟨by rfl,rfl⟩)
   try simp only [Act.put,awL]
   refine' tkH 26 rfl ?_ (Or.inr ⟨by rfl,rfl⟩)
   try simp only [Act.put,awL]
   refine' tkH 27 rfl ?_ (Or.inr ⟨by rfl,rfl⟩)
   try simp only [Act.put,awL]
   refine' tkH 28 rfl ?_ (Or.inr ⟨by rfl,rfl⟩)
   try simp only [Act.put,awL]
   refine' tkH 29 rfl ?_ (Or.inr ⟨by rfl,rfl⟩)
   try simp only [Act.put,awL]
   refine' tkH 30 rfl ?_ (Or.inr ⟨by rfl,rfl⟩)
   try simp only [Act.put,awL]
   refine' tkH 31 rfl ?_ (Or.inr ⟨by rfl,rfl⟩)
   try simp only [Act.put,awL]
   refine' tkH 32 rfl ?_ (Or.inr ⟨by rfl,rfl⟩)
   try simp only [Act.put,awL]
   refine' tkH 33 rfl ?_ (Or.inr ⟨by rfl,rfl⟩)
   try simp only [Act.put,awL]
   refine' tkH 34 rfl ?_; try simp only [Act.put,awL]
   refine' tkH 35 rfl ?_; try simp only [Act.put,awL]
   refine' tkH 36 rfl ?_; try simp only [Act.put,awL]
   refine wpAnyH_done (by kernel_rfl) ?_ _
   refine NoPanic.normal ?_
   go_wp2_with fail
   go_ret2
   exact ⟨by simp,Hd ⟨_,_,_,_,_,_,_,HG.out⟩⟩
 | some c =>
   have his:=cAt_id hf HN.out.st.ok.1
   have hmem:=(cAt_some hf).1
   have GP:=Get_yes w1 w2 w2 _ sb rb ti tl 30000 1000 a nx C L (cpg C) id c (Hd HN.out.st) ⟨by omega,by decide⟩ (by omega) hf (List.mem_map.2 ⟨c,hmem,rfl⟩)
   have hg0:getR (rC C) id=(c.text,0):=by unfold getR; rw [fnd_rC,hf]; rfl
   have hfr:fndR (rC C) id=some (c.id,c.text,c.cnt):=by rw [fnd_rC,hf]; rfl
   obtain ⟨i,hi,hci,hxi,-⟩:=ixR_some hfr
   have hpn:=(pendR_rL L id).1
   go_wp2_with fail
   refine GP.mono ?_
   rintro e w3 ⟨rfl,q3⟩
   have HN3:=Hd (HN.out.stay q3.out)
   clear x0 x1 y0 y1 y2 y3 y4 GP
   obtain ⟨x0,x1⟩:=HN3.out.xs
   have R3:=Get_rc _ (rC C) (rL L) id w3 HN3.out.ref (by rw [rC_lenC]; omega)
   rw [hg0] at R3
   go_wp2_with fail
   refine R3.mono ?_
   rintro e w4 ⟨rfl,hb4⟩
   have HN4:=Hd (HN3.out.below hb4.out)
   clear x0 x1 R3
   obtain ⟨x0,x1⟩:=HN4.out.xs
   have C4:=Count_yes w1 w4 w4 _ sb rb ti tl 30000 1000 a nx C L (cpg C) id c (Hd HN4.out.st) ⟨by omega,by decide⟩ (by omega) hf (by omega)
   go_wp2_with fail
   refine C4.mono ?_
   rintro e w5 ⟨rfl,q5⟩
   have HN5:=Hd (HN4.out.stay q5.out)
   clear x0 x1 C4
   obtain ⟨x0,x1⟩:=HN5.out.xs
   have P5:=Pending_rc _ (rC C) (rL L) id w5 HN5.out.ref (by rw [rL_lenC]; omega) (lg_by L)
   rw [hpn] at P5
   go_wp2_with fail
   refine P5.mono ?_
   rintro e w6 ⟨rfl,hb6⟩
   have HN6:=Hd (HN5.out.below hb6.out)
   clear x0 x1 P5
   obtain ⟨x0,x1⟩:=HN6.out.xs
   obtain ⟨xa,xl,hx,rA,-⟩:=HN6.out.ref
   cases hx
   obtain ⟨-,-,c2⟩:=ckC_get hi
   obtain ⟨b,off,rfl,hb,hcell⟩:=rA.get c2
   have cq:w6.cell? ⟨b,off + i * 3 + 2,none⟩=some (.int .i64 c.cnt):=by
    have:=hcell _ _ c2
    rw [hci] at this
    exact this
   have ATC:Calls Tryz.prog 102 #[.agg #[.slice (some ⟨b,off,none⟩) (rC C).length fc0,.slice f1 (rL L).length fc1],.string id] w6.drew fun e w'=>e=.returned (.int .i64 (i:Int)) /\ (w'.cell? ⟨B,0,none⟩=some (.slice (some ⟨b,off,none⟩) (rC C).length fc0) /\ w'.cell? ⟨B,1,none⟩=some (.slice f1 (rL L).length fc1) /\ w'.cell? ⟨b,off + i * 3 + 2,none⟩=some (.int .i64 c.cnt)) /\ Hid (Below w6.heap.size w6 w'):=by
    have:=At_rc (.agg #[.slice (some ⟨b,off,none⟩) (rC C).length fc0,.slice f1 (rL L).length fc1]) (rC C) (rL L) id w6.drew (HN6.out.ref.below (Below.refl _ _).drew) (by rw [rC_lenC]; omega)
    rw [hxi] at this
    refine this.mono ?_
    rintro e w' ⟨rfl,h7⟩
    have hb7:Below w6.heap.size w6 w':=(Below.refl w6.heap.size w6).drew.trans h7.out
    obtain ⟨z0,z1⟩:=(HN6.out.below hb7).xs
    exact ⟨rfl,⟨z0,z1,(hb7.cell (p:=⟨b,off + i * 3 + 2,none⟩) hb).trans cq⟩,Hd hb7⟩
   have HG:Hid (∀ W,Below w6.heap.size w6 W -> RnL w1 B sb rb ti tl (k + 1) (.slice (some ⟨b,off,none⟩) (rC C).length fc0) (.slice f1 (rL L).length fc1) (fun j=>K j \/ j=wr.heap.size) C L nx a W):=Hd fun W hW=>(HN6.out.below hW).up
   have hil:i < (rC C).length:=hi
   have hlen:(rC C).length <= 1000:=by rw [rC_lenC]; omega
   clear hf hg0 HN HY HN3 HN4 HN5 HN6 q3 q5 hb4 hb6 hsm his hmem hfr hci hxi hpn rA c2 hcell hb hi
   generalize pend L id=ps at *
   generalize ((pendR (rL L) id).2:Int)=pn at *
   generalize c.text=ct at *
   go_wp2_with fail
   refine wp_region_noPanic ?_
   refine wp_region_held_drew (S:=(fun (w':World)=>w'.cell? ⟨B,0,none⟩=some (.slice (some ⟨b,off,none⟩) (rC C).length fc0) /\ w'.cell? ⟨B,1,none⟩=some (.slice f1 (rL L).length fc1) /\ w'.cell? ⟨b,off + i * 3 + 2,none⟩=some (.int .i64 c.cnt))) (by kernel_rfl) ?_ (fun hHeld=>?_)
   ·exact ⟨x0,x1,cq⟩
   refine' tkH 0 rfl ?_
   try simp only [Act.put,List.setIfInBounds_toArray,List.set_cons_zero,List.set_cons_succ,List.getElem_toArray,List.getElem_cons_zero]
   refine' tkH 1 rfl ?_; try simp only [Act.put,awL]
   refine' tkH 2 rfl ?_; try simp only [Act.put,awL]
   refine' tkH 3 rfl ?_ (Or.inr ⟨by rfl,rfl⟩)
   try simp only [Act.put,awL]
   refine' tkH 4 rfl ?_ (Or.inr ⟨by rfl,rfl⟩)
   try simp only [Act.put,awL]
   refine' tkH 5 rfl ?_; try simp only [Act.put,awL]
   refine' tkH 6 rfl ?_; try simp only [Act.put,awL]
   refine' tkH 7 rfl ?_ (Or.inr ⟨by rfl,rfl⟩)
   try simp only [Act.put,awL]
   refine' tkH 8 rfl ?_ (Or.inr ⟨by rfl,rfl⟩)
   try simp only [Act.put,awL]
   refine' tkH 9 rfl ?_; try simp only [Act.put,awL]
   refine' tkH 10 rfl ?_; try simp only [Act.put,awL]
   refine' tkH 11 rfl ?_; try simp only [Act.put,awL]
   refine' tkH 12 rfl ?_; try simp only [Act.put,awL]
   refine' tkH 13 rfl ?_; try simp only [Act.put,awL]
   refine' tkH 14 rfl ?_; try simp only [Act.put,awL]
   refine' tkH 15 rfl ?_; try simp only [Act.put,awL]
   refine' tkH 16 rfl ?_; try simp only [Act.put,awL]
   refine' tkH 17 rfl ?_; try simp only [Act.put,awL]
   refine' tkH 18 rfl ?_; try simp only [Act.put,awL]
   refine' tkH 19 rfl ?_; try simp only [Act.put,awL]
   refine' tkH 20 rfl ?_; try simp only [Act.put,awL]
   refine' tkH 21 rfl ?_; try simp only [Act.put,awL]
   refine' tkH 22 rfl ?_; try simp only [Act.put,awL]
   refine wpAnyH_ready (rs:=[23]) (by kernel_rfl) (by simp) ?_
   refine AllReadyH.cons rfl (fun K hK=>?_) AllReadyH.nil
   go_simp
   go_at_call 102
   refine Calls.at_args ATC (by with_reducible rfl) ?_
   rintro e w7 ⟨rfl,hk7,HB7⟩
   refine hK.out _ _ ?_ (fun hHeld=>?_)
   ·exact hk7
   clear hK K
   try simp only [Act.put,awL]
   refine' tkH 24 rfl ?_; try simp only [Act.put,awL]
   refine' tkH 25 rfl ?_; try simp only [Act.put,awL]
   refine' tkH 26 rfl ?_; try simp only [Act.put,awL]
   refine' tkH 27 rfl ?_; try simp only [Act.put,awL]
   refine' tkH 28 rfl ?_; try simp only [Act.put,awL]
   refine' tkH 29 rfl ?_; try simp only [Act.put,awL]
   refine' tkH 30 rfl ?_; try simp only [Act.put,awL]
   refine' tkH 31 rfl ?_; try simp only [Act.put,awL]
   refine' tkH 32 rfl ?_; try simp only [Act.put,awL]
   refine' tkH 33 rfl ?_; try simp only [Act.put,awL]
   refine' tkH 34 rfl ?_; try simp only [Act.put,awL]
   refine' tkH 35 rfl ?_; try simp only [Act.put,awL]
   refine' tkH 36 rfl ?_; try simp only [Act.put,awL]
   refine wpAnyH_done (by kernel_rfl) ?_ _
   refine NoPanic.normal ?_
   go_wp2_with fail
   go_ret2
   exact ⟨by simp,Hd ⟨_,_,_,_,_,_,_,HG.out _ HB7.out⟩⟩
end
section
variable {w1 wr:World} {B sb rb ti tl k a nx:Nat} {v0 v1:Value} {K:Nat -> Prop} {C:List Ck} {L:List Lg}
theorem Do_k (p:AcT) (hp:AcOk p) (h:Hid (RnL w1 B sb rb ti tl k v0 v1 K C L nx a wr)) (hk:k < 80) :
 Calls Tryz.prog 47 #[.pointer (some ⟨sb,0,none⟩),.pointer (some ⟨B,0,none⟩),.agg #[.int .i64 p.1,.int .i64 p.2.1,.int .i64 p.2.2.1,.string p.2.2.2.1,.bool p.2.2.2.2]] wr fun e w'=>e=.returned (.tuple #[.bool true,.bool false]) /\ Hid (∃ v0' v1' K' C2 L2 nx2 a2,RnL w1 B sb rb ti tl (k + 1) v0' v1' K' C2 L2 nx2 a2 w'):=by
 obtain ⟨what,n,by_,t,raw⟩:=p
 simp only
 by_cases h0:what=0
 ·subst h0; exact Do_put n by_ t raw h hk
 by_cases h1:what=1
 ·subst h1; exact Do_add n by_ t raw h hk
 by_cases h2:what=2
 ·subst h2; exact Do_merge n by_ t raw h hk hp.2.1
 by_cases h3:what=3
 ·subst h3; exact Do_recl n by_ t raw h hk hp.2.1
 by_cases h4:what=4
 ·subst h4; exact Do_get n by_ t raw h hk
 by_cases h5:what=5
 ·subst h5; exact Do_apply n by_ t raw h hk
 exact Do_else what n by_ t raw h ⟨h0,h1,h2,h3,h4,h5⟩
end
theorem RnL.start {w1 we:World} {sb rb ti tl:Nat} (h:Chs w1 we we (fun _=>False) sb rb ti tl 30000 1000 0 [] [] 0 []):RnL w1 we.heap.size sb rb ti tl 0 (.slice none 0 0) (.slice none 0 0) (fun j=>False \/ j=we.heap.size) [] [] 0 0 (we.alloc (.cells #[.slice none 0 0,.slice none 0 0] 52)):=by
 have hb:Below we.heap.size we (we.alloc (.cells #[.slice none 0 0,.slice none 0 0] 52)):=(Below.refl _ _).alloc (Nat.le_refl _) _
 have hs:=h.sbk
 have l1:=lt_of_heap hs.1
 have l2:=lt_of_heap hs.2.1
 have l3:=lt_of_heap hs.2.2
 refine ⟨h.new hb we.heap.size (Nat.le_refl _) (by simp),heap_alloc_new _ _,.inr rfl,StR.nil _,⟨_,_,rfl,fun g e=>(by cases e),fun g e=>(by cases e)⟩,⟨h.bel.size,by omega,by omega,by omega⟩,⟨by simp,by simp,fun c hc=>(by cases hc)⟩⟩
theorem ChunksRuns_k (v:Value) (l:List AcT) (w:World) (h:ActsIn w v l) :
 Calls Tryz.prog 10 #[v] w fun e w'=>e=.returned (.bool true) /\ Hid (Below w.heap.size w w'):=by
 have AW:=awake11_c
 have WD:=fun w=>Wide_c 30000 w (by decide) (by decide)
 rw [show ((30000:Nat):Int)=30000 from rfl] at WD
 have BE:=Begin_c
 have SM:Hid (∀ w1,Below w.heap.size w w1 -> Calls Tryz.prog 46 #[v] w1 fun e w'=>e=.returned (.bool (smallA l)) /\ Hid (Below w1.heap.size w1 w')):=Hd fun w1 hb=>Small_c v l w1 (h.below hb)
 have HV:=Hd h
 obtain ⟨a,cap,rfl,hc⟩:=h
 have HC:=Hd hc
 clear hc
 go_enter Tryz.func10,Tryz.ntmps10
 go_wp2_with fail
 refine (AW _).mono ?_
 rintro e wa ⟨rfl,hb⟩
 have S1:=SM.out wa hb.out
 have HBA:=Hd hb.out
 clear AW SM hb
 go_wp2_with fail
 refine S1.mono ?_
 rintro e ws ⟨rfl,hb⟩
 have HBS:=Hd (HBA.out.trans (hb.out.mono HBA.out.size))
 clear S1 hb HBA
 cases hsm:smallA l with
 | false =>
   go_wp2_with fail
   go_ret
   exact ⟨rfl,HBS⟩
 | true =>
   have h80:l.length <= 80:=by
    unfold smallA at hsm
    rw [Bool.and_eq_true] at hsm
    exact of_decide_eq_true hsm.1
   have H80:=Hd h80
   clear hsm h80
   go_wp2_with fail
   refine (WD _).mono ?_
   rintro e wb ⟨db,lb,FL,rfl,H1⟩
   go_wp2_with fail
   refine (BE lb wb).mono ?_
   rintro e wc ⟨rfl,H2⟩
   have OF:=Of_c _ lb 30000 FL _ [] wc (chg_new H1.out H2.out) (by decide)
   go_wp2_with fail
   refine OF.mono ?_
   rintro e wd ⟨rb,G,rfl,H3⟩
   have NR:=Hd (NewRoom.of HBS.out H1.out H2.out H3.out)
   clear OF H1 H2 H3 WD BE
   have AT:=At_k rb wd
   go_wp2_with fail
   refine AT.mono ?_
   rintro e we ⟨sb,ti,tl,rfl,HA⟩
   have M0:=Hd (RnL.start (Chs.start (N:=1000) NR.out (by decide) (by decide) HA.out.1 HA.out.2.1 HA.out.2.2))
   clear NR HA AT
   have M1:Hid (∃ v0 v1 K C L nx a,RnL w we.heap.size sb rb ti tl 0 v0 v1 K C L nx a (we.alloc (.cells #[.slice none 0 0,.slice none 0 0] 52))):=Hd ⟨_,_,_,_,_,_,_,M0.out⟩
   clear M0
   obtain ⟨B,hB⟩:=exE (we.heap.size)
   rw [hB] at M1
   go_wp2_with fail
   go_loopg [27] l.length (fun g s27 wr=>∃ (i:Nat),g=l.length - i /\ i <= l.length /\ s27=.int .i64 (i:Int) /\ Hid (∃ v0 v1 K C L nx a,RnL w B sb rb ti tl i v0 v1 K C L nx a wr))
   case atStart=>exact ⟨0,rfl,Nat.zero_le _,rfl,M1⟩
   case round =>
    obtain ⟨i,rfl,hi,rfl,HR⟩:=hrel
    clear M1 hB
    obtain ⟨v0,v1,K,C,L,nx,aa,HI⟩:=HR.out
    by_cases hlt:i < l.length
    ·obtain ⟨b,off,rfl,hbl,⟨c0,c1,c2,c3,c4⟩,hok⟩:=HC.out i hlt
     have kk:∀ j,wr.cell? ⟨b,j,none⟩=w.cell? ⟨b,j,none⟩:=fun j=>HI.st.bel.cell (p:=⟨b,j,none⟩) hbl
     replace c0:=(kk _).trans c0
     replace c1:=(kk _).trans c1
     replace c2:=(kk _).trans c2
     replace c3:=(kk _).trans c3
     replace c4:=(kk _).trans c4
     have hi80:i < 80:=by have:=H80.out; omega
     have DO:Hid (∀ o,Calls Tryz.prog 47 #[.pointer (some ⟨sb,0,none⟩),.pointer (some ⟨B,0,none⟩),.agg #[.int .i64 l[i].1,.int .i64 l[i].2.1,.int .i64 l[i].2.2.1,.string l[i].2.2.2.1,.bool l[i].2.2.2.2]] (wr.alloc o) fun e w'=>e=.returned (.tuple #[.bool true,.bool false]) /\ Hid (∃ v0' v1' K' C2 L2 nx2 a2,RnL w B sb rb ti tl (i + 1) v0' v1' K' C2 L2 nx2 a2 w')):=Hd fun o=>Do_k l[i] hok (Hd (HI.below ((Below.refl _ _).alloc (Nat.le_refl _) o))) hi80
     have HLT:=Hd hlt
     have hl5:l.length <= 80:=H80.out
     clear kk HI hok hbl
     generalize l[i].1=p0 at *
     generalize l[i].2.1=p1 at *
     generalize l[i].2.2.1=p2 at *
     generalize l[i].2.2.2.1=p3 at *
     generalize l[i].2.2.2.2=p4 at *
     go_wp2_with fail
     refine (DO.out _).mono ?_
     rintro e w2 ⟨rfl,H2⟩
     clear DO c0 c1 c2 c3 c4
     go_wp2_with fail
     go_roundg (l.length - (i + 1))
     case measure=>have:=HLT.out; omega
     case rel=>exact ⟨i + 1,rfl,HLT.out,by congr 1,H2⟩
    ·obtain rfl:i=l.length:=by omega
     obtain ⟨x0,x1⟩:=HI.xs
     have h80:=H80.out
     obtain ⟨b1,b2,b3⟩:=HI.bud
     have HD:=Holds_k w wr wr K sb rb ti tl 30000 1000 aa nx C L (cpg C) (.agg #[v0,v1]) (Hd HI.st) ⟨by omega,by decide⟩ (by omega) (by omega) (fun c hc=>List.mem_map.2 ⟨c,hc,rfl⟩) HI.ref (HI.loc.mono fun k hk=>hk.1)
     clear HI b1 b2 b3 hlt hi
     go_wp2_with fail
     refine HD.mono ?_
     rintro e w7 ⟨rfl,H7⟩
     have HF:Hid (Below w.heap.size w w7):=Hd H7.out.bel
     clear HD H7
     go_wp2_with fail
     go_ret
     exact ⟨rfl,HF⟩
theorem ChunksRuns_w (v0:Value) (w:World) (g0:Reads w 93 v0):Calls Tryz.prog 10 #[v0] w fun e w'=>e=.returned (.bool true) /\ Below w.heap.size w w':=by
 obtain ⟨l,hl⟩:=reads_acts g0
 exact (ChunksRuns_k v0 l w hl).mono fun e w' h=>⟨h.1,h.2.out⟩
end Go.Proofs.YtdcjhpafipbpkaaGreatDoor
