/- ChunksFull: the card's proof out of the walk. -/
import Derived.Test.YtdcjhpafipbpkaaGreatDoorCf10
import Derived.Test.YtdcjhpafipbpkaaGreatDoorCards
import Derived.Test.YtdcjhpafipbpkaaGreatDoorTie
import Derived.ShutString
import Derived.Deep.DeepHandedRow
import Derived.Lib.LaidTab
namespace Go.Proofs.YtdcjhpafipbpkaaGreatDoor.chunksFull
open Go.ChangeShapes Go.WideShapes Go.ChangeAt Go.RowKit
theorem own:ownKnob Tryz.prog.godebug=none:=by kernel_rfl
set_option maxRecDepth 100000 in
theorem ct (H:Type) (c:TypeId × Value->H) (W:World) (b:Nat) (x:Array Value) (ds gs:List (DataW H)) (y:List MemPlace)
 (hv:∀ (j:Nat) t v,Tryz.f11.params[j]?=some t->x[j]?=some v->Value.okWide Tryz.prog W .any b t v)
 (hW:DataW.Whole c Tryz.prog Tryz.f11.params.toList Rows.chunksFullSpec.vars false W x.toList ds gs y) :
 Calls Tryz.prog 11 x W fun e W'=>∃ v,e=.returned v/\Rows.chunksFullSpec.post c Tryz.prog Tryz.f11 false true false false W x v W':=by
 have hW':=hW
 obtain ⟨p,q,hA0,hV,rfl,hfz,hnd⟩:=hW
 have hA:DataW.TrodAll c Tryz.prog W 0 (fun _=>true) true Tryz.f11.params.toList x.toList ds p:=hA0
 rw [Tryz.params11] at hA hv
 obtain ⟨v0,vs0,d0,ds0,p0,q0,hargs,rfl,rfl,h0,r0⟩:=trodAll_cons hA
 obtain ⟨v1,vs1,d1,ds1,p1,q1,rfl,rfl,rfl,h1,r1⟩:=trodAll_cons r0
 obtain ⟨rfl,rfl,rfl⟩:=trodAll_nil r1
 obtain rfl:x=#[v0,v1]:=by cases x;simp_all
 obtain ⟨rfl,rfl⟩:=trodVars_none hV
 have lt0:∀ x∈p0,x.block<W.heap.size:=by obtain ⟨m,hm⟩:=h0;exact DataW.trod_lt m _ _ _ hm
 have g0:Reads W 3 v0:=⟨H,c,d0,p0,b,hv 0 3 v0 rfl rfl,h0⟩
 have lt1:∀ x∈p1,x.block<W.heap.size:=by obtain ⟨m,hm⟩:=h1;exact DataW.trod_lt m _ _ _ hm
 have g1:Reads W 93 v1:=⟨H,c,d1,p1,b,hv 1 93 v1 rfl rfl,h1⟩
 clear hA0
 refine (ChunksFull_w v0 v1 W g0 g1).mono fun e W' ⟨he,bel⟩=>?_
 subst he
 exact ⟨_,rfl,_,_,_,[],_,[],hW',trodAll_mk1 (shut_bool Tryz.underlying4 _),(trodAll_cons_mk (Below.trod laidOut (by kernel_rfl) (of_decide_eq_true (by kernel_rfl)) h0 bel lt0) (trodAll_cons_mk (Below.trod laidOut (by kernel_rfl) (of_decide_eq_true (by kernel_rfl)) h1 bel lt1) trodAll_mk0)),rfl,bel.frame _,fun h=>by cases h⟩
def l1:Obj->Obj
 | .cells _ t k=>.cells (Go.Pinned.utf8FirstZ.map fun (n:Nat)=>Value.int .u8 n).toArray t k
 | o=>o
def l2:Obj->Obj
 | .cells _ t k=>.cells (([128,191,160,191,128,159,144,191,128,143]++List.replicate 22 0:List Nat).map fun (n:Nat)=>Value.int .u8 n).toArray t k
 | o=>o
noncomputable def lW (o:Os):World :=
 { World.holding Tryz.prog o ⟨#[],#[],[]⟩ with heap:=((World.holding Tryz.prog o ⟨#[],#[],[]⟩).heap.modify 0 l1).modify 1 l2 }
set_option maxRecDepth 1000000 in
theorem lm (o:Os):laidMet Tryz.prog Rows.chunksFullRow.laid ((lW o).forCall (fun _ _=>0) ⟨#[],#[.int .i64 0,.slice none 0 0],[]⟩).memory :=
 laidMet_of_run' 8 (by kernel_rfl) (by kernel_rfl)
theorem reads (o:Os) {H:Type} (c:TypeId × Value->H):∃ u,DataW.whole c Tryz.prog ((lW o).forCall (fun _ _=>0) ⟨#[],#[.int .i64 0,.slice none 0 0],[]⟩).memory Tryz.f11.params.toList Rows.chunksFullSpec.vars false #[(.int .i64 0:Value),(.slice none 0 0:Value)].toList 8=some ([.lit (.int .i64 0),.nil],[],u) :=
 ⟨[],by kernel_rfl⟩
set_option maxRecDepth 100000 in
theorem lf (o:Os) (z:o.Started) (H:Type) (c:TypeId × Value->H) (F:Stop.Interp) :
 ReturnsInHanded {} Tryz.checked o 11 .any ((OpenSpec.ofChange Rows.chunksFullSpec).preRow c Tryz.prog Tryz.f11 Rows.chunksFullRow.domain false Rows.chunksFullRow.laid) (((OpenSpec.ofChange Rows.chunksFullSpec).at F).post c Tryz.prog Tryz.f11 false true false false):=by
 obtain ⟨u,hx⟩:=reads o c
 refine returnsInHanded_of_row (C:=Tryz.checked) (s:=OpenSpec.ofChange Rows.chunksFullSpec) own z (by kernel_rfl) Tryz.func11
  (witness_row_at (enc:=c) (C:=Tryz.checked) false (lW o) #[.int .i64 0,.slice none 0 0] rfl (by kernel_rfl) (by kernel_rfl) (by kernel_rfl)
    (OpenSpec.preRow_of_cond 8 hx (by kernel_rfl) (fun k hk=>by cases hk) (by kernel_rfl) (lm o))) ?_
 intro W b x ds gs y hv hW _ _ _ hL _ _
 exact ct H c W b x ds gs y hv hW
theorem f0:(Rows.chunksFullRow.inPlace == Tryz.pinned.checked.prog.inPlace 11)=true:=by kernel_rfl
theorem f1:(Rows.chunksFullRow.unfollowed == Tryz.pinned.checked.prog.unfollowed 11)=true:=by kernel_rfl
theorem f2:(Rows.chunksFullRow.recurses == Tryz.pinned.checked.prog.recurses 11)=true:=by kernel_rfl
theorem f3:(Rows.chunksFullRow.named == Tryz.pinned.checked.prog.varsNamed 11)=true:=by kernel_rfl
theorem cl:joinedFacts Tryz.pinned.checked.prog 11 Tryz.f11 (OpenSpec.ofChange Rows.chunksFullSpec).bare Rows.chunksFullRow=true:=by
 unfold joinedFacts
 rw [f0,f1,f2,f3]
 kernel_rfl
theorem said:Rows.ChunksFullSaid :=
 OpenClaim.holds_of_cond 11 Tryz.f11 rfl rfl rfl rfl rfl rfl rfl ⟨rfl,rfl,rfl,rfl,rfl⟩ rfl rfl rfl rfl rfl (by kernel_rfl) Tryz.func11 cl
  (of_decide_eq_true (by kernel_rfl)) (by unfold Func.isWrapper;first|(rw [if_pos (by decide +kernel)];kernel_rfl)|(rw [if_neg (by decide +kernel)];exact ⟨rfl,rfl⟩))
  (fun o z H c _ F=>by rw [OpenClaim.pre_eq_preRow];exact lf o z H c F)
theorem plain (f : FuncId) (fn : Func) (hf : Tryz.pinned.checked.prog.funcNamed "cooperage/cooperagelaw11.ChunksFull" = some f) (hfn : Tryz.pinned.checked.prog.funcs[f]? = some fn) :
 true=Tryz.pinned.checked.prog.looks []/\∀ (j:Nat) t,fn.params[j]?=some t->Tryz.pinned.checked.prog.wantsStandIn t=false:=by
 obtain rfl : f = 11 := Option.some.inj ((show Tryz.prog.funcNamed "cooperage/cooperagelaw11.ChunksFull" = some 11 by kernel_rfl).symm.trans hf) |>.symm
 obtain rfl:fn=Tryz.f11:=(Option.some.inj (Tryz.func11.symm.trans hfn)).symm
 refine ⟨by kernel_rfl,fun j t ht=>?_⟩
 rw [Tryz.params11] at ht
 have hm:=Array.mem_of_getElem? ht
 simp only [List.mem_toArray,List.mem_cons,List.not_mem_nil,or_false] at hm
 rcases hm with rfl|rfl
 ·exact (show Tryz.prog.wantsStandIn 3=false by kernel_rfl)
 ·exact (show Tryz.prog.wantsStandIn 93=false by kernel_rfl)
theorem proved:Rows.ChunksFullCardSaid :=
 Claim7.holds_tied_plain_at .later [] _ _ _ _ said (fun _ h=>by cases h) (by kernel_rfl) (fun _ h=>by cases h) chunksFull_row_tie rfl ⟨rfl,rfl⟩ (by kernel_rfl) rfl plain (by kernel_rfl)
end Go.Proofs.YtdcjhpafipbpkaaGreatDoor.chunksFull
