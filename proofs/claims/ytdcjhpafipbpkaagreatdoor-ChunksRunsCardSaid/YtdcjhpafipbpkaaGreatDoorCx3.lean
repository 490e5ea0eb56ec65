/- Parts of the proof of ChunksRuns,joined: App,LogD,LogE,LogF,LogG,LogH,RoomP,RoomQ,RoomA,RoomB,RoomC,RoomD,RoomE,RoomF,Builder. No condition. -/
import Derived.Test.YtdcjhpafipbpkaaGreatDoorCx2
import Derived.Deep.AppendLies
import Derived.Laws.OwnMore
import Derived.Laws.BitsAllLaws
import Derived.Shelf.Strings.Builder1
import Derived.Shelf.Strings.BuilderF
import Derived.Shelf.Strings.BuilderK
set_option linter.unusedSimpArgs false
set_option linter.unusedVariables false
set_option linter.unusedSectionVars false
namespace Go.Proofs.YtdcjhpafipbpkaaGreatDoor
open Go.RowKit
section
variable {P:Program} {w:World}
def Yields (w:World) (x:Value) (m:Nat) (news:List Value):Prop:=∃ o c,x=.slice o m c /\ (o=none -> m=0) /\ ∀ ad,o=some ad -> ∀ j u,news[j]?=some u -> w.cell? (ad.add j)=some u
theorem run_append_nil (base:Nat) (t ty e:TypeId) (i:TypeInfo) (size:Nat) (ht:P.underlying t=some (.slice e)) (hi:P.info? e=some i)
 (v:Value) (n c:Nat) (xs:List Value) (hown:w.ownsRow base e size v n xs) :
 (Builtin.append_ #[t,t] ty #[v,.slice none 0 c]).run P w=.ok v w:=by
 rcases hown.2 with ⟨rfl,rfl⟩ | ⟨g,cap,cur,rfl,_,_,hnc,_⟩
 ·simp [Builtin.append_,run_underlying ht,sizeOf,typeInfo,hi,Builtin.lenOf,Builtin.firstCells]
 ·simp [Builtin.append_,run_underlying ht,sizeOf,typeInfo,hi,Builtin.lenOf,Builtin.firstCells,hnc,storeCells]
theorem run_append_y (t ty:TypeId) (base:Nat) (e:TypeId) (i:TypeInfo) (z:Value) (size bytes:Nat) (ht:P.underlying t=some (.slice e)) (hi:P.info? e=some i) (hz:i.zero=some z)
 (hsize:i.size=size) (hby:i.bytes=bytes) (hzs:z.cells.size=size) (hsz:0 < size)
 (v:Value) (n:Nat) (xs:List Value) (hown:w.ownsRow base e size v n xs)
 (x:Value) (m:Nat) (news:List Value) (hx:Yields w x m news) (hl:news.length=m * size) (h1:∀ u ∈ news,u.oneCell'=true)
 (h63:n + m <= maxLen) (hbytes:(n + m) * bytes <= 140737488355328) (hbase:base <= w.heap.size) :
 ∃ v' w',(Builtin.append_ #[t,t] ty #[v,x]).run P w=.ok v' w' /\ w'.ownsRow base e size v' (n + m) (xs ++ news) /\ w.grownBy w' v.ownBlock /\ (v'.ownBlock=v.ownBlock \/ v'.ownBlock=some w.heap.size):=by
 obtain ⟨o,c,rfl,ho,hc⟩:=hx
 cases o with
 | none =>
   obtain rfl:m=0:=ho rfl
   obtain rfl:news=[]:=List.eq_nil_of_length_eq_zero (by omega)
   refine ⟨v,w,run_append_nil base t ty e i size ht hi v n c xs hown,by simpa using hown,⟨rfl,rfl,rfl,Nat.le_refl _,fun _ _ _=>rfl⟩,.inl rfl⟩
 | some ad =>
   obtain ⟨v',w',hr,h2,h3,_,h5⟩:=run_append_own_at (P:=P) w base t ty e i z size bytes ht hi hz hsize hby hzs hsz v n xs hown ad m c news hl (hc ad rfl) h1 h63 hbytes hbase
   exact ⟨v',w',hr,h2,h3,h5⟩
theorem wp_append_y {o:Oper} {a:Act} {K:Act -> World -> Prop} {Q:Exit -> Act -> World -> Prop} (s x:Operand) (t:TypeId)
 (ho:o.op=.call { callee:=.builtin .append,args:=#[s,x],argTypes:=#[t,t] })
 (base:Nat) (e:TypeId) (i:TypeInfo) (z:Value) (size bytes:Nat) (ht:P.underlying t=some (.slice e)) (hi:P.info? e=some i) (hz:i.zero=some z)
 (hsize:i.size=size) (hby:i.bytes=bytes) (hzs:z.cells.size=size) (hsz:0 < size)
 (v:Value) (n:Nat) (xs:List Value) (hs:a.eval s=v) (hown:w.ownsRow base e size v n xs)
 (y:Value) (m:Nat) (news:List Value) (hx:a.eval x=y) (hy:Yields w y m news) (hl:news.length=m * size) (h1:∀ u ∈ news,u.oneCell'=true)
 (h63:n + m <= maxLen) (hbytes:(n + m) * bytes <= 140737488355328) (hbase:base <= w.heap.size)
 (h:∀ v' w',w'.ownsRow base e size v' (n + m) (xs ++ news) -> w.grownBy w' v.ownBlock -> (v'.ownBlock=v.ownBlock \/ v'.ownBlock=some w.heap.size) -> K (a.put o.dst v') w'):o.wp P a w K Q:=by
 obtain ⟨v',w',hr,h2,h3,h4⟩:=run_append_y (P:=P) (w:=w) t o.type base e i z size bytes ht hi hz hsize hby hzs hsz v n xs hown y m news hy hl h1 h63 hbytes hbase
 unfold Oper.wp execOp
 simp only [ho,resolve,invoke,builtin,Sem.run_bind,Sem.run_pure,Result.andThen_ok,List.map_toArray,List.map_cons,List.map_nil,hs,hx,hr]
 exact h v' w' h2 h3 h4
theorem step_append_y {ops:Array Oper} {o:Oper} {a:Act} {K:Act -> World -> Prop} {Q:Exit -> Act -> World -> Prop} {E:Prop} (hgd:o.guard=none) (s x:Operand) (t:TypeId)
 (ho:o.op=.call { callee:=.builtin .append,args:=#[s,x],argTypes:=#[t,t] })
 (base:Nat) (e:TypeId) (i:TypeInfo) (z:Value) (size bytes:Nat) (ht:P.underlying t=some (.slice e)) (hi:P.info? e=some i) (hz:i.zero=some z)
 (hsize:i.size=size) (hby:i.bytes=bytes) (hzs:z.cells.size=size) (hsz:0 < size)
 (v:Value) (n:Nat) (xs:List Value) (hs:a.eval s=v) (hown:w.ownsRow base e size v n xs)
 (y:Value) (m:Nat) (news:List Value) (hx:a.eval x=y) (hy:Yields w y m news) (hl:news.length=m * size) (h1:∀ u ∈ news,u.oneCell'=true)
 (h63:n + m <= maxLen) (hbytes:(n + m) * bytes <= 140737488355328) (hbase:base <= w.heap.size)
 (h:∀ v' w',w'.ownsRow base e size v' (n + m) (xs ++ news) -> w.grownBy w' v.ownBlock -> (v'.ownBlock=v.ownBlock \/ v'.ownBlock=some w.heap.size) -> K (a.put o.dst v') w') :
 if Region.wanted o (yielded ops a.tmps)=true then Oper.wp P o a w K Q else E:=by
 have hw:Region.wanted o (yielded ops a.tmps)=true:=by simp [Region.wanted,hgd]
 rw [if_pos hw]
 exact wp_append_y s x t ho base e i z size bytes ht hi hz hsize hby hzs hsz v n xs hs hown y m news hx hy hl h1 h63 hbytes hbase h
theorem wpList_append_y {ops:Array Oper} {rest:List Oper} {o:Oper} {a:Act} {Q:Exit -> Act -> World -> Prop} (hgd:o.guard=none) (s x:Operand) (t:TypeId)
 (ho:o.op=.call { callee:=.builtin .append,args:=#[s,x],argTypes:=#[t,t] })
 (base:Nat) (e:TypeId) (i:TypeInfo) (z:Value) (size bytes:Nat) (ht:P.underlying t=some (.slice e)) (hi:P.info? e=some i) (hz:i.zero=some z)
 (hsize:i.size=size) (hby:i.bytes=bytes) (hzs:z.cells.size=size) (hsz:0 < size)
 (v:Value) (n:Nat) (xs:List Value) (hs:a.eval s=v) (hown:w.ownsRow base e size v n xs)
 (y:Value) (m:Nat) (news:List Value) (hx:a.eval x=y) (hy:Yields w y m news) (hl:news.length=m * size) (h1:∀ u ∈ news,u.oneCell'=true)
 (h63:n + m <= maxLen) (hbytes:(n + m) * bytes <= 140737488355328) (hbase:base <= w.heap.size)
 (h:∀ v' w',w'.ownsRow base e size v' (n + m) (xs ++ news) -> w.grownBy w' v.ownBlock -> (v'.ownBlock=v.ownBlock \/ v'.ownBlock=some w.heap.size) -> wpList P ops Q rest (a.put o.dst v') w'):wpList P ops Q (o :: rest) a w :=
 wpList_plain hgd fun _ hK=>wp_append_y s x t ho base e i z size bytes ht hi hz hsize hby hzs hsz v n xs hs hown y m news hx hy hl h1 h63 hbytes hbase fun v' w' h2 h3 h4=>hK _ _ (h v' w' h2 h3 h4)
end
set_option maxRecDepth 100000
set_option maxHeartbeats 1000000
def ints (l:List Int):List Value:=l.map (Value.int .i64)
def idxs:List (Int × ByteArray) -> Nat -> Int -> List Int
 | [],_,_=>[]
 | p :: r,n,i=>if p.1=i then (n:Int) :: idxs r (n + 1) i else idxs r (n + 1) i
theorem idxs_append (a b:List (Int × ByteArray)) (n:Nat) (i:Int):idxs (a ++ b) n i=idxs a n i ++ idxs b (n + a.length) i:=by
 induction a generalizing n with
 | nil=>simp [idxs]
 | cons p r ih =>
   simp only [List.cons_append,idxs,ih,List.length_cons]
   rw [show n + 1 + r.length=n + (r.length + 1) by omega]
   split <;> simp
theorem idxs_snoc (a:List (Int × ByteArray)) (p:Int × ByteArray) (i:Int):idxs (a ++ [p]) 0 i=if p.1=i then idxs a 0 i ++ [(a.length:Int)] else idxs a 0 i:=by
 rw [idxs_append]
 simp only [idxs,Nat.zero_add]
 split <;> simp
def lastO:List (Int × ByteArray) -> Int -> Option ByteArray
 | [],_=>none
 | p :: r,i=>(lastO r i).or (if p.1=i then some p.2 else none)
theorem lastO_snoc (l:List (Int × ByteArray)) (p:Int × ByteArray) (i:Int):lastO (l ++ [p]) i=if p.1=i then some p.2 else lastO l i:=by
 induction l with
 | nil=>simp [lastO]
 | cons q r ih =>
   simp only [List.cons_append,lastO,ih]
   by_cases h:p.1=i
   ·simp [h]
   ·simp [h]
theorem snoc_ind {α:Type} {P:List α -> Prop} (h0:P []) (hs:∀ l a,P l -> P (l ++ [a])) (l:List α):P l:=by
 have:∀ r:List α,P r.reverse:=by
  intro r
  induction r with
  | nil=>exact h0
  | cons a r ih=>rw [List.reverse_cons]; exact hs _ _ ih
 simpa using this l.reverse
theorem idxs_last (l:List (Int × ByteArray)) (i:Int):(idxs l 0 i=[] /\ lastO l i=none) \/ ∃ (r:List Int) (j:Nat) (s:ByteArray),idxs l 0 i=r ++ [(j:Int)] /\ l[j]?=some (i,s) /\ lastO l i=some s:=by
 refine snoc_ind (P:=fun l=>(idxs l 0 i=[] /\ lastO l i=none) \/ ∃ (r:List Int) (j:Nat) (s:ByteArray),idxs l 0 i=r ++ [(j:Int)] /\ l[j]?=some (i,s) /\ lastO l i=some s) (.inl ⟨rfl,rfl⟩) (fun l p ih=>?_) l
 ·show (idxs (l ++ [p]) 0 i=[] /\ lastO (l ++ [p]) i=none) \/ ∃ (r:List Int) (j:Nat) (s:ByteArray),idxs (l ++ [p]) 0 i=r ++ [(j:Int)] /\ (l ++ [p])[j]?=some (i,s) /\ lastO (l ++ [p]) i=some s
  rw [idxs_snoc,lastO_snoc]
  by_cases h:p.1=i
  ·rw [if_pos h,if_pos h]
   exact .inr ⟨_,l.length,p.2,rfl,by simp [<- h],rfl⟩
  ·rw [if_neg h,if_neg h]
   rcases ih with h1 | ⟨r,j,s,h1,h2,h3⟩
   ·exact .inl h1
   ·exact .inr ⟨r,j,s,h1,by rw [List.getElem?_append_left (List.getElem?_eq_some_iff.1 h2).1]; exact h2,h3⟩
structure IsTxc (w:World) (F:Nat -> Prop) (tb lb:Nat) (puts:List (Int × ByteArray)) (pv:Value) (mw:Nat) (m:List (Int × Value)):Prop where
 cells:w.heap[tb]?=some (.cells #[.pointer (some ⟨lb,0,none⟩),pv,.map (some mw)] 120 (0,0))
 row:w.ownsRow 0 241 2 pv puts.length (wrs puts)
 map:MapIs kInt id w mw m
 rows:∀ i,(look m i=none /\ idxs puts 0 i=[]) \/ ∃ v,look m i=some v /\ idxs puts 0 i ≠ [] /\ w.ownsRow 0 3 1 v (idxs puts 0 i).length (ints (idxs puts 0 i))
 apart:∀ i j u v,i ≠ j -> look m i=some u -> look m j=some v -> u.ownBlock ≠ v.ownBlock
 own:∀ k,F k ↔ k=tb \/ k=mw \/ pv.ownBlock=some k \/ ∃ i v,look m i=some v /\ v.ownBlock=some k
def IsTx (w:World) (F:Nat -> Prop) (tb lb:Nat) (puts:List (Int × ByteArray)):Prop:=∃ pv mw m,IsTxc w F tb lb puts pv mw m
variable {w w':World} {F S:Nat -> Prop} {tb lb mw:Nat} {puts:List (Int × ByteArray)} {pv:Value} {m:List (Int × Value)}
theorem IsTxc.c (h:IsTxc w F tb lb puts pv mw m):w.cell? ⟨tb,0,none⟩=some (.pointer (some ⟨lb,0,none⟩)) /\ w.cell? ⟨tb,1,none⟩=some pv /\ w.cell? ⟨tb,2,none⟩=some (.map (some mw)) :=
 ⟨cell_lit h.cells rfl,cell_lit h.cells rfl,cell_lit h.cells rfl⟩
theorem IsTxc.frame (h:IsTxc w F tb lb puts pv mw m) (hu:Upd S w w') (hn:∀ k,F k -> ¬ S k):IsTxc w' F tb lb puts pv mw m :=
 ⟨hu.at h.cells (hn _ ((h.own _).2 (.inl rfl))),ownsRow_upd h.row hu (fun k hk=>hn k ((h.own k).2 (.inr (.inr (.inl hk))))),h.map.upd hu (hn _ ((h.own _).2 (.inr (.inl rfl)))),
  fun i=>(h.rows i).imp id (fun ⟨v,a,b,c⟩=>⟨v,a,b,ownsRow_upd c hu (fun k hk=>hn k ((h.own k).2 (.inr (.inr (.inr ⟨i,v,a,hk⟩)))))⟩),h.apart,h.own⟩
theorem IsTxc.lt (h:IsTxc w F tb lb puts pv mw m):∀ k,F k -> k < w.heap.size:=by
 intro k hk
 rcases (h.own k).1 hk with rfl | rfl | hk | ⟨i,v,h1,h2⟩
 ·exact lt_of_heap h.cells
 ·exact h.map.lt
 ·exact (h.row.lt k hk).2
 ·rcases h.rows i with ⟨a,_⟩ | ⟨u,a,_,c⟩
  ·rw [a] at h1; cases h1
  ·rw [a] at h1; cases h1; exact (c.lt k h2).2
theorem IsTx.frame (h:IsTx w F tb lb puts) (hu:Upd S w w') (hn:∀ k,F k -> ¬ S k):IsTx w' F tb lb puts:=by
 obtain ⟨pv,mw,m,h⟩:=h; exact ⟨pv,mw,m,h.frame hu hn⟩
theorem IsTx.below (h:IsTx w F tb lb puts) (hb:Below w.heap.size w w'):IsTx w' F tb lb puts:=h.frame (hb.upd' (Nat.le_refl _)) (fun _ _ e=>e)
theorem IsTx.lt (h:IsTx w F tb lb puts):∀ k,F k -> k < w.heap.size:=by obtain ⟨pv,mw,m,h⟩:=h; exact h.lt
structure Chg (w:World) (FL F:Nat -> Prop) (tb lb n:Nat) (puts:List (Int × ByteArray)):Prop where
 log:IsLog w FL lb n
 tx:IsTx w F tb lb puts
 apart:∀ k,FL k -> ¬ F k
theorem Chg.below {FL:Nat -> Prop} {n:Nat} (h:Chg w FL F tb lb n puts) (hb:Below w.heap.size w w'):Chg w' FL F tb lb n puts:=⟨h.log.below hb,h.tx.below hb,h.apart⟩
theorem slice_form {base:Nat} {e:TypeId} {size:Nat} {v:Value} {n:Nat} {xs:List Value} (h:w.ownsRow base e size v n xs):∃ a m c,v=.slice a m c:=by
 rcases h.2 with ⟨rfl,_⟩ | ⟨g,cap,cur,rfl,_⟩
 ·exact ⟨_,_,_,rfl⟩
 ·exact ⟨_,_,_,rfl⟩
theorem rlen {base:Nat} {e:TypeId} {size:Nat} {a:Option Addr} {m c n:Nat} {xs:List Value} (h:w.ownsRow base e size (.slice a m c) n xs):m=n:=by
 rcases h.2 with ⟨e,h0⟩ | ⟨g,cap,cur,e,_⟩
 ·cases e; exact h0.symm
 ·cases e; rfl
theorem Begin_c (lb:Nat) (w:World) :
 Calls Tryz.prog 17 #[.pointer (some ⟨lb,0,none⟩)] w fun e w'=>e=.returned (.pointer (some ⟨w.heap.size + 1,0,none⟩)) /\ Hid (IsTx w' (fun k=>k=w.heap.size + 1 \/ k=w.heap.size) (w.heap.size + 1) lb [] /\ Below w.heap.size w w'):=by
 have hmm:=@run_makeMap Tryz.prog
 go_enter Tryz.func17,Tryz.ntmps17
 go_wp2_with fail
 go_ret
 refine ⟨rfl,⟨.slice none 0 0,w.heap.size,[],?_,World.ownsRow_nil _ _ _ _,(MapIs.made w).alloc _,fun i=>.inl ⟨rfl,rfl⟩,by simp [look],fun k=>by simp [look,Value.ownBlock]⟩,((Below.refl w.heap.size w).alloc (Nat.le_refl _) _).alloc (by simp) _⟩
 have:=heap_alloc_new (w.alloc (.map #[] 0)) (.cells #[.pointer (some ⟨lb,0,none⟩),.slice none 0 0,.map (some w.heap.size)] 120)
 simpa using this
theorem Tdead_c (tb lb n:Nat) (FL F:Nat -> Prop) (puts:List (Int × ByteArray)) (w:World) (h:Chg w FL F tb lb n puts) :
 Calls Tryz.prog 146 #[.pointer (some ⟨tb,0,none⟩)] w fun e w'=>e=.returned (.bool false) /\ w=w':=by
 obtain ⟨c0,-,-⟩:=(by obtain ⟨pv,mw,m,h⟩:=h.tx; exact ⟨h.c.1,trivial,trivial⟩:w.cell? ⟨tb,0,none⟩=some (.pointer (some ⟨lb,0,none⟩)) /\ True /\ True)
 have DN:=LDown_c lb w (by obtain ⟨db,mo,mf,mn,h⟩:=h.log; exact h.c.2.2.2.2)
 clear h
 go_enter Tryz.func146,Tryz.ntmps146
 go_wp2_with (go_at_call 189; refine DN.mono ?_; rintro e w1 ⟨rfl,rfl⟩)
 go_ret
 exact ⟨rfl,rfl⟩
theorem THomes_c (tb lb n:Nat) (FL F:Nat -> Prop) (puts:List (Int × ByteArray)) (w:World) (h:Chg w FL F tb lb n puts) :
 Calls Tryz.prog 58 #[.pointer (some ⟨tb,0,none⟩)] w fun e w'=>e=.returned (.int .i64 n) /\ Below w.heap.size w w':=by
 obtain ⟨c0,-,-⟩:=(by obtain ⟨pv,mw,m,h⟩:=h.tx; exact ⟨h.c.1,trivial,trivial⟩:w.cell? ⟨tb,0,none⟩=some (.pointer (some ⟨lb,0,none⟩)) /\ True /\ True)
 have DN:=LHomes_c lb n FL w h.log
 clear h
 go_enter Tryz.func58,Tryz.ntmps58
 go_wp2_with (go_at_call 113; refine DN.mono ?_; rintro e w1 ⟨rfl,hb⟩)
 go_ret
 exact ⟨rfl,hb⟩
theorem TMark_c (tb lb n:Nat) (FL F:Nat -> Prop) (puts:List (Int × ByteArray)) (w:World) (h:Chg w FL F tb lb n puts) :
 Calls Tryz.prog 164 #[.pointer (some ⟨tb,0,none⟩)] w fun e w'=>e=.returned (.int .i64 puts.length) /\ w=w':=by
 obtain ⟨pv,mw,m,ht⟩:=h.tx
 obtain ⟨-,c1,-⟩:=ht.c
 obtain ⟨a,l,c,rfl⟩:=slice_form ht.row
 obtain rfl:=rlen ht.row
 clear h ht
 go_enter Tryz.func164,Tryz.ntmps164
 go_wp2_with fail
 go_ret
 exact ⟨rfl,rfl⟩
def txRead (n:Nat) (puts:List (Int × ByteArray)) (i:Int):ByteArray × Int:=match lastO puts i with
 | some s=>(s,0)
 | none=>lgRead n i
theorem zeroInts (w:World):(zeroValue 191).run Tryz.prog w=.ok (.slice none 0 0) w:=by kernel_rfl
theorem wrs_get (l:List (Int × ByteArray)) (k:Nat) (p:Int × ByteArray) (h:l[k]?=some p):(wrs l)[k * 2]?=some (.int .i64 p.1) /\ (wrs l)[k * 2 + 1]?=some (.string p.2):=by
 induction l generalizing k with
 | nil=>simp at h
 | cons q r ih =>
   cases k with
   | zero=>simp at h; subst h; exact ⟨rfl,rfl⟩
   | succ k =>
     have:=ih k (by simpa using h)
     rw [show (k + 1) * 2=k * 2 + 1 + 1 by omega]
     exact this
theorem TRead_c (tb lb n:Nat) (FL F:Nat -> Prop) (puts:List (Int × ByteArray)) (i:Int) (w:World) (h:Chg w FL F tb lb n puts) (hp:puts.length <= 4000000) :
 Calls Tryz.prog 152 #[.pointer (some ⟨tb,0,none⟩),.int .i64 i] w fun e w'=>e=.returned (.tuple #[.string (txRead n puts i).1,.int .i64 (txRead n puts i).2]) /\ Below w.heap.size w w':=by
 have DD:=Tdead_c tb lb n FL F puts w h
 have LR:=LRead_c lb n FL i w h.log
 obtain ⟨pv,mw,m,ht⟩:=h.tx
 obtain ⟨c0,c1,c2⟩:=ht.c
 have lk:=run_lookup ht.map Tryz.underlying117 Tryz.underlying3 (zeroInts w) i
 simp only [kInt] at lk
 rcases idxs_last puts i with ⟨h1,h2⟩ | ⟨r,j,s,h1,h2,h3⟩
 ·have HE:=Hd (show txRead n puts i=lgRead n i by unfold txRead; rw [h2])
  have hlk:look m i=none:=by
   rcases ht.rows i with ⟨a,_⟩ | ⟨v,a,b,_⟩
   ·exact a
   ·exact absurd h1 b
  rw [hlk] at lk
  simp only [Option.map_none,Option.getD_none] at lk
  clear ht h h1 h2 hlk c1
  go_enter Tryz.func152,Tryz.ntmps152
  go_wp2_with (go_at_call 146; refine DD.mono ?_; rintro e w1 ⟨rfl,rfl⟩)
  refine LR.mono ?_
  rintro e w2 ⟨rfl,hb⟩
  have HB:=Hd hb
  clear hb
  go_wp2_with fail
  go_ret2
  exact ⟨by rw [HE.out]; rfl,HB.out⟩
 ·have HE:=Hd (show txRead n puts i=(s,0) by unfold txRead; rw [h3])
  have hrow:∃ v,look m i=some v /\ w.ownsRow 0 3 1 v (idxs puts 0 i).length (ints (idxs puts 0 i)):=by
   rcases ht.rows i with ⟨_,b⟩ | ⟨v,a,_,c⟩
   ·rw [h1] at b; simp at b
   ·exact ⟨v,a,c⟩
  obtain ⟨v,hlk,hrow⟩:=hrow
  rw [hlk] at lk
  simp only [Option.map_some,Option.getD_some,id] at lk
  rw [h1] at hrow
  obtain ⟨g,cap,rfl,-,-⟩:=hrow.form (by simp)
  have hjl:j < puts.length:=(List.getElem?_eq_some_iff.1 h2).1
  obtain ⟨gp,capp,rfl,-,-⟩:=ht.row.form (by omega)
  have q1:w.cell? ⟨g,r.length,none⟩=some (.int .i64 j):=by
   rw [hrow.cellAt r.length (by simp)]; simp [ints]
  have q2:w.cell? ⟨gp,j * 2 + 1,none⟩=some (.string s):=by
   rw [ht.row.cellAt (j * 2 + 1) (by omega),(wrs_get puts j _ h2).2]
  have hrl:r.length <= 4000000:=by
   have:(idxs puts 0 i).length <= puts.length:=by
    have:∀ (l:List (Int × ByteArray)) (k:Nat),(idxs l k i).length <= l.length:=by
     intro l
     induction l with
     | nil=>intro k; exact Nat.le_refl _
     | cons p t ih =>
       intro k
       simp only [idxs]
       split
       ·have:=ih (k + 1); simp; omega
       ·have:=ih (k + 1); simp; omega
    exact this puts 0
   rw [h1] at this; simp at this; omega
  rw [show (r ++ [(j:Int)]).length=r.length + 1 by simp] at lk
  clear ht h h1 h2 h3 hlk hrow LR
  generalize puts.length=pl at *
  go_enter Tryz.func152,Tryz.ntmps152
  go_wp2_with (go_at_call 146; refine DD.mono ?_; rintro e w1 ⟨rfl,rfl⟩)
  go_region
  go_wp2_with fail
  go_ret2
  exact ⟨by rw [HE.out]; rfl,(Below.refl _ _).drew⟩
set_option maxHeartbeats 2000000
theorem infoI:(Tryz.prog.info? 3).map (fun i=>(i.zero,i.size,i.bytes))=some (some (.int .i64 0),1,8):=by kernel_rfl
theorem infoU:(Tryz.prog.info? 241).map (fun i=>(i.zero,i.size,i.bytes))=some (some (.agg #[.int .i64 0,.string ByteArray.empty]),2,24):=by kernel_rfl
theorem yields_boxL (w:World) (cs:Array Value) (T:TypeId) (m c:Nat):Yields (w.alloc (.cells cs T)) (.slice (some ⟨w.heap.size,0,none⟩) m c) m cs.toList:=by
 refine ⟨_,_,rfl,fun e=>(by cases e),fun ad e j u hu=>?_⟩
 cases e
 exact World.news_of_block (cs:=cs) (t:=T) (fr:=(0,0)) (heap_alloc_new w _) j u hu
theorem idxs_len (l:List (Int × ByteArray)) (k:Nat) (i:Int):(idxs l k i).length <= l.length:=by
 induction l generalizing k with
 | nil=>exact Nat.le_refl _
 | cons p t ih =>
   simp only [idxs]
   split
   ·have:=ih (k + 1); simp; omega
   ·have:=ih (k + 1); simp; omega
def rowOf (m:List (Int × Value)) (i:Int):Value:=(look m i).getD (.slice none 0 0)
theorem IsTxc.rowOf {w:World} {F:Nat -> Prop} {tb lb mw:Nat} {puts:List (Int × ByteArray)} {pv:Value} {m:List (Int × Value)} (h:IsTxc w F tb lb puts pv mw m) (i:Int) :
 w.ownsRow 0 3 1 (rowOf m i) (idxs puts 0 i).length (ints (idxs puts 0 i)):=by
 unfold Go.Proofs.YtdcjhpafipbpkaaGreatDoor.rowOf
 rcases h.rows i with ⟨a,b⟩ | ⟨v,a,_,c⟩
 ·rw [a,b]; exact World.ownsRow_nil _ _ _ _
 ·rw [a]; exact c
theorem lenI {k:Nat} (h:k <= 4000000):k + 1 <= maxLen /\ (k + 1) * 8 <= 140737488355328 /\ (k + 1) * 24 <= 140737488355328:=by unfold maxLen; omega
theorem pad_repeat (s:ByteArray) (h:s.size <= 512):s ++ (⟨(Lib.repeatL (⟨#[0]⟩:ByteArray).data.toList (512 - s.size)).toArray⟩:ByteArray)=pad s:=by
 unfold pad
 rw [show (⟨#[0]⟩:ByteArray).data.toList=[0] from rfl,repeat_zero]
 apply ByteArray.ext
 simp
theorem where_next {w W W2:World} {F:Nat -> Prop} {tb lb mw:Nat} {puts:List (Int × ByteArray)} {pv x:Value} {m:List (Int × Value)} {i:Int} {o:Obj} {s:ByteArray} (h:IsTxc w F tb lb puts pv mw m)
 (ho:W.ownsRow 0 3 1 x ((idxs puts 0 i).length + 1) (ints (idxs puts 0 i) ++ [.int .i64 puts.length])) (hg:(w.drew.alloc o).grownBy W (rowOf m i).ownBlock) (ha:x.ownBlock=(rowOf m i).ownBlock \/ x.ownBlock=some (w.drew.alloc o).heap.size)
 (hm2:MapIs kInt id W2 mw (put m i x)) (hu2:Upd (·=mw) W W2) :
 W2.heap[tb]?=some (.cells #[.pointer (some ⟨lb,0,none⟩),pv,.map (some mw)] 120 (0,0)) /\ W2.ownsRow 0 241 2 pv puts.length (wrs puts) /\
 (∀ j,(look (put m i x) j=none /\ idxs (puts ++ [(i,s)]) 0 j=[]) \/ ∃ v,look (put m i x) j=some v /\ idxs (puts ++ [(i,s)]) 0 j ≠ [] /\ W2.ownsRow 0 3 1 v (idxs (puts ++ [(i,s)]) 0 j).length (ints (idxs (puts ++ [(i,s)]) 0 j))) /\
 (∀ a b u v,a ≠ b -> look (put m i x) a=some u -> look (put m i x) b=some v -> u.ownBlock ≠ v.ownBlock) /\
 Upd (fun k=>k=mw \/ (rowOf m i).ownBlock=some k) w W2 /\ (∀ k,x.ownBlock=some k -> (rowOf m i).ownBlock=some k \/ w.heap.size <= k):=by
 have hv0:=h.rowOf i
 have nmt:mw ≠ tb:=h.map.ne_cells h.cells
 have nvt:(Go.Proofs.YtdcjhpafipbpkaaGreatDoor.rowOf m i).ownBlock ≠ some tb:=fun e=>by
  obtain ⟨cur,hc⟩:=ownsRow_cells hv0 e
  rw [h.cells] at hc; simp at hc
 have nvm:(Go.Proofs.YtdcjhpafipbpkaaGreatDoor.rowOf m i).ownBlock ≠ some mw:=fun e=>by
  obtain ⟨cur,hc⟩:=ownsRow_cells hv0 e
  exact h.map.ne_cells hc rfl
 have npm:pv.ownBlock ≠ some mw:=fun e=>by
  obtain ⟨cur,hc⟩:=ownsRow_cells h.row e
  exact h.map.ne_cells hc rfl
 have npv:∀ k,pv.ownBlock=some k -> (Go.Proofs.YtdcjhpafipbpkaaGreatDoor.rowOf m i).ownBlock ≠ some k:=fun k e1 e2=>by
  obtain ⟨c1,h1⟩:=ownsRow_cells h.row e1
  obtain ⟨c2,h2⟩:=ownsRow_cells hv0 e2
  rw [h1] at h2; simp at h2
 have hsz:(w.drew.alloc o).heap.size=w.heap.size + 1:=by simp
 have hU1:Upd (fun k=>(Go.Proofs.YtdcjhpafipbpkaaGreatDoor.rowOf m i).ownBlock=some k) w W:=(((Upd.refl _ w).drew).alloc o).grown hg (fun k hk=>.inl hk)
 have hU:Upd (fun k=>k=mw \/ (Go.Proofs.YtdcjhpafipbpkaaGreatDoor.rowOf m i).ownBlock=some k) w W2:=(hU1.mono (fun _ _ e=>.inr e)).trans (hu2.mono (fun _ _ e=>.inl e))
 have hxk:∀ k,x.ownBlock=some k -> (Go.Proofs.YtdcjhpafipbpkaaGreatDoor.rowOf m i).ownBlock=some k \/ w.heap.size <= k:=by
  intro k hk
  rcases ha with e | e
  ·exact .inl (by rw [<- e,hk])
  ·rw [hk] at e; simp at e; exact .inr (by omega)
 have hmlt:=h.map.lt
 have hxm:x.ownBlock ≠ some mw:=fun e=>by
  rcases hxk mw e with h1 | h1
  ·exact nvm h1
  ·omega
 obtain ⟨gx,cx,hx,-,-⟩:=ho.form (by omega)
 have hxs:x.ownBlock=some gx:=by rw [hx]; rfl
 have hlook:∀ k,(Go.Proofs.YtdcjhpafipbpkaaGreatDoor.rowOf m i).ownBlock=some k -> ∃ v,look m i=some v /\ v.ownBlock=some k:=by
  intro k hk
  unfold Go.Proofs.YtdcjhpafipbpkaaGreatDoor.rowOf at hk
  cases hl:look m i with
  | none=>rw [hl] at hk; simp [Value.ownBlock] at hk
  | some v=>rw [hl] at hk; exact ⟨v,rfl,hk⟩
 refine ⟨hU.at h.cells (fun e=>e.elim (fun e=>nmt e.symm) (fun e=>nvt e)),ownsRow_upd h.row hU (fun k hk e=>e.elim (fun e=>npm (by rw [hk,e])) (fun e=>npv k hk e)),fun j=>?_,fun a b u v hab hu hv=>?_,hU,hxk⟩
 ·rw [look_put,idxs_snoc]
  by_cases e:i=j
  ·subst e
   rw [if_pos rfl,if_pos rfl]
   refine .inr ⟨x,rfl,by simp,?_⟩
   have:=ownsRow_upd ho hu2 (fun k hk e=>hxm (by rw [hk,e]))
   simpa [ints] using this
  ·rw [if_neg e,if_neg e]
   rcases h.rows j with ⟨a,b⟩ | ⟨v,a,b,c⟩
   ·exact .inl ⟨a,b⟩
   ·refine .inr ⟨v,a,b,ownsRow_upd c hU (fun k hk e2=>?_)⟩
    rcases e2 with e2 | e2
    ·obtain ⟨cur,hc⟩:=ownsRow_cells c hk
     exact h.map.ne_cells hc e2.symm
    ·obtain ⟨v',h1,h2⟩:=hlook k e2
     exact h.apart i j v' v e h1 a (by rw [h2,hk])
 ·have key:∀ b v,i ≠ b -> look m b=some v -> x.ownBlock ≠ v.ownBlock:=by
   intro b v hib hv e
   rw [hxs] at e
   rcases hxk gx hxs with h1 | h1
   ·obtain ⟨v',h2,h3⟩:=hlook gx h1
    exact h.apart i b v' v hib h2 hv (by rw [h3,<- e])
   ·have:=h.lt gx ((h.own gx).2 (.inr (.inr (.inr ⟨b,v,hv,e.symm⟩))))
    omega
  rw [look_put] at hu hv
  by_cases ea:i=a
  ·rw [if_pos ea] at hu
   cases hu
   rw [if_neg (fun e=>hab (ea ▸ e))] at hv
   exact key b v (fun e=>hab (ea ▸ e)) hv
  ·rw [if_neg ea] at hu
   by_cases eb:i=b
   ·rw [if_pos eb] at hv
    cases hv
    exact fun e=>key a u ea hu e.symm
   ·rw [if_neg eb] at hv
    exact h.apart a b u v hab hu hv
set_option maxHeartbeats 4000000
theorem puts_next {W2 W4 W5:World} {tb lb mw:Nat} {puts:List (Int × ByteArray)} {pv px:Value} {m2:List (Int × Value)} {i:Int} {s:ByteArray}
 (h1:W2.heap[tb]?=some (.cells #[.pointer (some ⟨lb,0,none⟩),pv,.map (some mw)] 120 (0,0))) (h2:W2.ownsRow 0 241 2 pv puts.length (wrs puts))
 (h3:∀ j,(look m2 j=none /\ idxs (puts ++ [(i,s)]) 0 j=[]) \/ ∃ v,look m2 j=some v /\ idxs (puts ++ [(i,s)]) 0 j ≠ [] /\ W2.ownsRow 0 3 1 v (idxs (puts ++ [(i,s)]) 0 j).length (ints (idxs (puts ++ [(i,s)]) 0 j)))
 (h4:∀ a b u v,a ≠ b -> look m2 a=some u -> look m2 b=some v -> u.ownBlock ≠ v.ownBlock) (hm:MapIs kInt id W2 mw m2) (hu:Upd (fun _=>False) W2 W4)
 (ho:W5.ownsRow 0 241 2 px (puts.length + 1) (wrs puts ++ [.int .i64 i,.string s])) (hg:W4.grownBy W5 pv.ownBlock) :
 IsTxc (W5.setCell ⟨tb,1,none⟩ px) (fun k=>k=tb \/ k=mw \/ px.ownBlock=some k \/ ∃ i v,look m2 i=some v /\ v.ownBlock=some k) tb lb (puts ++ [(i,s)]) px mw m2 /\ Upd (fun k=>k=tb \/ pv.ownBlock=some k) W2 (W5.setCell ⟨tb,1,none⟩ px):=by
 have npt:pv.ownBlock ≠ some tb:=fun e=>by
  obtain ⟨cur,hc⟩:=ownsRow_cells h2 e
  rw [h1] at hc; simp at hc
 have npm:pv.ownBlock ≠ some mw:=fun e=>by
  obtain ⟨cur,hc⟩:=ownsRow_cells h2 e
  exact hm.ne_cells hc rfl
 have nmt:mw ≠ tb:=hm.ne_cells h1
 have hU4:Upd (fun k=>k=tb \/ pv.ownBlock=some k) W2 W5:=(hu.mono (fun _ _ e=>e.elim)).grown hg (fun k hk=>.inl (.inr hk))
 have hc5:W5.heap[tb]?=some (.cells #[.pointer (some ⟨lb,0,none⟩),pv,.map (some mw)] 120 (0,0)):=by
  have e4:=hu.at h1 (fun e=>e)
  exact (hg.block tb (lt_of_heap e4) (fun e=>npt e.symm)).trans e4
 have nxt:px.ownBlock ≠ some tb:=fun e=>by
  obtain ⟨cur,hc⟩:=ownsRow_cells ho e
  rw [hc5] at hc; simp at hc
 have hU:Upd (fun k=>k=tb \/ pv.ownBlock=some k) W2 (W5.setCell ⟨tb,1,none⟩ px):=hU4.trans ((upd_setCell _ _ _ _).mono (fun _ _ e=>.inl e))
 refine ⟨⟨heap_set_lit hc5 _,?_,hm.upd hU (fun e=>e.elim nmt npm),fun j=>?_,h4,fun k=>Iff.rfl⟩,hU⟩
 ·have:=ownsRow_upd ho (upd_setCell W5 tb 1 px) (fun k hk e=>nxt (by rw [hk,e]))
  simpa [wrs] using this
 ·rcases h3 j with ⟨a,b⟩ | ⟨v,a,b,c⟩
  ·exact .inl ⟨a,b⟩
  ·refine .inr ⟨v,a,b,ownsRow_upd c hU (fun k hk e=>?_)⟩
   obtain ⟨cur,hc⟩:=ownsRow_cells c hk
   rcases e with rfl | e
   ·rw [h1] at hc; simp at hc
   ·obtain ⟨c2,hc2⟩:=ownsRow_cells h2 e
    rw [hc] at hc2; simp at hc2
theorem row_ne_map {w:World} {F:Nat -> Prop} {tb lb mw:Nat} {puts:List (Int × ByteArray)} {pv:Value} {m:List (Int × Value)} (h:IsTxc w F tb lb puts pv mw m) (i:Int):¬ (rowOf m i).ownBlock=some mw:=fun e=>by
 obtain ⟨cur,hc⟩:=ownsRow_cells (h.rowOf i) e
 exact h.map.ne_cells hc rfl
theorem where_mid {w W:World} {F:Nat -> Prop} {tb lb mw:Nat} {puts:List (Int × ByteArray)} {pv:Value} {m:List (Int × Value)} {i:Int} {o:Obj} (h:IsTxc w F tb lb puts pv mw m) (hg:(w.drew.alloc o).grownBy W (rowOf m i).ownBlock) :
 W.heap[tb]?=some (.cells #[.pointer (some ⟨lb,0,none⟩),pv,.map (some mw)] 120 (0,0)):=by
 have nvt:(rowOf m i).ownBlock ≠ some tb:=fun e=>by
  obtain ⟨cur,hc⟩:=ownsRow_cells (h.rowOf i) e
  rw [h.cells] at hc; simp at hc
 have e1:(w.drew.alloc o).heap[tb]?=some (.cells #[.pointer (some ⟨lb,0,none⟩),pv,.map (some mw)] 120 (0,0)):=(heap_alloc_lt o (w:=w.drew) (lt_of_heap h.cells)).trans h.cells
 exact (hg.block tb (lt_of_heap e1) (fun e=>nvt e.symm)).trans e1
theorem write_end {w w1 W2 W3 W5:World} {FL F:Nat -> Prop} {tb lb n mw:Nat} {puts:List (Int × ByteArray)} {pv px x:Value} {m:List (Int × Value)} {i:Int} {s:ByteArray} {o:Obj} (hb1:Below w.heap.size w w1) (hc:Chg w1 FL F tb lb n puts) (h:IsTxc w1 F tb lb puts pv mw m)
 (hn:W2.heap[tb]?=some (.cells #[.pointer (some ⟨lb,0,none⟩),pv,.map (some mw)] 120 (0,0)) /\ W2.ownsRow 0 241 2 pv puts.length (wrs puts) /\
 (∀ j,(look (put m i x) j=none /\ idxs (puts ++ [(i,s)]) 0 j=[]) \/ ∃ v,look (put m i x) j=some v /\ idxs (puts ++ [(i,s)]) 0 j ≠ [] /\ W2.ownsRow 0 3 1 v (idxs (puts ++ [(i,s)]) 0 j).length (ints (idxs (puts ++ [(i,s)]) 0 j))) /\
 (∀ a b u v,a ≠ b -> look (put m i x) a=some u -> look (put m i x) b=some v -> u.ownBlock ≠ v.ownBlock) /\
 Upd (fun k=>k=mw \/ (rowOf m i).ownBlock=some k) w1 W2 /\ (∀ k,x.ownBlock=some k -> (rowOf m i).ownBlock=some k \/ w1.heap.size <= k))
 (hm:MapIs kInt id W2 mw (put m i x)) (hb3:Below W2.heap.size W2 W3)
 (ho:W5.ownsRow 0 241 2 px (puts.length + 1) (wrs puts ++ [.int .i64 i,.string s])) (hg:(W3.alloc o).grownBy W5 pv.ownBlock) (ha:px.ownBlock=pv.ownBlock \/ px.ownBlock=some (W3.alloc o).heap.size)
 (hF:∀ k,F k -> k < w.heap.size) :
 ∃ F',Chg (W5.setCell ⟨tb,1,none⟩ px) FL F' tb lb n (puts ++ [(i,s)]) /\ Turn F F' w (W5.setCell ⟨tb,1,none⟩ px):=by
 obtain ⟨n1,n2,n3,n4,n5,n6⟩:=hn
 have hu4:Upd (fun _=>False) W2 (W3.alloc o):=(hb3.upd' (Nat.le_refl _)).alloc o
 obtain ⟨p1,p2⟩:=puts_next n1 n2 n3 n4 hm hu4 ho hg
 have ow:=h.own
 have hrf:∀ k,(rowOf m i).ownBlock=some k -> F k:=by
  intro k hk
  unfold rowOf at hk
  cases hl:look m i with
  | none=>rw [hl] at hk; simp [Value.ownBlock] at hk
  | some v=>rw [hl] at hk; exact (ow k).2 (.inr (.inr (.inr ⟨i,v,hl,hk⟩)))
 have hUF:Upd F w1 (W5.setCell ⟨tb,1,none⟩ px):=by
  refine (n5.mono (fun k _ e=>?_)).trans' p2 (fun k hk e=>?_)
  ·rcases e with rfl | e
   ·exact (ow k).2 (.inr (.inl rfl))
   ·exact hrf k e
  ·rcases e with rfl | e
   ·exact (ow k).2 (.inl rfl)
   ·exact (ow k).2 (.inr (.inr (.inl e)))
 have hU:Upd F w (W5.setCell ⟨tb,1,none⟩ px):=((hb1.upd' (Nat.le_refl _)).mono (fun _ _ e=>e.elim)).trans hUF
 have hsub:∀ k,(k=tb \/ k=mw \/ px.ownBlock=some k \/ ∃ j v,look (put m i x) j=some v /\ v.ownBlock=some k) -> F k \/ w1.heap.size <= k:=by
  intro k hk
  have s2:w1.heap.size <= (W3.alloc o).heap.size:=by have:=n5.size; have:=hu4.size; omega
  rcases hk with rfl | rfl | e | ⟨j,v,e1,e2⟩
  ·exact .inl ((ow _).2 (.inl rfl))
  ·exact .inl ((ow _).2 (.inr (.inl rfl)))
  ·rcases ha with a | a
   ·exact .inl ((ow k).2 (.inr (.inr (.inl (by rw [<- a,e])))))
   ·rw [e] at a; simp only [Option.some.injEq] at a; exact .inr (by rw [a]; exact s2)
  ·rw [look_put] at e1
   split at e1
   ·cases e1
    rcases n6 k e2 with a | a
    ·exact .inl (hrf k a)
    ·exact .inr a
   ·exact .inl ((ow k).2 (.inr (.inr (.inr ⟨j,v,e1,e2⟩))))
 refine ⟨_,⟨hc.log.frame hUF (fun k hk e=>hc.apart k hk e),⟨_,_,_,p1⟩,fun k hk hf=>?_⟩,hU,fun k hk=>(hsub k hk).imp id (fun e=>Nat.le_trans hb1.size e)⟩
 rcases hsub k hf with e | e
 ·exact hc.apart k hk e
 ·have:=hc.log.lt k hk; omega
theorem put_at {W2 W3 W5:World} {tb lb mw k:Nat} {pv:Value} {l:List Value} {o:Obj} (h1:W2.heap[tb]?=some (.cells #[.pointer (some ⟨lb,0,none⟩),pv,.map (some mw)] 120 (0,0))) (h2:W2.ownsRow 0 241 2 pv k l) (hb3:Below W2.heap.size W2 W3) (hg:(W3.alloc o).grownBy W5 pv.ownBlock) :
 W5.heap[tb]?=some (.cells #[.pointer (some ⟨lb,0,none⟩),pv,.map (some mw)] 120 (0,0)):=by
 have npt:pv.ownBlock ≠ some tb:=fun e=>by
  obtain ⟨cur,hc⟩:=ownsRow_cells h2 e
  rw [h1] at hc; simp at hc
 have e4:=((hb3.upd' (Nat.le_refl _)).alloc o).at h1 (fun e=>e)
 exact (hg.block tb (lt_of_heap e4) (fun e=>npt e.symm)).trans e4
theorem TWrite_ok (tb lb n:Nat) (FL F:Nat -> Prop) (puts:List (Int × ByteArray)) (i:Int) (s:ByteArray) (w:World) (h:Chg w FL F tb lb n puts) (hp:puts.length <= 4000000) (i0:0 <= i) (i1:i < n) (hs:s.size <= 512) :
 Calls Tryz.prog 94 #[.pointer (some ⟨tb,0,none⟩),.int .i64 i,.string s] w fun e w'=>e=.returned (.int .i64 0) /\ Hid (∃ F',Chg w' FL F' tb lb n (puts ++ [(i,pad s)]) /\ Turn F F' w w'):=by
 have DD:=Tdead_c tb lb n FL F puts w h
 have HM:=THomes_c tb lb n FL F puts w h
 have H:=Hd h
 obtain ⟨q,hq⟩:=exE (512 - s.size)
 have hq1:IntKind.i64.wrap (512 - (s.size:Int))=(q:Int):=by rw [wr64 (by omega) (by omega)]; omega
 have RP:=Hd (fun w=>Tryz.strings_Repeat ⟨#[0]⟩ q w (by omega) (show 1 * q <= _ by omega))
 have hpd:=pad_repeat s hs
 rw [hq] at hpd
 obtain ⟨z,hz⟩:∃ z:ByteArray,(⟨(Lib.repeatL (⟨#[0]⟩:ByteArray).data.toList q).toArray⟩:ByteArray)=z:=⟨_,rfl⟩
 rw [hz] at RP hpd
 have hzs:s.size + z.size=512:=by
  have:=congrArg ByteArray.size hpd
  rw [ByteArray.size_append,Lib.size_eq (pad s)] at this
  simp [pad] at this
  omega
 have ha1:(s.size + z.size > 9223372036854775807)=False:=eq_false (by omega)
 have ha2:(9223372036854775807 < s.size + z.size)=False:=eq_false (by omega)
 have HPD:=Hd hpd
 clear h hz hpd hq
 go_enter Tryz.func94,Tryz.ntmps94
 go_wp2_with (go_at_call 146; refine DD.mono ?_; rintro e w1 ⟨rfl,rfl⟩)
 refine HM.mono ?_
 rintro e w1 ⟨rfl,hb⟩
 have HB:=Hd hb
 have hc1:=H.out.below hb
 clear hb HM DD
 obtain ⟨pv,mw,m,ht⟩:=hc1.tx
 obtain ⟨-,c1,c2⟩:=ht.c
 obtain ⟨pa,pl,pc,rfl⟩:=slice_form ht.row
 obtain rfl:=rlen ht.row
 have f1:=frozen_lit ht.cells 1
 obtain ⟨jI,hjI,hI0,hI1,hI2⟩:=info_parts infoI
 obtain ⟨jU,hjU,hU0,hU1,hU2⟩:=info_parts infoU
 have hlen:=idxs_len puts 0 i
 have hr0:=ht.rowOf i
 have lkA:(Instr.lookup 117 (.map (some mw)) (.int .i64 i) false).run Tryz.prog w1.drew=.ok (rowOf m i) w1.drew:=by
  have:=run_lookup (w:=w1.drew) (ht.map.of_heap rfl) Tryz.underlying117 Tryz.underlying3 (zeroInts _) i
  simp only [kInt,Option.map_id] at this
  exact this
 have lkB:(Instr.lookup 117 (.map (some mw)) (.int .i64 i) false).run Tryz.prog (w1.alloc (.cells #[.int .i64 (puts.length:Int)] 3)).drew=.ok (rowOf m i) (w1.alloc (.cells #[.int .i64 (puts.length:Int)] 3)).drew:=by
  have:=run_lookup (w:=(w1.alloc (.cells #[.int .i64 (puts.length:Int)] 3)).drew) (ht.map.of_heap (heap_alloc_lt _ ht.map.lt)) Tryz.underlying117 Tryz.underlying3 (zeroInts _) i
  simp only [kInt,Option.map_id] at this
  exact this
 have HT:=Hd ht
 have HC1:=Hd hc1
 have HR0:=Hd (show w1.drew.ownsRow 0 3 1 (rowOf m i) (idxs puts 0 i).length (ints (idxs puts 0 i)) from hr0)
 have HLI:=Hd (lenI (k:=(idxs puts 0 i).length) (by omega))
 have HLP:=Hd (lenI hp)
 clear ht hc1 hr0 hlen
 go_wp2_with fail
 go_region_held3 (fun w'=>w'.cell? ⟨tb,1,none⟩=some (.slice pa puts.length pc) /\ w'.cell? ⟨tb,2,none⟩=some (.map (some mw))) (go_keep) ((first
  | (refine step_append_y (by rfl) _ _ _ (by rfl) 0 3 jI _ 1 8 Tryz.underlying191 hjI hI0 hI1 hI2 rfl (by decide) _ _ _ (by rfl) (HR0.out.alloc _) _ 1 _ (by rfl) (yields_boxL _ #[.int .i64 (puts.length:Int)] _ 1 1) rfl (one1 _ rfl) HLI.out.1 HLI.out.2.1 (Nat.zero_le _) ?_
     intro x W ho hg ha
     obtain ⟨W2,hrun,hm2,hu2⟩:=run_mapUpdate (w:=W) (HT.out.map.upd (((Upd.refl (fun k=>(rowOf m i).ownBlock=some k) w1).drew.alloc (.cells #[.int .i64 (puts.length:Int)] 3)).grown hg (fun k hk=>.inl hk)) (row_ne_map HT.out i)) Tryz.underlying117 Tryz.underlying3 i x
     simp only [kInt,id] at hrun
     have hn:=where_next (s:=pad s) HT.out ho hg ha hm2 hu2
     have d1:W.cell? ⟨tb,1,none⟩=some (.slice pa puts.length pc):=cell_lit (where_mid HT.out hg) rfl
     have d2:W.cell? ⟨tb,2,none⟩=some (.map (some mw)):=cell_lit (where_mid HT.out hg) rfl
     have d3:W2.cell? ⟨tb,1,none⟩=some (.slice pa puts.length pc):=cell_lit hn.1 rfl
     have d4:W2.cell? ⟨tb,2,none⟩=some (.map (some mw)):=cell_lit hn.1 rfl
     have HN:=Hd hn
     have HM2:=Hd hm2
     clear hn hm2 hu2 ho hg ha)
  | fail))
 all_goals go_wp2_with fail
 all_goals (
  have d5:W2.cell? ⟨tb,1,none⟩=some (.slice pa puts.length pc):=cell_lit HN.out.1 rfl
  have HLT:=Hd (H.out.tx.lt)
  go_region_law ((first
   | (refine step_append_y (by rfl) _ _ _ (by rfl) 0 241 jU _ 2 24 Tryz.underlying118 hjU hU0 hU1 hU2 rfl (by decide) _ _ _ (by rfl) ((ownsRow_upd HN.out.2.1 (HB3.out.upd' (Nat.le_refl _)) (fun _ _ e=>e)).alloc _) _ 1 _ (by rfl) (yields_boxL _ #[.int .i64 i,.string (s ++ z)] _ 1 1) rfl (one2 _ _ rfl rfl) HLP.out.1 HLP.out.2.2 (Nat.zero_le _) ?_
      intro px W5 ho5 hg5 ha5
      obtain ⟨xa,xm,xc,rfl⟩:=slice_form ho5
      have ho6:W5.ownsRow 0 241 2 (.slice xa xm xc) (puts.length + 1) (wrs puts ++ [.int .i64 i,.string (pad s)]):=by rw [<- HPD.out]; exact ho5
      have HE:=Hd (write_end HB.out HC1.out HT.out HN.out HM2.out HB3.out ho6 hg5 ha5 HLT.out)
      have g5:=put_at HN.out.1 HN.out.2.1 HB3.out hg5
      have g1:W5.cell? ⟨tb,1,none⟩=some (.slice pa puts.length pc):=cell_lit g5 rfl
      have g2:=frozen_lit g5 1
      clear ho5 hg5 ha5 g5 ho6)
   | (go_simp; go_at_call 147; refine Calls.at_args (RP.out _) (by with_reducible rfl) ?_; rintro e W3 ⟨rfl,hb3⟩
      have e3:W3.cell? ⟨tb,1,none⟩=some (.slice pa puts.length pc):=cell_lit ((hb3.block tb (lt_of_heap HN.out.1)).trans HN.out.1) rfl
      have l3:tb < W3.heap.size:=Nat.lt_of_lt_of_le (lt_of_heap HN.out.1) hb3.size
      have HB3:Hid (Below W2.heap.size W2 W3):=Hd (((Below.refl W2.heap.size W2).drew).trans hb3)
      clear hb3)))
  all_goals go_wp2_with fail
  all_goals go_ret
  all_goals exact ⟨rfl,HE⟩)
set_option maxHeartbeats 1000000
def txWrite (n:Nat) (puts:List (Int × ByteArray)) (i:Int) (s:ByteArray):Int × List (Int × ByteArray) :=
 if i < 0 \/ (n:Int) <= i then (2,puts) else if 512 < s.size then (5,puts) else (0,puts ++ [(i,pad s)])
theorem Chg.step {w w':World} {FL F:Nat -> Prop} {tb lb n:Nat} {puts:List (Int × ByteArray)} (h:Chg w FL F tb lb n puts) (hb:Below w.heap.size w w'):Chg w' FL F tb lb n puts /\ Turn F F w w' :=
 ⟨h.below hb,(hb.upd' (Nat.le_refl _)).mono (fun _ _ e=>e.elim),fun _ e=>.inl e⟩
theorem TWrite_c (tb lb n:Nat) (FL F:Nat -> Prop) (puts:List (Int × ByteArray)) (i:Int) (s:ByteArray) (w:World) (h:Chg w FL F tb lb n puts) (hp:puts.length <= 4000000) :
 Calls Tryz.prog 94 #[.pointer (some ⟨tb,0,none⟩),.int .i64 i,.string s] w fun e w'=>e=.returned (.int .i64 (txWrite n puts i s).1) /\ Hid (∃ F',Chg w' FL F' tb lb n (txWrite n puts i s).2 /\ Turn F F' w w'):=by
 have DD:=Tdead_c tb lb n FL F puts w h
 have HM:=THomes_c tb lb n FL F puts w h
 have H:=Hd h
 by_cases i0:i < 0
 ·have HE:=Hd (show txWrite n puts i s=(2,puts) by unfold txWrite; rw [if_pos (.inl i0)])
  clear HM h
  go_enter Tryz.func94,Tryz.ntmps94
  go_wp2_with (go_at_call 146; refine DD.mono ?_; rintro e w1 ⟨rfl,rfl⟩)
  go_ret
  exact ⟨by rw [HE.out]; rfl,by rw [HE.out]; exact ⟨F,H.out.step (Below.refl _ _)⟩⟩
 by_cases i1:(n:Int) <= i
 ·have HE:=Hd (show txWrite n puts i s=(2,puts) by unfold txWrite; rw [if_pos (.inr i1)])
  clear h
  go_enter Tryz.func94,Tryz.ntmps94
  go_wp2_with (first | (go_at_call 146; refine DD.mono ?_; rintro e w1 ⟨rfl,rfl⟩) | (go_at_call 58; refine HM.mono ?_; rintro e w2 ⟨rfl,hb⟩))
  go_ret
  exact ⟨by rw [HE.out]; rfl,by rw [HE.out]; exact ⟨F,H.out.step hb⟩⟩
 by_cases hs:512 < s.size
 ·have HE:=Hd (show txWrite n puts i s=(5,puts) by unfold txWrite; rw [if_neg (by omega),if_pos hs])
  clear h
  go_enter Tryz.func94,Tryz.ntmps94
  go_wp2_with (first | (go_at_call 146; refine DD.mono ?_; rintro e w1 ⟨rfl,rfl⟩) | (go_at_call 58; refine HM.mono ?_; rintro e w2 ⟨rfl,hb⟩))
  go_ret
  exact ⟨by rw [HE.out]; rfl,by rw [HE.out]; exact ⟨F,H.out.step hb⟩⟩
 ·have:=TWrite_ok tb lb n FL F puts i s w h hp (by omega) (by omega) (by omega)
  rwa [show txWrite n puts i s=(0,puts ++ [(i,pad s)]) by unfold txWrite; rw [if_neg (by omega),if_neg hs]]
def byte8 (a b c d e f g h:Bool):Nat:=a.toNat + 2 * b.toNat + 4 * c.toNat + 8 * d.toNat + 16 * e.toNat + 32 * f.toNat + 64 * g.toNat + 128 * h.toNat
def byteU (u:Nat -> Bool) (k:Nat):Nat:=byte8 (u k) (u (k + 1)) (u (k + 2)) (u (k + 3)) (u (k + 4)) (u (k + 5)) (u (k + 6)) (u (k + 7))
theorem byte8_lt (a b c d e f g h:Bool):byte8 a b c d e f g h < 256:=by revert a b c d e f g h; decide
theorem byteU_lt (u:Nat -> Bool) (k:Nat):byteU u k < 256:=byte8_lt _ _ _ _ _ _ _ _
theorem byte8_and (a b c d e f g h:Bool):(byte8 a b c d e f g h &&& 1 != 0)=a /\ (byte8 a b c d e f g h &&& 2 != 0)=b /\ (byte8 a b c d e f g h &&& 4 != 0)=c /\ (byte8 a b c d e f g h &&& 8 != 0)=d /\
 (byte8 a b c d e f g h &&& 16 != 0)=e /\ (byte8 a b c d e f g h &&& 32 != 0)=f /\ (byte8 a b c d e f g h &&& 64 != 0)=g /\ (byte8 a b c d e f g h &&& 128 != 0)=h:=by revert a b c d e f g h; decide
theorem byte8_xor (a b c d e f g h:Bool):byte8 a b c d e f g h ^^^ 1=byte8 (!a) b c d e f g h /\ byte8 a b c d e f g h ^^^ 2=byte8 a (!b) c d e f g h /\ byte8 a b c d e f g h ^^^ 4=byte8 a b (!c) d e f g h /\ byte8 a b c d e f g h ^^^ 8=byte8 a b c (!d) e f g h /\
 byte8 a b c d e f g h ^^^ 16=byte8 a b c d (!e) f g h /\ byte8 a b c d e f g h ^^^ 32=byte8 a b c d e (!f) g h /\ byte8 a b c d e f g h ^^^ 64=byte8 a b c d e f (!g) h /\ byte8 a b c d e f g h ^^^ 128=byte8 a b c d e f g (!h):=by revert a b c d e f g h; decide
def flip (u:Nat -> Bool) (p:Nat):Nat -> Bool:=fun q=>if q=p then !u q else u q
theorem eight {b:Nat} (h:b < 8):b=0 \/ b=1 \/ b=2 \/ b=3 \/ b=4 \/ b=5 \/ b=6 \/ b=7:=by omega
theorem byteU_and (u:Nat -> Bool) (k b:Nat) (hb:b < 8):(byteU u k &&& 2 ^ b != 0)=u (k + b):=by
 obtain ⟨h0,h1,h2,h3,h4,h5,h6,h7⟩:=byte8_and (u k) (u (k + 1)) (u (k + 2)) (u (k + 3)) (u (k + 4)) (u (k + 5)) (u (k + 6)) (u (k + 7))
 rcases eight hb with rfl | rfl | rfl | rfl | rfl | rfl | rfl | rfl
 ·exact h0
 ·exact h1
 ·exact h2
 ·exact h3
 ·exact h4
 ·exact h5
 ·exact h6
 ·exact h7
theorem byteU_flip (u:Nat -> Bool) (k b:Nat) (hb:b < 8):byteU u k ^^^ 2 ^ b=byteU (flip u (k + b)) k:=by
 obtain ⟨h0,h1,h2,h3,h4,h5,h6,h7⟩:=byte8_xor (u k) (u (k + 1)) (u (k + 2)) (u (k + 3)) (u (k + 4)) (u (k + 5)) (u (k + 6)) (u (k + 7))
 have e:∀ j,flip u (k + b) (k + j)=if j=b then !u (k + j) else u (k + j):=by
  intro j
  unfold flip
  by_cases e:j=b
  ·rw [if_pos e,if_pos (by rw [e])]
  ·rw [if_neg e,if_neg (by omega)]
 unfold byteU
 rw [show flip u (k + b) k=if 0=b then !u k else u k from e 0,e 1,e 2,e 3,e 4,e 5,e 6,e 7]
 rcases eight hb with rfl | rfl | rfl | rfl | rfl | rfl | rfl | rfl
 ·exact h0
 ·exact h1
 ·exact h2
 ·exact h3
 ·exact h4
 ·exact h5
 ·exact h6
 ·exact h7
theorem byteU_flip_far (u:Nat -> Bool) (k p:Nat) (h:p < k \/ k + 8 <= p):byteU (flip u p) k=byteU u k:=by
 have e:∀ j,j < 8 -> flip u p (k + j)=u (k + j):=fun j hj=>by unfold flip; rw [if_neg (by omega)]
 unfold byteU
 rw [show flip u p k=u k from e 0 (by omega),e 1 (by omega),e 2 (by omega),e 3 (by omega),e 4 (by omega),e 5 (by omega),e 6 (by omega),e 7 (by omega)]
def bitsL (u:Nat -> Bool) (m:Nat):List UInt8:=(List.range 512).map fun i=>UInt8.ofNat (byteU u (m * 4096 + 8 * i))
def bitsB (u:Nat -> Bool) (m:Nat):ByteArray:=⟨(bitsL u m).toArray⟩
theorem bitsL_length (u:Nat -> Bool) (m:Nat):(bitsL u m).length=512:=by simp [bitsL]
theorem bitsB_size (u:Nat -> Bool) (m:Nat):(bitsB u m).size=512:=by rw [Lib.size_eq]; exact bitsL_length u m
theorem bitsB_get (u:Nat -> Bool) (m i:Nat) (hi:i < 512):(bitsB u m)[i]?=some (UInt8.ofNat (byteU u (m * 4096 + 8 * i))):=by
 rw [getElem?_pos _ i (by rw [bitsB_size]; exact hi)]
 have:(bitsB u m)[i]'(by rw [bitsB_size]; exact hi)=(bitsL u m)[i]'(by rw [bitsL_length]; exact hi):=rfl
 rw [this]
 simp [bitsL]
theorem bitsL_flip (u:Nat -> Bool) (m p:Nat) (h:p / 4096=m):bitsL (flip u p) m=(bitsL u m).set (p % 4096 / 8) (UInt8.ofNat (byteU u (m * 4096 + 8 * (p % 4096 / 8)) ^^^ 2 ^ (p % 8))):=by
 apply List.ext_getElem
 ·simp [bitsL]
 ·intro i h1 h2
  have hi:i < 512:=by simpa [bitsL] using h1
  rw [List.getElem_set]
  simp only [bitsL,List.getElem_map,List.getElem_range]
  by_cases e:p % 4096 / 8=i
  ·rw [if_pos e,byteU_flip _ _ _ (by omega)]
   subst e
   rw [show m * 4096 + 8 * (p % 4096 / 8) + p % 8=p by omega]
  ·rw [if_neg e,byteU_flip_far _ _ _ (by omega)]
theorem bitsB_flip_other (u:Nat -> Bool) (m p:Nat) (h:p / 4096 ≠ m):bitsB (flip u p) m=bitsB u m:=by
 unfold bitsB bitsL
 congr 2
 apply List.map_congr_left
 intro i hi
 have:=List.mem_range.1 hi
 rw [byteU_flip_far _ _ _ (by omega)]
theorem free8 (a b c d e f g h:Bool) (hx:byte8 a b c d e f g h ≠ 255):Lib.trailingZeros8 (255 ^^^ byte8 a b c d e f g h) < 8 /\ [a,b,c,d,e,f,g,h][Lib.trailingZeros8 (255 ^^^ byte8 a b c d e f g h)]?=some false /\
 ∀ j,j < Lib.trailingZeros8 (255 ^^^ byte8 a b c d e f g h) -> [a,b,c,d,e,f,g,h][j]?=some true:=by
 revert hx; revert a b c d e f g h; decide +kernel
theorem sel8 (u:Nat -> Bool) (k j:Nat) (hj:j < 8):[u k,u (k + 1),u (k + 2),u (k + 3),u (k + 4),u (k + 5),u (k + 6),u (k + 7)][j]?=some (u (k + j)):=by
 rcases eight hj with rfl | rfl | rfl | rfl | rfl | rfl | rfl | rfl <;> rfl
theorem byteU_free (u:Nat -> Bool) (k:Nat) (hx:byteU u k ≠ 255):∃ t,t < 8 /\ Lib.trailingZeros8 (255 ^^^ byteU u k)=t /\ u (k + t)=false /\ ∀ j,j < t -> u (k + j)=true:=by
 obtain ⟨h1,h2,h3⟩:=free8 (u k) (u (k + 1)) (u (k + 2)) (u (k + 3)) (u (k + 4)) (u (k + 5)) (u (k + 6)) (u (k + 7)) hx
 refine ⟨_,h1,rfl,?_,fun j hj=>?_⟩
 ·rw [sel8 u k _ h1] at h2; exact Option.some.inj h2
 ·have:=h3 j hj; rw [sel8 u k _ (Nat.lt_trans hj h1)] at this; exact Option.some.inj this
theorem full8 (a b c d e f g h:Bool) (hx:byte8 a b c d e f g h=255):a=true /\ b=true /\ c=true /\ d=true /\ e=true /\ f=true /\ g=true /\ h=true:=by
 have t:∀ x:Bool,x.toNat=1 -> x=true:=by decide
 have l:∀ x:Bool,x.toNat <= 1:=by decide
 have la:=l a
 have lb:=l b
 have lc:=l c
 have ld:=l d
 have le:=l e
 have lf:=l f
 have lg:=l g
 have lh:=l h
 unfold byte8 at hx
 exact ⟨t a (by omega),t b (by omega),t c (by omega),t d (by omega),t e (by omega),t f (by omega),t g (by omega),t h (by omega)⟩
theorem byteU_full (u:Nat -> Bool) (k:Nat) (hx:byteU u k=255):∀ j,j < 8 -> u (k + j)=true:=by
 obtain ⟨h0,h1,h2,h3,h4,h5,h6,h7⟩:=full8 _ _ _ _ _ _ _ _ hx
 intro j hj
 rcases eight hj with rfl | rfl | rfl | rfl | rfl | rfl | rfl | rfl
 ·exact h0
 ·exact h1
 ·exact h2
 ·exact h3
 ·exact h4
 ·exact h5
 ·exact h6
 ·exact h7
def cnt (u:Nat -> Bool):Nat -> Nat
 | 0=>0
 | k + 1=>cnt u k + (u k).toNat
theorem ones8 (a b c d e f g h:Bool):Lib.onesCount (byte8 a b c d e f g h)=a.toNat + b.toNat + c.toNat + d.toNat + e.toNat + f.toNat + g.toNat + h.toNat:=by
 revert a b c d e f g h; decide +kernel
theorem cnt_byte (u:Nat -> Bool) (k:Nat):cnt u (k + 8)=cnt u k + Lib.onesCount (byteU u k):=by
 unfold byteU
 rw [ones8]
 simp only [cnt]
 omega
def rootAt (r:Nat -> Nat) (i:Nat):UInt8:=if i < 128 then UInt8.ofNat (r (i / 8) / 256 ^ (7 - i % 8) % 256) else 0
def rootsL (r:Nat -> Nat):List UInt8:=(List.range 512).map (rootAt r)
def rootsB (r:Nat -> Nat):ByteArray:=⟨(rootsL r).toArray⟩
theorem rootsL_length (r:Nat -> Nat):(rootsL r).length=512:=by simp [rootsL]
theorem rootsB_size (r:Nat -> Nat):(rootsB r).size=512:=by rw [Lib.size_eq]; exact rootsL_length r
theorem rootsB_get (r:Nat -> Nat) (k j:Nat) (hk:k < 16) (hj:j < 8):(rootsB r)[8 * k + j]?=some (UInt8.ofNat (r k / 256 ^ (7 - j) % 256)):=by
 have hi:8 * k + j < 512:=by omega
 rw [getElem?_pos _ (8 * k + j) (by rw [rootsB_size]; exact hi)]
 have:(rootsB r)[8 * k + j]'(by rw [rootsB_size]; exact hi)=(rootsL r)[8 * k + j]'(by rw [rootsL_length]; exact hi):=rfl
 rw [this]
 simp only [rootsL,List.getElem_map,List.getElem_range]
 unfold rootAt
 rw [if_pos (by omega),show (8 * k + j) / 8=k by omega,show (8 * k + j) % 8=j by omega]
def be8 (v n:Nat):List UInt8:=(List.range n).map fun j=>UInt8.ofNat (v / 256 ^ (7 - j) % 256)
def upd (r:Nat -> Nat) (k v:Nat):Nat -> Nat:=fun q=>if q=k then v else r q
theorem roots_set (r:Nat -> Nat) (k v:Nat) (hk:k < 16):(rootsL r).take (8 * k) ++ be8 v 8 ++ (rootsL r).drop (8 * k + 8)=rootsL (upd r k v):=by
 have l1:((rootsL r).take (8 * k)).length=8 * k:=by rw [List.length_take,rootsL_length]; omega
 have l2:(be8 v 8).length=8:=by simp [be8]
 apply List.ext_getElem
 ·simp [rootsL,be8]; omega
 ·intro i h1 h2
  have hi:i < 512:=by simpa [rootsL] using h2
  have e2:(rootsL (upd r k v))[i]'h2=rootAt (upd r k v) i:=by simp [rootsL]
  rw [e2]
  by_cases c1:i < 8 * k
  ·rw [List.getElem_append_left (by simp [l1,l2]; omega),List.getElem_append_left (by omega),List.getElem_take]
   simp only [rootsL,List.getElem_map,List.getElem_range,rootAt]
   rw [if_pos (by omega),if_pos (by omega)]
   unfold upd
   rw [if_neg (by omega)]
  ·by_cases c2:i < 8 * k + 8
   ·rw [List.getElem_append_left (by simp [l1,l2]; omega),List.getElem_append_right (by omega)]
    simp only [be8,List.getElem_map,List.getElem_range,rootAt,l1]
    rw [if_pos (by omega)]
    unfold upd
    rw [if_pos (by omega),show 7 - (i - 8 * k)=7 - i % 8 by omega]
   ·rw [List.getElem_append_right (by simp [l1,l2]; omega),List.getElem_drop]
    simp only [List.length_append,l1,l2]
    simp only [rootsL,List.getElem_map,List.getElem_range]
    rw [show 8 * k + 8 + (i - (8 * k + 8))=i by omega]
    unfold rootAt
    by_cases c3:i < 128
    ·rw [if_pos c3,if_pos c3]
     unfold upd
     rw [if_neg (by omega)]
    ·rw [if_neg c3,if_neg c3]
theorem root_step (v j:Nat) (hj:j < 8):v / 256 ^ (8 - j) * 256 + v / 256 ^ (7 - j) % 256=v / 256 ^ (8 - (j + 1)):=by
 rw [show 8 - (j + 1)=7 - j by omega,show 8 - j=(7 - j) + 1 by omega,Nat.pow_succ,<- Nat.div_div_eq_div_mul]
 omega
theorem root_none (v:Nat) (h:v < 18446744073709551616):v / 256 ^ (8 - 0)=0:=by
 rw [show (256:Nat) ^ (8 - 0)=18446744073709551616 by decide]; omega
theorem pad0_bits (m:Nat):bitsB (fun _=>false) m=pad0:=by
 apply ByteArray.ext
 apply Array.toList_inj.1
 rw [pad0_data]
 show bitsL (fun _=>false) m=_
 unfold bitsL
 rw [show (fun i=>UInt8.ofNat (byteU (fun _=>false) (m * 4096 + 8 * i)))=fun _=>0 from rfl]
 rw [List.map_const',List.length_range]
theorem pad0_roots:rootsB (fun _=>0)=pad0:=by
 apply ByteArray.ext
 apply Array.toList_inj.1
 rw [pad0_data]
 show rootsL (fun _=>0)=_
 unfold rootsL
 rw [show rootAt (fun _=>0)=fun _=>0 from funext fun i=>by unfold rootAt; simp]
 rw [List.map_const',List.length_range]
def pagesN (n:Nat):Nat:=(n - 1) / 4097 * 4096 + ((n - 1) % 4097 - 1)
def mapsN (n:Nat):Nat:=(pagesN n + 4095) / 4096
theorem pages_fit (n:Nat) (h:1 <= n):1 + mapsN n + pagesN n <= n:=by unfold mapsN pagesN; omega
theorem pages_maps (n p:Nat) (h:p < pagesN n):p / 4096 < mapsN n:=by unfold mapsN; omega
structure Rm1 (w:World) (G:Nat -> Prop) (rb n tb lb:Nat) (FL F:Nat -> Prop) (puts:List (Int × ByteArray)):Prop where
 chg:Chg w FL F tb lb n puts
 cells:w.heap[rb]?=some (.cells #[.pointer (some ⟨tb,0,none⟩),.int .i64 (mapsN n:Int),.int .i64 (pagesN n:Int)] 116 (0,0))
 nL:¬ FL rb
 nF:¬ F rb
 own:∀ k,G k ↔ FL k \/ F k \/ k=rb
def Rm (w:World) (G:Nat -> Prop) (rb n:Nat) (puts:List (Int × ByteArray)):Prop:=∃ tb lb FL F,Rm1 w G rb n tb lb FL F puts
variable {w w':World} {G S:Nat -> Prop} {rb n:Nat} {puts puts':List (Int × ByteArray)}
theorem Rm1.c {tb lb:Nat} {FL F:Nat -> Prop} (h:Rm1 w G rb n tb lb FL F puts):w.cell? ⟨rb,0,none⟩=some (.pointer (some ⟨tb,0,none⟩)) /\ w.cell? ⟨rb,1,none⟩=some (.int .i64 (mapsN n:Int)) /\ w.cell? ⟨rb,2,none⟩=some (.int .i64 (pagesN n:Int)) :=
 ⟨cell_lit h.cells rfl,cell_lit h.cells rfl,cell_lit h.cells rfl⟩
theorem Rm1.below {tb lb:Nat} {FL F:Nat -> Prop} (h:Rm1 w G rb n tb lb FL F puts) (hb:Below w.heap.size w w'):Rm1 w' G rb n tb lb FL F puts :=
 ⟨h.chg.below hb,(hb.block rb (lt_of_heap h.cells)).trans h.cells,h.nL,h.nF,h.own⟩
theorem Rm.below (h:Rm w G rb n puts) (hb:Below w.heap.size w w'):Rm w' G rb n puts:=by
 obtain ⟨tb,lb,FL,F,h⟩:=h; exact ⟨tb,lb,FL,F,h.below hb⟩
theorem Rm.frame (h:Rm w G rb n puts) (hu:Upd S w w') (hn:∀ k,G k -> ¬ S k):Rm w' G rb n puts:=by
 obtain ⟨tb,lb,FL,F,h⟩:=h
 exact ⟨tb,lb,FL,F,⟨h.chg.log.frame hu (fun k hk=>hn k ((h.own k).2 (.inl hk))),h.chg.tx.frame hu (fun k hk=>hn k ((h.own k).2 (.inr (.inl hk)))),h.chg.apart⟩,hu.at h.cells (hn rb ((h.own rb).2 (.inr (.inr rfl)))),h.nL,h.nF,h.own⟩
theorem Rm.lt (h:Rm w G rb n puts):∀ k,G k -> k < w.heap.size:=by
 obtain ⟨tb,lb,FL,F,h⟩:=h
 intro k hk
 rcases (h.own k).1 hk with e | e | rfl
 ·exact h.chg.log.lt k e
 ·exact h.chg.tx.lt k e
 ·exact lt_of_heap h.cells
theorem Rm.bounds (h:Rm w G rb n puts):1 <= n /\ n <= 65335:=by
 obtain ⟨tb,lb,FL,F,h⟩:=h
 obtain ⟨db,mo,mf,mn,hl⟩:=h.chg.log
 exact ⟨hl.n0,hl.n1⟩
theorem Pages_c (n:Nat) (w:World) (h:4 <= n) (h1:n <= 65335):Calls Tryz.prog 57 #[.int .i64 n] w fun e w'=>e=.returned (.int .i64 (pagesN n:Int)) /\ w=w':=by
 have q1:min (n:Int) 1048576=n:=by omega
 have q2:Int.tdiv ((n:Int) - 1) 4097=(((n - 1) / 4097:Nat):Int):=by rw [Int.tdiv_eq_ediv_of_nonneg (by omega)]; omega
 have q3:Int.tmod ((n:Int) - 1) 4097=(((n - 1) % 4097:Nat):Int):=by rw [Int.tmod_eq_emod_of_nonneg (by omega)]; omega
 have HE:=Hd (show pagesN n=(n - 1) / 4097 * 4096 + ((n - 1) % 4097 - 1) from rfl)
 go_enter Tryz.func57,Tryz.ntmps57
 go_wp2_with fail
 go_ret
 refine ⟨?_,rfl⟩
 rw [HE.out]
 show Ending.returned (Value.int .i64 (((n - 1:Nat):Int) / 4097 * 4096 + max (((n - 1:Nat):Int) % 4097 - 1) 0))=_
 congr 2; omega
theorem mapsOf_c (n:Nat) (w:World) (h1:n <= 65335):Calls Tryz.prog 59 #[.int .i64 (pagesN n:Int)] w fun e w'=>e=.returned (.int .i64 (mapsN n:Int)) /\ w=w':=by
 have hp:pagesN n <= 65335:=by unfold pagesN; omega
 have HE:=Hd (show mapsN n=(pagesN n + 4095) / 4096 from rfl)
 generalize pagesN n=p at *
 go_enter Tryz.func59,Tryz.ntmps59
 go_wp2_with fail
 go_ret
 refine ⟨?_,rfl⟩
 rw [HE.out]
 show Ending.returned (Value.int .i64 (((p:Int) + 4096 - 1) / 4096))=_
 congr 2; omega
theorem home_c (G:Nat -> Prop) (rb n:Nat) (puts:List (Int × ByteArray)) (i:Int) (w:World) (h:Rm w G rb n puts) (hp:puts.length <= 4000000) :
 Calls Tryz.prog 105 #[.pointer (some ⟨rb,0,none⟩),.int .i64 i] w fun e w'=>e=.returned (.tuple #[.string (txRead n puts i).1,.int .i64 (txRead n puts i).2]) /\ Below w.heap.size w w':=by
 obtain ⟨tb,lb,FL,F,h⟩:=h
 obtain ⟨c0,-,-⟩:=h.c
 have TR:=TRead_c tb lb n FL F puts i w h.chg hp
 clear h
 generalize txRead n puts i=q at *
 obtain ⟨s,e⟩:=q
 simp only at TR ⊢
 go_enter Tryz.func105,Tryz.ntmps105
 go_wp2_with fail
 refine TR.mono ?_
 rintro e w1 ⟨rfl,hb⟩
 have HB:=Hd hb
 clear hb TR
 go_wp2_with fail
 go_ret2
 exact ⟨rfl,HB.out⟩
theorem txRead_code (n:Nat) (puts:List (Int × ByteArray)) (i:Int):¬ (txRead n puts i).2=3:=by
 unfold txRead
 split
 ·simp
 ·unfold lgRead; split <;> simp
theorem dead_c (G:Nat -> Prop) (rb n:Nat) (puts:List (Int × ByteArray)) (w:World) (h:Rm w G rb n puts) (hp:puts.length <= 4000000) :
 Calls Tryz.prog 91 #[.pointer (some ⟨rb,0,none⟩)] w fun e w'=>e=.returned (.bool false) /\ Below w.heap.size w w':=by
 have TR:=home_c G rb n puts 0 w h hp
 have h3:=txRead_code n puts 0
 clear h
 generalize txRead n puts 0=q at *
 obtain ⟨s,e⟩:=q
 simp only at TR h3
 have h3:(e == 3)=false:=by simpa using h3
 go_enter Tryz.func91,Tryz.ntmps91
 go_wp2_with fail
 refine TR.mono ?_
 rintro e w1 ⟨rfl,hb⟩
 have HB:=Hd hb
 clear hb TR
 go_wp2_with fail
 go_ret
 exact ⟨rfl,HB.out⟩
theorem at_c (G:Nat -> Prop) (rb n:Nat) (puts:List (Int × ByteArray)) (p:Nat) (w:World) (h:Rm w G rb n puts) (hq:p <= 100000) :
 Calls Tryz.prog 95 #[.pointer (some ⟨rb,0,none⟩),.int .i64 p] w fun e w'=>e=.returned (.int .i64 (1 + mapsN n + p:Nat)) /\ w=w':=by
 have hb:=h.bounds
 obtain ⟨tb,lb,FL,F,h⟩:=h
 obtain ⟨-,c1,-⟩:=h.c
 have hm:mapsN n <= 65335:=by unfold mapsN pagesN; omega
 clear h
 generalize mapsN n=m at *
 go_enter Tryz.func95,Tryz.ntmps95
 go_wp2_with fail
 go_ret
 exact ⟨by simp,rfl⟩
theorem bit_c (p:Nat) (w:World) (hq:p <= 100000) :
 Calls Tryz.prog 145 #[.int .i64 p] w fun e w'=>e=.returned (.tuple #[.int .i64 (1 + p / 4096:Nat),.int .i64 (p % 4096 / 8:Nat),.int .u8 (2 ^ (p % 8):Nat)]) /\ Below w.heap.size w w':=by
 obtain ⟨a,ha⟩:=exE (p / 4096)
 obtain ⟨c,hc⟩:=exE (p % 4096)
 obtain ⟨d,hd⟩:=exE (c / 8)
 obtain ⟨b,hb⟩:=exE (p % 8)
 have hb8:b < 8:=by omega
 have w1:IntKind.i64.wrap ((p:Int) / 4096)=(a:Int):=by rw [wr64 (by omega) (by omega)]; omega
 have w2:IntKind.i64.wrap (1 + (a:Int))=((1 + a:Nat):Int):=by rw [wr64 (by omega) (by omega)]; omega
 have w3:Int.tmod (p:Int) 4096=(c:Int):=by rw [Int.tmod_eq_emod_of_nonneg (by omega)]; omega
 have w4:IntKind.i64.wrap (Int.tdiv (c:Int) 8)=(d:Int):=by rw [Int.tdiv_eq_ediv_of_nonneg (by omega),wr64 (by omega) (by omega)]; omega
 have w5:Int.tmod (p:Int) 8=(b:Int):=by rw [Int.tmod_eq_emod_of_nonneg (by omega)]; omega
 have hsh:∀ w,(Op.shift BinOp.shl IntKind.u8 1 IntKind.i64 (b:Int)).run Tryz.prog w=.ok (.int .u8 ((2 ^ b:Nat):Int)) w:=by
  intro w
  rcases eight hb8 with rfl | rfl | rfl | rfl | rfl | rfl | rfl | rfl <;> rfl
 rw [ha,hc,hd,hb]
 have w6:wrap64 ((c:Int) / 8)=(d:Int):=by unfold wrap64; omega
 have w7:(2:Int) ^ b % 256=((2 ^ b:Nat):Int):=by rcases eight hb8 with rfl | rfl | rfl | rfl | rfl | rfl | rfl | rfl <;> rfl
 have W6:=Hd w6
 have W7:=Hd w7
 clear ha hc hd hb hq w6 w7
 go_enter Tryz.func145,Tryz.ntmps145
 go_wp2_with fail
 go_region
 go_wp2_with fail
 go_ret3
 refine ⟨?_,(Below.refl _ _).drew⟩
 show Ending.returned (Value.tuple #[.int .i64 (1 + (a:Int)),.int .i64 (wrap64 ((c:Int) / 8)),.int .u8 ((2:Int) ^ b % 256)])=_
 rw [W6.out,W7.out]; rfl
structure RS where
 root:Nat -> Nat
 used:Nat -> Bool
 cont:Nat -> ByteArray
 base:List (Int × ByteArray)
structure Rep (n:Nat) (puts:List (Int × ByteArray)) (S:RS):Prop where
 r0:txRead n puts 0=(rootsB S.root,0)
 rb:∀ k,S.root k < 18446744073709551616
 bits:∀ m:Nat,m < mapsN n -> txRead n puts ((1 + m:Nat):Int)=(bitsB S.used m,0)
 lim:∀ p,S.used p=true -> p < pagesN n
 page:∀ p:Nat,S.used p=true -> txRead n puts ((1 + mapsN n + p:Nat):Int)=(S.cont p,0) /\ (S.cont p).size=512
 base:S.base <+: puts
theorem txRead_put (n:Nat) (puts:List (Int × ByteArray)) (i j:Int) (s:ByteArray):txRead n (puts ++ [(i,s)]) j=if i=j then (s,0) else txRead n puts j:=by
 unfold txRead
 rw [lastO_snoc]
 by_cases h:i=j
 ·rw [if_pos h,if_pos h]
 ·rw [if_neg h,if_neg h]
theorem txWrite_ok {n:Nat} {puts:List (Int × ByteArray)} {i:Int} {s:ByteArray} (h0:0 <= i) (h1:i < n) (hs:s.size <= 512):txWrite n puts i s=(0,puts ++ [(i,pad s)]):=by
 unfold txWrite; rw [if_neg (by omega),if_neg (by omega)]
theorem pad_full {s:ByteArray} (h:s.size=512):pad s=s:=by
 unfold pad
 rw [h,Nat.sub_self,List.replicate_zero,List.append_nil]
theorem pad_size {s:ByteArray} (h:s.size <= 512):(pad s).size=512:=by
 rw [Lib.size_eq]; simp [pad]; omega
theorem Rep.start (n:Nat) (h:4 <= n):Rep n [] ⟨fun _=>0,fun _=>false,fun _=>pad0,[]⟩:=by
 have hf:=pages_fit n (by omega)
 refine ⟨?_,fun k=>(show (0:Nat) < 18446744073709551616 by decide),fun m hm=>?_,fun p hp=>(by cases hp),fun p hp=>(by cases hp),List.prefix_refl _⟩
 ·show lgRead n 0=_
  unfold lgRead; rw [if_neg (by omega),pad0_roots]
 ·show lgRead n _=_
  unfold lgRead; rw [if_neg (by omega),pad0_bits]
def RoomGo (w w':World) (G:Nat -> Prop) (rb n:Nat) (puts:List (Int × ByteArray)) (S':RS) (c:Nat):Prop:=∃ G' puts',puts'.length <= puts.length + c /\ Rm w' G' rb n puts' /\ Rep n puts' S' /\ Turn G G' w w'
theorem Rm1.write {w w':World} {G:Nat -> Prop} {rb n tb lb:Nat} {FL F F':Nat -> Prop} {puts puts':List (Int × ByteArray)} (h:Rm1 w G rb n tb lb FL F puts) (hc:Chg w' FL F' tb lb n puts') (ht:Turn F F' w w') :
 Rm1 w' (fun k=>FL k \/ F' k \/ k=rb) rb n tb lb FL F' puts' /\ Turn G (fun k=>FL k \/ F' k \/ k=rb) w w':=by
 have hu:Upd G w w':=ht.upd.mono (fun k _ hk=>(h.own k).2 (.inr (.inl hk)))
 have hrb:=lt_of_heap h.cells
 refine ⟨⟨hc,ht.upd.at h.cells h.nF,h.nL,fun e=>?_,fun k=>Iff.rfl⟩,hu,fun k hk=>?_⟩
 ·rcases ht.sub rb e with a | a
  ·exact h.nF a
  ·omega
 ·rcases hk with a | a | rfl
  ·exact .inl ((h.own k).2 (.inl a))
  ·exact (ht.sub k a).imp (fun b=>(h.own k).2 (.inr (.inl b))) id
  ·exact .inl ((h.own k).2 (.inr (.inr rfl)))
theorem RMark_c (G:Nat -> Prop) (rb n:Nat) (puts:List (Int × ByteArray)) (w:World) (h:Rm w G rb n puts) :
 Calls Tryz.prog 114 #[.pointer (some ⟨rb,0,none⟩)] w fun e w'=>e=.returned (.int .i64 puts.length) /\ w=w':=by
 obtain ⟨tb,lb,FL,F,h⟩:=h
 obtain ⟨c0,-,-⟩:=h.c
 have TM:=TMark_c tb lb n FL F puts w h.chg
 clear h
 go_enter Tryz.func114,Tryz.ntmps114
 go_wp2_with (go_at_call 164; refine TM.mono ?_; rintro e w1 ⟨rfl,rfl⟩)
 go_ret
 exact ⟨rfl,rfl⟩
theorem Has_in (G:Nat -> Prop) (rb n:Nat) (puts:List (Int × ByteArray)) (S:RS) (p:Nat) (w:World) (h:Rm w G rb n puts) (hr:Rep n puts S) (hl:puts.length <= 4000000) (hp:p < pagesN n) :
 Calls Tryz.prog 220 #[.pointer (some ⟨rb,0,none⟩),.int .i64 p] w fun e w'=>e=.returned (.tuple #[.bool (S.used p),.int .i64 0]) /\ Below w.heap.size w w':=by
 have hbd:=h.bounds
 have hpn:pagesN n <= 65335:=by unfold pagesN; omega
 have HD:=Hd (dead_c G rb n puts w h hl)
 have BT:=Hd (fun w=>bit_c p w (by omega))
 have hm:=pages_maps n p hp
 have HO:Hid (∀ W,Below w.heap.size w W -> Calls Tryz.prog 105 #[.pointer (some ⟨rb,0,none⟩),.int .i64 (1 + p / 4096:Nat)] W fun e w'=>e=.returned (.tuple #[.string (bitsB S.used (p / 4096)),.int .i64 0]) /\ Below W.heap.size W w') :=
  Hd fun W hW=>by
   have:=home_c G rb n puts ((1 + p / 4096:Nat):Int) W (h.below hW) hl
   rwa [hr.bits _ hm] at this
 have hi:∀ w,(Instr.index 9 (.string (bitsB S.used (p / 4096))) (.int .i64 ((p % 4096 / 8:Nat):Int))).run Tryz.prog w=.ok (.int .u8 ((byteU S.used (p / 4096 * 4096 + 8 * (p % 4096 / 8)):Nat):Int)) w:=by
  intro w
  have:=run_idx_str (P:=Tryz.prog) 9 _ _ _ Tryz.underlying9 (bitsB_get S.used (p / 4096) (p % 4096 / 8) (by omega)) w
  rwa [UInt8.toNat_ofNat',Nat.mod_eq_of_lt (byteU_lt _ _)] at this
 have hand:=byteU_and S.used (p / 4096 * 4096 + 8 * (p % 4096 / 8)) (p % 8) (by omega)
 rw [show p / 4096 * 4096 + 8 * (p % 4096 / 8) + p % 8=p by omega] at hand
 have hx:=byteU_lt S.used (p / 4096 * 4096 + 8 * (p % 4096 / 8))
 have hq:(2:Nat) ^ (p % 8) < 256:=by rcases eight (show p % 8 < 8 by omega) with e | e | e | e | e | e | e | e <;> rw [e] <;> decide
 generalize S.used p=up at *
 obtain ⟨tb,lb,FL,F,h1⟩:=h
 have C2:Hid (∀ W,Below w.heap.size w W -> W.cell? ⟨rb,2,none⟩=some (.int .i64 (pagesN n:Int))):=Hd fun W hW=>(h1.below hW).c.2.2
 clear h1 hr
 generalize pagesN n=pg at *
 generalize bitsB S.used (p / 4096)=z at *
 generalize byteU S.used (p / 4096 * 4096 + 8 * (p % 4096 / 8))=x at *
 generalize ((1 + p / 4096:Nat):Int)=hh at *
 generalize ((p % 4096 / 8:Nat):Int)=pl at *
 generalize (2:Nat) ^ (p % 8)=q at *
 have hb:=u8_and_nat x q hx hq
 have hne:((bits .and .u8 (x:Int) (q:Int)) != 0)=up:=by
  rw [hb,<- hand]
  cases h0:(x &&& q) with
  | zero=>rfl
  | succ k=>simp; omega
 clear hb hand hx hq
 go_enter Tryz.func220,Tryz.ntmps220
 go_wp2_with fail
 refine (HD.out).mono ?_
 rintro e w1 ⟨rfl,hb1⟩
 have HB1:=Hd hb1
 have c2:=C2.out _ hb1
 clear hb1
 go_wp2_with fail
 refine (BT.out _).mono ?_
 rintro e w2 ⟨rfl,hb2⟩
 have HB2:=Hd ((HB1.out).trans (hb2.mono (HB1.out).size))
 clear hb2
 go_wp2_with fail
 refine (HO.out _ HB2.out).mono ?_
 rintro e w3 ⟨rfl,hb3⟩
 have HB3:=Hd ((HB2.out).trans (hb3.mono (HB2.out).size))
 clear hb3
 go_wp2_with fail
 go_ret2
 exact ⟨rfl,HB3.out⟩
theorem taken_c (G:Nat -> Prop) (rb n:Nat) (puts:List (Int × ByteArray)) (S:RS) (p:Nat) (w:World) (h:Rm w G rb n puts) (hr:Rep n puts S) (hl:puts.length <= 4000000) (hu:S.used p=true) :
 Calls Tryz.prog 182 #[.pointer (some ⟨rb,0,none⟩),.int .i64 p] w fun e w'=>e=.returned (.int .i64 0) /\ Below w.heap.size w w':=by
 have HS:=Has_in G rb n puts S p w h hr hl (hr.lim p hu)
 rw [hu] at HS
 clear hu h hr
 go_enter Tryz.func182,Tryz.ntmps182
 go_wp2_with fail
 refine HS.mono ?_
 rintro e w1 ⟨rfl,hb⟩
 have HB:=Hd hb
 clear hb
 go_wp2_with fail
 go_ret
 exact ⟨rfl,HB.out⟩
theorem PRead_c (G:Nat -> Prop) (rb n:Nat) (puts:List (Int × ByteArray)) (S:RS) (p:Nat) (w:World) (h:Rm w G rb n puts) (hr:Rep n puts S) (hl:puts.length <= 4000000) (hu:S.used p=true) :
 Calls Tryz.prog 183 #[.pointer (some ⟨rb,0,none⟩),.int .i64 p] w fun e w'=>e=.returned (.tuple #[.string (S.cont p),.int .i64 0]) /\ Below w.heap.size w w':=by
 have hbd:=h.bounds
 have hpn:pagesN n <= 65335:=by unfold pagesN; omega
 have hlim:=hr.lim p hu
 have TK:=taken_c G rb n puts S p w h hr hl hu
 have AT:=Hd (fun W (hW:Below w.heap.size w W)=>at_c G rb n puts p W (h.below hW) (by omega))
 have HO:Hid (∀ W,Below w.heap.size w W -> Calls Tryz.prog 105 #[.pointer (some ⟨rb,0,none⟩),.int .i64 (1 + mapsN n + p:Nat)] W fun e w'=>e=.returned (.tuple #[.string (S.cont p),.int .i64 0]) /\ Below W.heap.size W w') :=
  Hd fun W hW=>by
   have:=home_c G rb n puts ((1 + mapsN n + p:Nat):Int) W (h.below hW) hl
   rwa [(hr.page p hu).1] at this
 clear hu h hr hlim
 generalize S.cont p=z at *
 generalize ((1 + mapsN n + p:Nat):Int)=q at *
 go_enter Tryz.func183,Tryz.ntmps183
 go_wp2_with fail
 refine TK.mono ?_
 rintro e w1 ⟨rfl,hb⟩
 have HB:=Hd hb
 clear hb
 go_wp2_with fail
 refine (AT.out _ HB.out).mono ?_
 rintro e w2 ⟨rfl,rfl⟩
 go_wp2_with fail
 refine (HO.out _ HB.out).mono ?_
 rintro e w3 ⟨rfl,hb3⟩
 have HB3:=Hd ((HB.out).trans (hb3.mono (HB.out).size))
 clear hb3
 go_wp2_with fail
 go_ret2
 exact ⟨rfl,HB3.out⟩
theorem Root_c (G:Nat -> Prop) (rb n:Nat) (puts:List (Int × ByteArray)) (S:RS) (k:Nat) (w:World) (h:Rm w G rb n puts) (hr:Rep n puts S) (hl:puts.length <= 4000000) (hk:k < 16) :
 Calls Tryz.prog 69 #[.pointer (some ⟨rb,0,none⟩),.int .i64 k] w fun e w'=>e=.returned (.tuple #[.int .u64 (S.root k:Int),.int .i64 0]) /\ Below w.heap.size w w':=by
 have HO:=home_c G rb n puts 0 w h hl
 rw [hr.r0] at HO
 have hv:=hr.rb k
 have HI:=Hd (fun j (hj:j < 8) w=>run_idx_str (P:=Tryz.prog) 9 _ _ _ Tryz.underlying9 (rootsB_get S.root k j hk hj) w)
 have hsz:=rootsB_size S.root
 clear hr h
 generalize hR:S.root k=v at *
 clear hR
 generalize rootsB S.root=z at *
 go_enter Tryz.func69,Tryz.ntmps69
 go_wp2_with fail
 refine HO.mono ?_
 rintro e w1 ⟨rfl,hb⟩
 have HB:=Hd hb
 clear hb HO
 go_wp2_with fail
 go_loopg [8,26] 8 (fun g s8 s26 wr=>∃ j:Nat,g=8 - j /\ j <= 8 /\ s26=.int .i64 j /\ s8=.int .u64 (v / 256 ^ (8 - j):Nat) /\ w1=wr)
 case atStart=>exact ⟨0,rfl,Nat.zero_le _,rfl,by rw [root_none v hv]; rfl,rfl⟩
 case round =>
  obtain ⟨j,rfl,hj,rfl,rfl,rfl⟩:=hrel
  by_cases hlt:j < 8
  ·have i1:∀ w,(Instr.index 9 (.string z) (.int .i64 (8 * (k:Int) + (j:Int)))).run Tryz.prog w=.ok (.int .u8 ((v / 256 ^ (7 - j) % 256:Nat):Int)) w:=by
    intro w
    have:=HI.out j hlt w
    rw [UInt8.toNat_ofNat',Nat.mod_mod] at this
    rwa [show ((8 * k + j:Nat):Int)=8 * (k:Int) + (j:Int) by omega] at this
   have HS:=Hd (root_step v j hlt)
   have hx:v / 256 ^ (8 - j) < 72057594037927936:=by
    have h1:v / 256 ^ (8 - j) <= v / 256 ^ 1:=Nat.div_le_div_left (Nat.pow_le_pow_right (by decide) (by omega)) (by decide)
    omega
   have hy:v / 256 ^ (7 - j) % 256 < 256:=Nat.mod_lt _ (by decide)
   generalize v / 256 ^ (8 - j)=x at *
   generalize v / 256 ^ (7 - j) % 256=y at *
   have HOR:Hid (bits .or .u64 ((x:Int) * 256) (y:Int)=((x * 256 + y:Nat):Int)):=Hd (by
    have:=u64_or_nat (x * 256) y (by omega) (by omega)
    rw [show ((x * 256:Nat):Int)=(x:Int) * 256 by omega] at this
    rw [this,show x * 256=x <<< 8 by rw [Nat.shiftLeft_eq],Nat.shiftLeft_add_eq_or_of_lt (by simpa using hy)])
   go_wp2_with fail
   go_roundg (8 - (j + 1))
   case measure=>omega
   case rel=>exact ⟨j + 1,rfl,by omega,by simp,by rw [<- HS.out,<- HOR.out],rfl⟩
  ·obtain rfl:j=8:=by omega
   go_wp2_with fail
   go_ret2
   exact ⟨by simp,HB.out⟩
theorem rep_page {n:Nat} {puts:List (Int × ByteArray)} {S:RS} {p:Nat} {s:ByteArray} (hr:Rep n puts S) (hp:p < pagesN n) (hs:s.size=512):Rep n (puts ++ [(((1 + mapsN n + p:Nat):Int),s)]) ⟨S.root,S.used,fun q=>if q=p then s else S.cont q,S.base⟩:=by
 refine ⟨?_,hr.rb,fun m hm=>?_,hr.lim,fun q hq=>?_,hr.base.trans (List.prefix_append _ _)⟩
 ·rw [txRead_put,if_neg (by omega)]; exact hr.r0
 ·rw [txRead_put,if_neg (by omega)]; exact hr.bits m hm
 ·rw [txRead_put]
  by_cases e:q=p
  ·subst e
   rw [if_pos rfl]
   simp only [if_true]
   exact ⟨trivial,hs⟩
  ·rw [if_neg (by omega)]
   simp only [if_neg e]
   exact hr.page q hq
theorem PWrite_c (G:Nat -> Prop) (rb n:Nat) (puts:List (Int × ByteArray)) (S:RS) (p:Nat) (s:ByteArray) (w:World) (h:Rm w G rb n puts) (hr:Rep n puts S) (hl:puts.length <= 4000000) (hu:S.used p=true) (hs:s.size <= 512) :
 Calls Tryz.prog 172 #[.pointer (some ⟨rb,0,none⟩),.int .i64 p,.string s] w fun e w'=>e=.returned (.int .i64 0) /\ Hid (RoomGo w w' G rb n puts ⟨S.root,S.used,fun q=>if q=p then pad s else S.cont q,S.base⟩ 1):=by
 have hbd:=h.bounds
 have hpn:pagesN n <= 65335:=by unfold pagesN; omega
 have hlim:=hr.lim p hu
 have hfit:=pages_fit n hbd.1
 have TK:=taken_c G rb n puts S p w h hr hl hu
 have AT:=Hd (fun W (hW:Below w.heap.size w W)=>at_c G rb n puts p W (h.below hW) (by omega))
 obtain ⟨tb,lb,FL,F,h1⟩:=h
 have H1:=Hd h1
 have TW:Hid (∀ W,Below w.heap.size w W -> Calls Tryz.prog 94 #[.pointer (some ⟨tb,0,none⟩),.int .i64 (1 + mapsN n + p:Nat),.string s] W fun e w'=>e=.returned (.int .i64 0) /\ w'.cell? ⟨rb,0,none⟩=some (.pointer (some ⟨tb,0,none⟩)) /\ Hid (RoomGo w w' G rb n puts ⟨S.root,S.used,fun q=>if q=p then pad s else S.cont q,S.base⟩ 1)):=Hd fun W hW=>by
  have hw:=H1.out.below hW
  have:=TWrite_c tb lb n FL F puts ((1 + mapsN n + p:Nat):Int) s W hw.chg hl
  rw [txWrite_ok (by omega) (by omega) hs] at this
  refine this.mono ?_
  rintro e w' ⟨rfl,F',hc,ht⟩
  obtain ⟨a,b⟩:=hw.write hc ht
  exact ⟨rfl,a.c.1,_,_,by simp,⟨tb,lb,FL,F',a⟩,rep_page hr hlim (pad_size hs),⟨((hW.upd' (Nat.le_refl _)).mono (fun _ _ e=>e.elim)).trans b.upd,fun k hk=>(b.sub k hk).imp id (fun e=>Nat.le_trans hW.size e)⟩⟩
 have C0:Hid (∀ W,Below w.heap.size w W -> W.cell? ⟨rb,0,none⟩=some (.pointer (some ⟨tb,0,none⟩))):=Hd fun W hW=>(H1.out.below hW).c.1
 clear hu hr hlim h1 hfit
 generalize ((1 + mapsN n + p:Nat):Int)=q at *
 go_enter Tryz.func172,Tryz.ntmps172
 go_wp2_with fail
 refine TK.mono ?_
 rintro e w1 ⟨rfl,hb⟩
 have HB:=Hd hb
 have c0:=C0.out _ hb
 have TW2:=Hd (TW.out w1.drew hb.drew)
 have AT2:=Hd (AT.out w1.drew hb.drew)
 clear hb TK TW AT
 go_wp2_with fail
 go_region_held3 (fun w'=>w'.cell? ⟨rb,0,none⟩=some (.pointer (some ⟨tb,0,none⟩))) (go_keep) ((first
  | (go_at_call 95; refine Calls.at_args AT2.out (by with_reducible rfl) ?_; rintro e w2 ⟨rfl,rfl⟩)
  | (go_at_call 94; refine Calls.at_args TW2.out (by with_reducible rfl) ?_; rintro e w3 ⟨rfl,c3,hgo⟩; have HGO:=Hd hgo.out; clear hgo)))
 go_wp2_with fail
 go_ret
 exact ⟨rfl,HGO⟩
theorem bytesRow_at' (s:ByteArray) (n i:Nat) (h:i < s.data.toList.length):(bytesRow s n)[i]?=some (.int .u8 s.data.toList[i].toNat):=by
 have h':i < s.data.size:=by simpa using h
 unfold bytesRow
 rw [Array.getElem?_append_left (by simpa using h')]
 simp only [Array.getElem?_map,Option.map_eq_some_iff]
 exact ⟨_,Array.getElem?_eq_getElem h',by simp⟩
theorem brow_string {B:Nat} {v:Value} {l:List UInt8} {w:World} (h:BRow B v l w):(convert 91 9 v).run Tryz.prog w=.ok (.string ⟨l.toArray⟩) w:=by
 obtain ⟨g,cap,cs,fr,rfl,h1,h2,h3,h4,h5,h6⟩:=h
 have:=run_convert_bytes_arg (P:=Tryz.prog) w 91 5 Tryz.underlying91 Tryz.underlying5 g 0 l.length cap (l.map fun c=>(c.toNat:Int)) (by simp) (fun i hi=>by
  rw [Nat.zero_add]
  rw [cell_lit h2 (h6 i hi)]
  simp [hi]) 9 Tryz.underlying9
 have e:strOfNums (l.map fun c=>(c.toNat:Int))=⟨l.toArray⟩:=by
  apply ByteArray.ext
  simp only [strOfNums,List.map_map]
  rw [List.map_congr_left (g:=id) (fun c _=>by simp),List.map_id]
 rwa [e] at this
theorem brow_of_string (s:ByteArray) (w:World) (T:Nat) (hT:T=grownCap w s.size 0 5) :
 BRow w.heap.size (.slice (some ⟨w.heap.size,0,none⟩) s.size T) s.data.toList ((w.alloc (.cells (bytesRow s T) 5 ((bytesRow s T).size,(bytesRow s T).size + 1))).drew):=by
 have hge:s.size <= T:=by rw [hT]; exact grownCap_ge _ _ _ _
 have hsz:(bytesRow s T).size=T:=by unfold bytesRow; simp; omega
 refine ⟨w.heap.size,T,_,_,by rw [Lib.size_eq],Nat.le_refl _,heap_alloc_new _ _,hsz,by rw [<- Lib.size_eq]; exact hge,fun i hi=>?_,fun i hi=>bytesRow_at' s T i hi⟩
 show World.frozen? (w.alloc _) _=false
 simp only [World.frozen?,heap_alloc_new]
 have:¬ (bytesRow s T).size <= i:=by omega
 simp [this]
theorem brow_set {B g i cap n:Nat} {l:List UInt8} {w:World} (h:BRow B (.slice (some ⟨g,0,none⟩) n cap) l w) (hi:i < l.length) (c:UInt8) :
 BRow B (.slice (some ⟨g,0,none⟩) n cap) (l.set i c) (w.setCell ⟨g,i,none⟩ (.int .u8 (c.toNat:Int))):=by
 obtain ⟨g',cap',cs,fr,e,h1,h2,h3,h4,h5,h6⟩:=h
 cases e
 refine ⟨g,cap,_,fr,by simp,h1,heap_set_lit h2 _,by simpa using h3,by simpa using h4,fun j hj=>?_,fun j hj=>?_⟩
 ·have:=h5 j hj
  rw [World.frozen?_setCell]; exact this
 ·have hj':j < l.length:=by simpa using hj
  rw [List.getElem_set]
  by_cases e:i=j
  ·subst e
   rw [if_pos rfl,Array.getElem?_setIfInBounds_self_of_lt (by have:=h6 i hj'; exact (Array.getElem?_eq_some_iff.1 this).1)]
  ·rw [if_neg e,Array.getElem?_setIfInBounds_ne e]
   exact h6 j hj'
theorem brow_at {B g i cap n:Nat} {l:List UInt8} {w:World} (h:BRow B (.slice (some ⟨g,0,none⟩) n cap) l w) (hi:i < l.length):w.cell? ⟨g,i,none⟩=some (.int .u8 (l[i].toNat:Int)) /\ w.frozen? ⟨g,i,none⟩=false:=by
 obtain ⟨g',cap',cs,fr,e,h1,h2,h3,h4,h5,h6⟩:=h
 cases e
 exact ⟨cell_lit h2 (h6 i hi),h5 i (by omega)⟩
theorem turn_c (G:Nat -> Prop) (rb n:Nat) (puts:List (Int × ByteArray)) (S:RS) (p:Nat) (w:World) (h:Rm w G rb n puts) (hr:Rep n puts S) (hl:puts.length <= 4000000) (hp:p < pagesN n) :
 Calls Tryz.prog 93 #[.pointer (some ⟨rb,0,none⟩),.int .i64 p] w fun e w'=>e=.returned (.int .i64 0) /\ Hid (∃ G',Rm w' G' rb n (puts ++ [(((1 + p / 4096:Nat):Int),bitsB (flip S.used p) (p / 4096))]) /\ Turn G G' w w'):=by
 have hbd:=h.bounds
 have hpn:pagesN n <= 65335:=by unfold pagesN; omega
 have hfit:=pages_fit n hbd.1
 have hm:=pages_maps n p hp
 have BT:=Hd (bit_c p w (by omega))
 obtain ⟨tb,lb,FL,F,h1⟩:=h
 have H1:=Hd h1
 have HO:Hid (∀ W,Below w.heap.size w W -> Calls Tryz.prog 105 #[.pointer (some ⟨rb,0,none⟩),.int .i64 (1 + p / 4096:Nat)] W fun e w'=>e=.returned (.tuple #[.string (bitsB S.used (p / 4096)),.int .i64 0]) /\ Below W.heap.size W w') :=
  Hd fun W hW=>by
   have:=home_c G rb n puts ((1 + p / 4096:Nat):Int) W ⟨tb,lb,FL,F,H1.out.below hW⟩ hl
   rwa [hr.bits _ hm] at this
 have TW:Hid (∀ W,Below w.heap.size w W -> Calls Tryz.prog 94 #[.pointer (some ⟨tb,0,none⟩),.int .i64 (1 + p / 4096:Nat),.string (bitsB (flip S.used p) (p / 4096))] W fun e w'=>e=.returned (.int .i64 0) /\ w'.cell? ⟨rb,0,none⟩=some (.pointer (some ⟨tb,0,none⟩)) /\
  Hid (∃ G',Rm w' G' rb n (puts ++ [(((1 + p / 4096:Nat):Int),bitsB (flip S.used p) (p / 4096))]) /\ Turn G G' w w')):=Hd fun W hW=>by
  have hw:=H1.out.below hW
  have:=TWrite_c tb lb n FL F puts ((1 + p / 4096:Nat):Int) (bitsB (flip S.used p) (p / 4096)) W hw.chg hl
  rw [txWrite_ok (by omega) (by omega) (by rw [bitsB_size]; omega),pad_full (bitsB_size _ _)] at this
  refine this.mono ?_
  rintro e w' ⟨rfl,F',hc,ht⟩
  obtain ⟨a,b⟩:=hw.write hc ht
  exact ⟨rfl,a.c.1,_,⟨tb,lb,FL,F',a⟩,⟨((hW.upd' (Nat.le_refl _)).mono (fun _ _ e=>e.elim)).trans b.upd,fun k hk=>(b.sub k hk).imp id (fun e=>Nat.le_trans hW.size e)⟩⟩
 have C0:Hid (∀ W,Below w.heap.size w W -> W.cell? ⟨rb,0,none⟩=some (.pointer (some ⟨tb,0,none⟩))):=Hd fun W hW=>(H1.out.below hW).c.1
 have hrb:=lt_of_heap h1.cells
 have hz:(bitsB S.used (p / 4096)).data.toList=bitsL S.used (p / 4096):=rfl
 have hzs:=bitsB_size S.used (p / 4096)
 have HG:=Hd (bitsB_get S.used (p / 4096) (p % 4096 / 8) (by omega))
 have hflip:=bitsL_flip S.used (p / 4096) p rfl
 have hx:=byteU_lt S.used (p / 4096 * 4096 + 8 * (p % 4096 / 8))
 have hq:(2:Nat) ^ (p % 8) < 256:=by rcases eight (show p % 8 < 8 by omega) with e | e | e | e | e | e | e | e <;> rw [e] <;> decide
 have hxq:byteU S.used (p / 4096 * 4096 + 8 * (p % 4096 / 8)) ^^^ 2 ^ (p % 8) < 256:=Nat.xor_lt_two_pow (n:=8) hx hq
 have hb:=u8_xor_nat _ _ hx hq
 have hpl:p % 4096 / 8 < 512:=by omega
 have HFL:=Hd (show bitsB (flip S.used p) (p / 4096)=⟨((bitsL S.used (p / 4096)).set (p % 4096 / 8) (UInt8.ofNat (byteU S.used (p / 4096 * 4096 + 8 * (p % 4096 / 8)) ^^^ 2 ^ (p % 8)))).toArray⟩ by rw [<- hflip]; rfl)
 clear h1 hr hflip hfit hm
 generalize bitsB (flip S.used p) (p / 4096)=z2 at *
 generalize bitsL S.used (p / 4096)=l at *
 generalize bitsB S.used (p / 4096)=z at *
 generalize byteU S.used (p / 4096 * 4096 + 8 * (p % 4096 / 8))=x at *
 generalize ((1 + p / 4096:Nat):Int)=hh at *
 generalize p % 4096 / 8=pl at *
 generalize (2:Nat) ^ (p % 8)=q at *
 go_enter Tryz.func93,Tryz.ntmps93
 go_wp2_with fail
 refine (BT.out).mono ?_
 rintro e w1 ⟨rfl,hb1⟩
 have HB1:=Hd hb1
 clear hb1
 go_wp2_with fail
 refine (HO.out _ HB1.out).mono ?_
 rintro e w2 ⟨rfl,hb2⟩
 have HB2:=Hd ((HB1.out).trans (hb2.mono (HB1.out).size))
 clear hb2
 have hcv:=run_bytes_of_string w2 9 91 5 z Tryz.underlying9 Tryz.underlying91 Tryz.underlying5
 obtain ⟨T,hT⟩:∃ T,T=grownCap w2 z.size 0 5:=⟨_,rfl⟩
 have hbr:=brow_of_string z w2 T hT
 rw [<- hT] at hcv
 rw [hz] at hbr
 rw [hzs] at hcv hbr
 clear hT
 have hll:l.length=512:=by rw [<- hz,<- Lib.size_eq,hzs]
 obtain ⟨c,hc⟩:=exE (UInt8.ofNat (x ^^^ q))
 have hcx:((x ^^^ q:Nat):Int)=(c.toNat:Int):=by rw [<- hc,UInt8.toNat_ofNat',Nat.mod_eq_of_lt hxq]
 rw [hcx] at hb
 have hx0:l[pl]?=some (UInt8.ofNat x):=by
  have:=HG.out
  rw [getElem?_pos _ pl (by rw [hzs]; exact hpl)] at this
  have e:z[pl]'(by rw [hzs]; exact hpl)=z.data.toList[pl]'(by rw [<- Lib.size_eq,hzs]; exact hpl):=rfl
  rw [e] at this
  rw [<- hz,List.getElem?_eq_getElem (by rw [<- Lib.size_eq,hzs]; exact hpl)]
  exact this
 have hbs:=brow_set hbr (i:=pl) (by omega) c
 obtain ⟨W,hW⟩:=exE ((w2.alloc (.cells (bytesRow z T) 5 ((bytesRow z T).size,(bytesRow z T).size + 1))).setCell ⟨w2.heap.size,pl,none⟩ (.int .u8 (c.toNat:Int)))
 have hbs2:BRow w2.heap.size (.slice (some ⟨w2.heap.size,0,none⟩) 512 T) (l.set pl c) W.drew.drew:=by rw [<- hW]; exact hbs
 have HST:=Hd (brow_string hbs2)
 have HW:=Hd hW
 have hwb:Below w2.heap.size w2 ((w2.alloc (.cells (bytesRow z T) 5 ((bytesRow z T).size,(bytesRow z T).size + 1))).drew):=((Below.refl w2.heap.size w2).alloc (Nat.le_refl _) _).drew
 have HWS:Hid (Below w2.heap.size w2 W.drew.drew):=Hd (by rw [<- hW]; exact ((hwb.setCell (p:=⟨w2.heap.size,pl,none⟩) (Nat.le_refl _) (.int .u8 (c.toNat:Int))).drew))
 obtain ⟨c1,f1⟩:=brow_at hbr (i:=pl) (by omega)
 have hlx:l[pl]'(by omega)=UInt8.ofNat x:=by rw [List.getElem?_eq_getElem (by omega)] at hx0; exact Option.some.inj hx0
 rw [hlx,UInt8.toNat_ofNat',Nat.mod_eq_of_lt hx] at c1
 have HFL2:=Hd (show z2=⟨(l.set pl c).toArray⟩ by rw [HFL.out,hc])
 have C3:=Hd (C0.out _ ((HB2.out).trans (HWS.out.mono (HB2.out).size)))
 have TW2:=Hd (TW.out _ ((HB2.out).trans (HWS.out.mono (HB2.out).size)))
 clear hbr hbs hbs2 hW hwb hx0 hc hcx hz hx hq hxq HG HFL hlx C0 TW HO BT
 go_wp2_with fail
 rw [HW.out]
 have c3:W.cell? ⟨rb,0,none⟩=some (.pointer (some ⟨tb,0,none⟩)):=C3.out
 have hst:=HST.out
 rw [<- HFL2.out] at hst
 go_region_held (fun w'=>w'.cell? ⟨rb,0,none⟩=some (.pointer (some ⟨tb,0,none⟩))) (go_keep) ((go_at_call 94; refine Calls.at_args TW2.out (by with_reducible rfl) ?_; rintro e w3 ⟨rfl,c4,hgo⟩; have HGO:=Hd hgo.out; clear hgo))
 all_goals go_wp2_with fail
 all_goals go_ret
 all_goals exact ⟨rfl,HGO⟩
theorem rep_off {n:Nat} {puts:List (Int × ByteArray)} {S:RS} {p:Nat} (hr:Rep n puts S) (hu:S.used p=true):Rep n (puts ++ [(((1 + p / 4096:Nat):Int),bitsB (flip S.used p) (p / 4096))]) ⟨S.root,flip S.used p,S.cont,S.base⟩:=by
 have hp:=hr.lim p hu
 have hm:=pages_maps n p hp
 have hq:∀ q,flip S.used p q=true -> S.used q=true:=by
  intro q h
  unfold flip at h
  split at h
  ·rename_i e; subst e; exact hu
  ·exact h
 refine ⟨?_,hr.rb,fun m hm'=>?_,fun q h=>hr.lim q (hq q h),fun q h=>?_,hr.base.trans (List.prefix_append _ _)⟩
 ·rw [txRead_put,if_neg (by omega)]; exact hr.r0
 ·rw [txRead_put]
  by_cases e:p / 4096=m
  ·rw [if_pos (by omega),e]
  ·rw [if_neg (by omega),bitsB_flip_other _ _ _ e]; exact hr.bits m hm'
 ·have:=hr.page q (hq q h)
  rw [txRead_put,if_neg (by have:=hr.lim q (hq q h); omega)]
  exact this
theorem Free_c (G:Nat -> Prop) (rb n:Nat) (puts:List (Int × ByteArray)) (S:RS) (p:Nat) (w:World) (h:Rm w G rb n puts) (hr:Rep n puts S) (hl:puts.length <= 4000000) (hu:S.used p=true) :
 Calls Tryz.prog 132 #[.pointer (some ⟨rb,0,none⟩),.int .i64 p] w fun e w'=>e=.returned (.int .i64 0) /\ Hid (RoomGo w w' G rb n puts ⟨S.root,flip S.used p,S.cont,S.base⟩ 1):=by
 have TK:=taken_c G rb n puts S p w h hr hl hu
 have TN:Hid (∀ W,Below w.heap.size w W -> Calls Tryz.prog 93 #[.pointer (some ⟨rb,0,none⟩),.int .i64 p] W fun e w'=>e=.returned (.int .i64 0) /\ Hid (RoomGo w w' G rb n puts ⟨S.root,flip S.used p,S.cont,S.base⟩ 1)):=Hd fun W hW=>by
  refine (turn_c G rb n puts S p W (h.below hW) hr hl (hr.lim p hu)).mono ?_
  rintro e w' ⟨rfl,G',a,b⟩
  exact ⟨rfl,G',_,by simp,a,rep_off hr hu,⟨((hW.upd' (Nat.le_refl _)).mono (fun _ _ e=>e.elim)).trans b.upd,fun k hk=>(b.sub k hk).imp id (fun e=>Nat.le_trans hW.size e)⟩⟩
 clear h hr hu
 go_enter Tryz.func132,Tryz.ntmps132
 go_wp2_with fail
 refine TK.mono ?_
 rintro e w1 ⟨rfl,hb⟩
 have HB:=Hd hb
 clear hb
 go_wp2_with fail
 refine (TN.out _ HB.out).mono ?_
 rintro e w2 ⟨rfl,hgo⟩
 go_wp2_with fail
 go_ret
 exact ⟨rfl,hgo⟩
theorem xor_u8max {x:Nat} (h:x < 256):bits .xor .u8 IntKind.u8.max (x:Int)=((255 ^^^ x:Nat):Int):=by
 rw [show IntKind.u8.max=((255:Nat):Int) from rfl,u8_xor_nat 255 x (by decide) h]
def FreeIs (u:Nat -> Bool) (pages:Nat) (r:Int):Prop:=(∃ p:Nat,r=p /\ p < pages /\ u p=false /\ ∀ q,q < p -> u q=true) \/ (r=-1 /\ ∀ q,q < pages -> u q=true)
theorem free_c (G:Nat -> Prop) (rb n:Nat) (puts:List (Int × ByteArray)) (S:RS) (w:World) (h:Rm w G rb n puts) (hr:Rep n puts S) (hl:puts.length <= 4000000) :
 Calls Tryz.prog 92 #[.pointer (some ⟨rb,0,none⟩)] w fun e w'=>∃ r,e=.returned (.tuple #[.int .i64 r,.int .i64 0]) /\ Hid (FreeIs S.used (pagesN n) r /\ Below w.heap.size w w'):=by
 have hbd:=h.bounds
 have hpn:pagesN n <= 65335:=by unfold pagesN; omega
 have hmn:mapsN n <= 16:=by unfold mapsN; omega
 have hpm:pagesN n <= mapsN n * 4096:=by unfold mapsN; omega
 have HO:Hid (∀ (m:Nat) (W:World),m < mapsN n -> Below w.heap.size w W -> Calls Tryz.prog 105 #[.pointer (some ⟨rb,0,none⟩),.int .i64 (1 + (m:Int))] W fun e w'=>e=.returned (.tuple #[.string (bitsB S.used m),.int .i64 0]) /\ Below W.heap.size W w') :=
  Hd fun m W hm hW=>by
   have:=home_c G rb n puts ((1 + m:Nat):Int) W (h.below hW) hl
   rw [hr.bits _ hm] at this
   rwa [show ((1 + m:Nat):Int)=1 + (m:Int) by omega] at this
 have hlim:=hr.lim
 obtain ⟨tb,lb,FL,F,h1⟩:=h
 have C1:Hid (∀ W,Below w.heap.size w W -> W.cell? ⟨rb,2,none⟩=some (.int .i64 (pagesN n:Int))):=Hd fun W hW=>(h1.below hW).c.2.2
 have c1:=h1.c.2.1
 clear h1 hr
 generalize S.used=u at *
 have HLIM:=Hd hlim
 clear hlim
 generalize pagesN n=pages at *
 generalize mapsN n=maps at *
 go_enter Tryz.func92,Tryz.ntmps92
 go_wp2_with fail
 go_loopg [13] maps (fun g s13 wr=>∃ m:Nat,g=maps - m /\ m <= maps /\ s13=.int .i64 m /\ Hid (∀ q,q < m * 4096 -> u q=true) /\ Below w.heap.size w wr)
 case atStart=>exact ⟨0,rfl,Nat.zero_le _,rfl,Hd (fun q hq=>by omega),Below.refl _ _⟩
 case round =>
  obtain ⟨m,rfl,hm,rfl,hall,hb⟩:=hrel
  have HB:=Hd hb
  clear hb
  by_cases hlt:m < maps
  ·have HO2:=Hd (HO.out m wr hlt HB.out)
   go_wp2_with fail
   refine (HO2.out).mono ?_
   rintro e w2 ⟨rfl,hb2⟩
   have HB2:=Hd ((HB.out).trans (hb2.mono (HB.out).size))
   have c2:=C1.out _ HB2.out
   have hsz:=bitsB_size u m
   have HI:=Hd (fun i (hi:i < 512) w=>run_idx_str (P:=Tryz.prog) 9 _ _ _ Tryz.underlying9 (bitsB_get u m i hi) w)
   clear hb2 HO2
   generalize bitsB u m=z at *
   go_wp2_with fail
   go_loopg [28] 512 (fun g s28 wr=>∃ i:Nat,g=512 - i /\ i <= 512 /\ s28=.int .i64 i /\ Hid (∀ q,q < m * 4096 + 8 * i -> u q=true) /\ w2=wr)
   case atStart=>exact ⟨0,rfl,Nat.zero_le _,rfl,Hd (fun q hq=>hall.out q (by omega)),rfl⟩
   case round =>
    obtain ⟨i,rfl,hi,rfl,hall2,rfl⟩:=hrel
    by_cases hlt2:i < 512
    ·have hx:=byteU_lt u (m * 4096 + 8 * i)
     have i1:∀ w,(Instr.index 9 (.string z) (.int .i64 (i:Int))).run Tryz.prog w=.ok (.int .u8 ((byteU u (m * 4096 + 8 * i):Nat):Int)) w:=by
      intro w
      have:=HI.out i hlt2 w
      rwa [UInt8.toNat_ofNat',Nat.mod_eq_of_lt hx] at this
     by_cases hf:byteU u (m * 4096 + 8 * i)=255
     ·have HN:Hid (∀ q,q < m * 4096 + 8 * (i + 1) -> u q=true):=Hd fun q hq=>by
       by_cases h1:q < m * 4096 + 8 * i
       ·exact hall2.out q h1
       ·have:=byteU_full u _ hf (q - (m * 4096 + 8 * i)) (by omega)
        rwa [show m * 4096 + 8 * i + (q - (m * 4096 + 8 * i))=q by omega] at this
      rw [hf] at i1
      clear hf hx
      go_wp2_with fail
      go_roundg (512 - (i + 1))
      case measure=>omega
      case rel=>exact ⟨i + 1,rfl,by omega,by simp,HN,rfl⟩
     ·obtain ⟨t,ht,h1,h2,h3⟩:=byteU_free u _ hf
      have hne:(((byteU u (m * 4096 + 8 * i):Nat):Int) == 255)=false:=by simp; omega
      have hxo:=xor_u8max hx
      have hxl:255 ^^^ byteU u (m * 4096 + 8 * i) < 256:=Nat.xor_lt_two_pow (n:=8) (by decide) hx
      have TZ:=Hd (fun w=>Tryz.bits_TrailingZeros8 ((255 ^^^ byteU u (m * 4096 + 8 * i):Nat):Int) w (by omega) (by omega))
      rw [Int.toNat_natCast,h1] at TZ
      have HFR:Hid (∀ r:Int,((m * 4096 + 8 * i + t < pages) -> r=((m * 4096 + 8 * i + t:Nat):Int) -> FreeIs u pages r) /\ (¬ (m * 4096 + 8 * i + t < pages) -> r=-1 -> FreeIs u pages r)):=Hd fun r =>
       ⟨fun a b=>.inl ⟨_,b,a,h2,fun q hq=>by
        by_cases h1:q < m * 4096 + 8 * i
        ·exact hall2.out q h1
        ·have:=h3 (q - (m * 4096 + 8 * i)) (by omega)
         rwa [show m * 4096 + 8 * i + (q - (m * 4096 + 8 * i))=q by omega] at this⟩,
        fun a b=>.inr ⟨b,fun q hq=>by
         by_cases h1:q < m * 4096 + 8 * i
         ·exact hall2.out q h1
         ·have:=h3 (q - (m * 4096 + 8 * i)) (by omega)
          rwa [show m * 4096 + 8 * i + (q - (m * 4096 + 8 * i))=q by omega] at this⟩⟩
      clear h1 h2 h3 hf hx hxl
      generalize byteU u (m * 4096 + 8 * i)=x at *
      generalize 255 ^^^ x=y at *
      by_cases hpg:m * 4096 + 8 * i + t < pages
      ·go_wp2_with fail
       refine (TZ.out _).mono ?_
       rintro e w3 ⟨rfl,rfl⟩
       go_wp2_with fail
       go_ret2
       exact ⟨_,rfl,(HFR.out _).1 hpg (by simp),HB2.out⟩
      ·go_wp2_with fail
       refine (TZ.out _).mono ?_
       rintro e w3 ⟨rfl,rfl⟩
       go_wp2_with fail
       go_ret2
       exact ⟨_,rfl,(HFR.out _).2 hpg rfl,HB2.out⟩
    ·obtain rfl:i=512:=by omega
     have HN:Hid (∀ q,q < (m + 1) * 4096 -> u q=true):=Hd fun q hq=>hall2.out q (by omega)
     go_wp2_with fail
     go_roundg (maps - (m + 1))
     case measure=>omega
     case rel=>exact ⟨m + 1,rfl,by omega,by simp,HN,HB2.out⟩
  ·obtain rfl:m=maps:=by omega
   clear hlt hm
   go_wp2_with fail
   go_ret2
   exact ⟨_,rfl,.inr ⟨rfl,fun q hq=>hall.out q (by omega)⟩,HB.out⟩
theorem Turn.below_left {G G':Nat -> Prop} {w W w':World} (hW:Below w.heap.size w W) (b:Turn G G' W w'):Turn G G' w w' :=
 ⟨((hW.upd' (Nat.le_refl _)).mono (fun _ _ e=>e.elim)).trans b.upd,fun k hk=>(b.sub k hk).imp id (fun e=>Nat.le_trans hW.size e)⟩
def allocS (S:RS) (p:Nat):RS:=⟨S.root,flip S.used p,fun q=>if q=p then pad0 else S.cont q,S.base⟩
theorem rep_alloc {n:Nat} {puts:List (Int × ByteArray)} {S:RS} {p:Nat} (hr:Rep n puts S) (hp:p < pagesN n) (hu:S.used p=false) :
 Rep n ((puts ++ [(((1 + p / 4096:Nat):Int),bitsB (flip S.used p) (p / 4096))]) ++ [(((1 + mapsN n + p:Nat):Int),pad0)]) (allocS S p):=by
 have hm:=pages_maps n p hp
 have hq:∀ q,flip S.used p q=true -> q=p \/ S.used q=true:=by
  intro q h
  unfold flip at h
  split at h
  ·rename_i e; exact .inl e
  ·exact .inr h
 refine ⟨?_,hr.rb,fun m hm'=>?_,fun q h=>?_,fun q h=>?_,(hr.base.trans (List.prefix_append _ _)).trans (List.prefix_append _ _)⟩
 ·rw [txRead_put,if_neg (by omega),txRead_put,if_neg (by omega)]; exact hr.r0
 ·rw [txRead_put,if_neg (by omega),txRead_put]
  by_cases e:p / 4096=m
  ·rw [if_pos (by omega),e]; rfl
  ·rw [if_neg (by omega),show (allocS S p).used=flip S.used p from rfl,bitsB_flip_other _ _ _ e]; exact hr.bits m hm'
 ·rcases hq q h with rfl | e
  ·exact hp
  ·exact hr.lim q e
 ·rw [txRead_put]
  by_cases e:q=p
  ·subst e
   rw [if_pos rfl]
   simp only [allocS,if_true]
   exact ⟨trivial,pad0_size⟩
  ·have hu2:=(hq q h).resolve_left e
   have:=hr.lim q hu2
   rw [if_neg (by omega),txRead_put,if_neg (by omega)]
   simp only [allocS,if_neg e]
   exact hr.page q hu2
theorem Alloc_c (G:Nat -> Prop) (rb n:Nat) (puts:List (Int × ByteArray)) (S:RS) (w:World) (h:Rm w G rb n puts) (hr:Rep n puts S) (hl:puts.length <= 3999990) (hfree:∃ q,q < pagesN n /\ S.used q=false) :
 Calls Tryz.prog 44 #[.pointer (some ⟨rb,0,none⟩)] w fun e w'=>∃ p:Nat,e=.returned (.tuple #[.int .i64 p,.int .i64 0]) /\ Hid (p < pagesN n /\ S.used p=false /\ RoomGo w w' G rb n puts (allocS S p) 2):=by
 have hbd:=h.bounds
 have hpn:pagesN n <= 65335:=by unfold pagesN; omega
 have hfit:=pages_fit n hbd.1
 have DD:=dead_c G rb n puts w h (by omega)
 have FR:Hid (∀ W,Below w.heap.size w W -> Calls Tryz.prog 92 #[.pointer (some ⟨rb,0,none⟩)] W fun e w'=>∃ p:Nat,e=.returned (.tuple #[.int .i64 p,.int .i64 0]) /\ Hid (p < pagesN n /\ S.used p=false /\ Below w.heap.size w w')):=Hd fun W hW=>by
  refine (free_c G rb n puts S W (h.below hW) hr (by omega)).mono ?_
  rintro e w' ⟨r,rfl,hf,hb⟩
  rcases hf with ⟨p,rfl,a,b,-⟩ | ⟨-,b⟩
  ·exact ⟨p,rfl,a,b,hW.trans (hb.mono hW.size)⟩
  ·obtain ⟨q,q1,q2⟩:=hfree
   rw [b q q1] at q2; cases q2
 have TN:Hid (∀ (p:Nat) W,p < pagesN n -> Below w.heap.size w W -> Calls Tryz.prog 93 #[.pointer (some ⟨rb,0,none⟩),.int .i64 p] W fun e w'=>e=.returned (.int .i64 0) /\ Hid (∃ G',Rm w' G' rb n (puts ++ [(((1 + p / 4096:Nat):Int),bitsB (flip S.used p) (p / 4096))]) /\ Turn G G' w w')):=Hd fun p W hp hW=>by
  refine (turn_c G rb n puts S p W (h.below hW) hr (by omega) hp).mono ?_
  rintro e w' ⟨rfl,G',a,b⟩
  exact ⟨rfl,G',a,b.below_left hW⟩
 have HR:=Hd hr
 clear h hr hfree
 go_enter Tryz.func44,Tryz.ntmps44
 go_wp2_with fail
 refine DD.mono ?_
 rintro e w1 ⟨rfl,hb⟩
 have HB:=Hd hb
 clear hb
 go_wp2_with fail
 refine (FR.out _ HB.out).mono ?_
 rintro e w2 ⟨p,rfl,hp⟩
 have HP:=Hd hp.out
 have hp0:¬ (p:Int) < 0:=by omega
 have TN2:=Hd (TN.out p w2 HP.out.1 HP.out.2.2)
 clear hp TN FR DD
 go_wp2_with fail
 refine (TN2.out).mono ?_
 rintro e w3 ⟨rfl,hgo⟩
 obtain ⟨G',hrm,htn⟩:=hgo.out
 have hpl:=HP.out.1
 have AT:=Hd (at_c G' rb n _ p w3.drew (hrm.below (Below.refl _ _).drew) (by omega))
 obtain ⟨tb,lb,FL,F,h1⟩:=hrm
 have c0:=h1.c.1
 have TW:Hid (Calls Tryz.prog 94 #[.pointer (some ⟨tb,0,none⟩),.int .i64 (1 + mapsN n + p:Nat),.string ⟨#[]⟩] w3.drew fun e w'=>e=.returned (.int .i64 0) /\ w'.cell? ⟨rb,0,none⟩=some (.pointer (some ⟨tb,0,none⟩)) /\ Hid (RoomGo w w' G rb n puts (allocS S p) 2)):=Hd (by
  have hw:=h1.below (Below.refl w3.heap.size w3).drew
  have:=TWrite_c tb lb n FL F _ ((1 + mapsN n + p:Nat):Int) ⟨#[]⟩ w3.drew hw.chg (by simp; omega)
  rw [txWrite_ok (by omega) (by omega) (by decide)] at this
  refine this.mono ?_
  rintro e w' ⟨rfl,F',hc,ht⟩
  obtain ⟨a,b⟩:=hw.write hc ht
  exact ⟨rfl,a.c.1,_,_,by simp,⟨tb,lb,FL,F',a⟩,rep_alloc HR.out HP.out.1 HP.out.2.1,htn.trans (b.below_left ((Below.refl w3.heap.size w3).drew))⟩)
 clear hgo htn h1 TN2 HR
 generalize ((1 + mapsN n + p:Nat):Int)=q at *
 go_wp2_with fail
 go_region_held3 (fun w'=>w'.cell? ⟨rb,0,none⟩=some (.pointer (some ⟨tb,0,none⟩))) (go_keep) ((first
  | (go_at_call 95; refine Calls.at_args AT.out (by with_reducible rfl) ?_; rintro e w4 ⟨rfl,rfl⟩)
  | (go_at_call 94; refine Calls.at_args TW.out (by with_reducible rfl) ?_; rintro e w5 ⟨rfl,c3,hgo⟩; have HGO:=Hd hgo.out; clear hgo)))
 go_wp2_with fail
 go_ret2
 exact ⟨p,rfl,HP.out.1,HP.out.2.1,HGO.out⟩
theorem cnt_all (u:Nat -> Bool) (pages:Nat) (h:∀ p,u p=true -> p < pages) (k:Nat) (hk:pages <= k):cnt u k=cnt u pages:=by
 induction k with
 | zero=>rw [show pages=0 by omega]
 | succ k ih =>
   by_cases e:pages=k + 1
   ·rw [e]
   ·have hk':pages <= k:=by omega
    show cnt u k + (u k).toNat=_
    rw [ih hk']
    have:u k=false:=by
     cases hu:u k
     ·rfl
     ·have:=h k hu; omega
    rw [this]; rfl
theorem cnt_le (u:Nat -> Bool) (k:Nat):cnt u k <= k:=by
 induction k with
 | zero=>exact Nat.le_refl _
 | succ k ih =>
   show cnt u k + (u k).toNat <= k + 1
   cases u k <;> simp <;> omega
theorem Used_c (G:Nat -> Prop) (rb n:Nat) (puts:List (Int × ByteArray)) (S:RS) (w:World) (h:Rm w G rb n puts) (hr:Rep n puts S) (hl:puts.length <= 4000000) :
 Calls Tryz.prog 53 #[.pointer (some ⟨rb,0,none⟩)] w fun e w'=>e=.returned (.tuple #[.int .i64 (cnt S.used (pagesN n)),.int .i64 0]) /\ Below w.heap.size w w':=by
 have hbd:=h.bounds
 have hmn:mapsN n <= 16:=by unfold mapsN pagesN; omega
 have hpm:pagesN n <= mapsN n * 4096:=by unfold mapsN; omega
 have DD:=dead_c G rb n puts w h hl
 have HO:Hid (∀ (m:Nat) (W:World),m < mapsN n -> Below w.heap.size w W -> Calls Tryz.prog 105 #[.pointer (some ⟨rb,0,none⟩),.int .i64 (1 + (m:Int))] W fun e w'=>e=.returned (.tuple #[.string (bitsB S.used m),.int .i64 0]) /\ Below W.heap.size W w') :=
  Hd fun m W hm hW=>by
   have:=home_c G rb n puts ((1 + m:Nat):Int) W (h.below hW) hl
   rw [hr.bits _ hm] at this
   rwa [show ((1 + m:Nat):Int)=1 + (m:Int) by omega] at this
 have HE:=Hd (cnt_all S.used (pagesN n) hr.lim (mapsN n * 4096) hpm)
 obtain ⟨tb,lb,FL,F,h1⟩:=h
 have C1:Hid (∀ W,Below w.heap.size w W -> W.cell? ⟨rb,1,none⟩=some (.int .i64 (mapsN n:Int))):=Hd fun W hW=>(h1.below hW).c.2.1
 clear h1 hr hpm
 generalize S.used=u at *
 generalize pagesN n=pages at *
 generalize mapsN n=maps at *
 go_enter Tryz.func53,Tryz.ntmps53
 go_wp2_with fail
 refine DD.mono ?_
 rintro e w1 ⟨rfl,hb⟩
 have HB:=Hd hb
 have c1:=C1.out _ hb
 clear hb
 go_wp2_with fail
 go_loopg [4,15] maps (fun g s4 s15 wr=>∃ m:Nat,g=maps - m /\ m <= maps /\ s15=.int .i64 m /\ s4=.int .i64 (cnt u (m * 4096)) /\ Below w.heap.size w wr)
 case atStart=>exact ⟨0,rfl,Nat.zero_le _,rfl,rfl,HB.out⟩
 case round =>
  obtain ⟨m,rfl,hm,rfl,rfl,hb⟩:=hrel
  have HB1:=Hd hb
  clear hb
  by_cases hlt:m < maps
  ·have HO2:=Hd (HO.out m wr hlt HB1.out)
   go_wp2_with fail
   refine (HO2.out).mono ?_
   rintro e w2 ⟨rfl,hb2⟩
   have HB2:=Hd ((HB1.out).trans (hb2.mono (HB1.out).size))
   have hsz:=bitsB_size u m
   have HI:=Hd (fun i (hi:i < 512) w=>run_idx_str (P:=Tryz.prog) 9 _ _ _ Tryz.underlying9 (bitsB_get u m i hi) w)
   clear hb2 HO2
   generalize bitsB u m=z at *
   go_wp2_with fail
   go_loopg [4,30] 512 (fun g s4 s30 wr=>∃ i:Nat,g=512 - i /\ i <= 512 /\ s30=.int .i64 i /\ s4=.int .i64 (cnt u (m * 4096 + 8 * i)) /\ w2=wr)
   case atStart=>exact ⟨0,rfl,Nat.zero_le _,rfl,rfl,rfl⟩
   case round =>
    obtain ⟨i,rfl,hi,rfl,rfl,rfl⟩:=hrel
    by_cases hlt2:i < 512
    ·have hx:=byteU_lt u (m * 4096 + 8 * i)
     have i1:∀ w,(Instr.index 9 (.string z) (.int .i64 (i:Int))).run Tryz.prog w=.ok (.int .u8 ((byteU u (m * 4096 + 8 * i):Nat):Int)) w:=by
      intro w
      have:=HI.out i hlt2 w
      rwa [UInt8.toNat_ofNat',Nat.mod_eq_of_lt hx] at this
     have OC:=Hd (fun w=>Tryz.bits_OnesCount8 ((byteU u (m * 4096 + 8 * i):Nat):Int) w (by omega) (by omega))
     rw [Int.toNat_natCast] at OC
     have HC:=Hd (cnt_byte u (m * 4096 + 8 * i))
     have hcl:=cnt_le u (m * 4096 + 8 * i)
     have hol:Lib.onesCount (byteU u (m * 4096 + 8 * i)) <= 8:=by have:=Lib.onesCount_le8 ⟨byteU u (m * 4096 + 8 * i),hx⟩; exact this
     generalize cnt u (m * 4096 + 8 * i)=cc at *
     generalize Lib.onesCount (byteU u (m * 4096 + 8 * i))=oo at *
     generalize byteU u (m * 4096 + 8 * i)=x at *
     go_wp2_with fail
     refine (OC.out _).mono ?_
     rintro e w3 ⟨rfl,rfl⟩
     go_wp2_with fail
     go_roundg (512 - (i + 1))
     case measure=>omega
     case rel=>exact ⟨i + 1,rfl,by omega,by simp,by rw [show m * 4096 + 8 * (i + 1)=m * 4096 + 8 * i + 8 by omega,HC.out]; simp,rfl⟩
    ·obtain rfl:i=512:=by omega
     go_wp2_with fail
     go_roundg (maps - (m + 1))
     case measure=>omega
     case rel=>exact ⟨m + 1,rfl,by omega,by simp,by rw [show (m + 1) * 4096=m * 4096 + 8 * 512 by omega],HB2.out⟩
  ·obtain rfl:m=maps:=by omega
   rw [HE.out]
   clear hlt hm
   go_wp2_with fail
   go_ret2
   exact ⟨rfl,HB1.out⟩
end Go.Proofs.YtdcjhpafipbpkaaGreatDoor
namespace Go.Proofs
open Go.Shelf
def Tryz.lays167_ren:Go.Shelf.Ren:=⟨fun | 167=>90 | 240=>140 | 276=>188 | n=>n,fun | 0=>0 | 3=>3 | 4=>4 | 5=>5 | 9=>9 | 20=>20 | 37=>91 | 70=>154 | 72=>156 | 75=>159 | 80=>163 | 164=>271 | n=>n,fun | n=>n⟩
theorem Tryz.lays167:Go.Proofs.Lays.n167 Tryz.prog Tryz.lays167_ren:={
 mixed:=by kernel_rfl
 f167:=Tryz.func90.trans (congrArg some (by kernel_rfl))
 f240:=Tryz.func140.trans (congrArg some (by kernel_rfl))
 f276:=Tryz.func188.trans (congrArg some (by kernel_rfl))
 t0:=Tryz.underlying0
 a0:=Tryz.isAgg0
 z0:=Tryz.sizeOf0
 v0:=Tryz.zeroValue0
 t4:=Tryz.underlying4
 a4:=Tryz.isAgg4
 z4:=Tryz.sizeOf4
 v4:=Tryz.zeroValue4
 t5:=Tryz.underlying5
 a5:=Tryz.isAgg5
 z5:=Tryz.sizeOf5
 v5:=Tryz.zeroValue5
 t9:=Tryz.underlying9
 a9:=Tryz.isAgg9
 z9:=Tryz.sizeOf9
 v9:=Tryz.zeroValue9
 t20:=Tryz.underlying20
 a20:=Tryz.isAgg20
 z20:=Tryz.sizeOf20
 v20:=Tryz.zeroValue20
 t37:=Tryz.underlying91
 a37:=Tryz.isAgg91
 z37:=Tryz.sizeOf91
 v37:=Tryz.zeroValue91
 t70:=Tryz.underlying154
 a70:=Tryz.isAgg154
 z70:=Tryz.sizeOf154
 v70:=Tryz.zeroValue154
 t72:=Tryz.underlying156
 a72:=Tryz.isAgg156
 z72:=Tryz.sizeOf156
 v72:=Tryz.zeroValue156
 t75:=Tryz.underlying159
 a75:=Tryz.isAgg159
 z75:=Tryz.sizeOf159
 v75:=Tryz.zeroValue159
 t164:=Tryz.underlying271
 a164:=Tryz.isAgg271
 z164:=Tryz.sizeOf271
 v164:=Tryz.zeroValue271
}
def Tryz.lays166_ren:Go.Shelf.Ren:=⟨fun | 166=>82 | 240=>140 | 276=>188 | n=>n,fun | 0=>0 | 3=>3 | 4=>4 | 5=>5 | 9=>9 | 20=>20 | 37=>91 | 70=>154 | 72=>156 | 75=>159 | 80=>163 | 164=>271 | n=>n,fun | n=>n⟩
theorem Tryz.lays166:Go.Proofs.Lays.n166 Tryz.prog Tryz.lays166_ren:={
 mixed:=by kernel_rfl
 f166:=Tryz.func82.trans (congrArg some (by kernel_rfl))
 f240:=Tryz.func140.trans (congrArg some (by kernel_rfl))
 f276:=Tryz.func188.trans (congrArg some (by kernel_rfl))
 t0:=Tryz.underlying0
 a0:=Tryz.isAgg0
 z0:=Tryz.sizeOf0
 v0:=Tryz.zeroValue0
 t3:=Tryz.underlying3
 a3:=Tryz.isAgg3
 z3:=Tryz.sizeOf3
 v3:=Tryz.zeroValue3
 t4:=Tryz.underlying4
 a4:=Tryz.isAgg4
 z4:=Tryz.sizeOf4
 v4:=Tryz.zeroValue4
 t9:=Tryz.underlying9
 a9:=Tryz.isAgg9
 z9:=Tryz.sizeOf9
 v9:=Tryz.zeroValue9
 t20:=Tryz.underlying20
 a20:=Tryz.isAgg20
 z20:=Tryz.sizeOf20
 v20:=Tryz.zeroValue20
 t37:=Tryz.underlying91
 a37:=Tryz.isAgg91
 z37:=Tryz.sizeOf91
 v37:=Tryz.zeroValue91
 t70:=Tryz.underlying154
 a70:=Tryz.isAgg154
 z70:=Tryz.sizeOf154
 v70:=Tryz.zeroValue154
 t72:=Tryz.underlying156
 a72:=Tryz.isAgg156
 z72:=Tryz.sizeOf156
 v72:=Tryz.zeroValue156
 t75:=Tryz.underlying159
 a75:=Tryz.isAgg159
 z75:=Tryz.sizeOf159
 v75:=Tryz.zeroValue159
 t164:=Tryz.underlying271
 a164:=Tryz.isAgg271
 z164:=Tryz.sizeOf271
 v164:=Tryz.zeroValue271
}
theorem Tryz.Builder_Extra_167:Builder.Extra Tryz.prog Tryz.lays167_ren where
 sizeBuilder:=by kernel_rfl
 liesBuilder:=by kernel_rfl
 t5:=Tryz.underlying5
 a5:=Tryz.isAgg5
 z5:=Tryz.sizeOf5
 v5:=Tryz.zeroValue5
 infoByte:=by kernel_rfl
 cellsByte:=by kernel_rfl
 sizeByte:=by kernel_rfl
 neB5:=by decide
theorem Tryz.Builder_Extra_166:Builder.Extra Tryz.prog Tryz.lays166_ren where
 sizeBuilder:=by kernel_rfl
 liesBuilder:=by kernel_rfl
 t5:=Tryz.underlying5
 a5:=Tryz.isAgg5
 z5:=Tryz.sizeOf5
 v5:=Tryz.zeroValue5
 infoByte:=by kernel_rfl
 cellsByte:=by kernel_rfl
 sizeByte:=by kernel_rfl
 neB5:=by decide
open Go.RowKit in
theorem Tryz.Builder_WriteByte_k (B b:Nat) (bs:List Value) (c:Int) (w:World) (h:Lib.IsBuilderF 156 5 B b bs w) (hlen:bs.length + 1 <= 140737488355328) (hBw:B <= w.heap.size) :
 Calls Tryz.prog 90 #[.pointer (some ⟨b,0,none⟩),.int .u8 c] w fun e w'=>e=.returned .nilIface /\ (Lib.BuilderAtF 156 5 B b (.pointer (some ⟨b,0,none⟩)) (bs ++ [.int .u8 c]) w' /\ Below B w w' /\ Lib.OthersKept 5 (some b) w w'):=Any.Builder_WriteByte_k Tryz.lays167 Tryz.Builder_Extra_167 B b bs c w h hlen hBw
open Go.RowKit in
theorem Tryz.Builder_WriteString_k (B b:Nat) (bs:List Value) (s:ByteArray) (w:World) (h:Lib.IsBuilderF 156 5 B b bs w) (hlen:bs.length + s.size <= 140737488355328) (hBw:B <= w.heap.size) :
 Calls Tryz.prog 82 #[.pointer (some ⟨b,0,none⟩),.string s] w fun e w'=>e=.returned (.tuple #[.int .i64 s.size,.nilIface]) /\ (Lib.BuilderAtF 156 5 B b (.pointer (some ⟨b,0,none⟩)) (bs ++ Lib.strCells s) w' /\ Below B w w' /\ Lib.OthersKept 5 (some b) w w'):=Any.Builder_WriteString_k Tryz.lays166 Tryz.Builder_Extra_166 B b bs s w h hlen hBw
end Go.Proofs
