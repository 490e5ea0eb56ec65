/- Parts of the proof of BucketRuns, joined: BukOf, BukOg, BukOh, BukO, BukOw. No condition. -/
import Derived.Test.YtaibjcjphmhgmaaGreatDoorBr4
set_option linter.unusedSimpArgs false
set_option linter.unusedVariables false
set_option linter.unusedSectionVars false
namespace Go.Proofs.YtaibjcjphmhgmaaGreatDoor
set_option linter.unusedVariables false
set_option maxRecDepth 1000000
set_option maxHeartbeats 4000000
open Go.RowKit
theorem rd_empty (w wr : World) (rb pm i n bb off cap : Nat) (va : Option Addr) (vc : Nat) (B : List Bk) (st : Int) (nm pre : ByteArray) (now af : Nat) (on : Bool)
    (HS : Hid (LS w wr rb i pm (.slice va B.length vc) B)) (hlt : i < n) (hn : n ≤ 60) (hnow : now < 18446744073709551616) (haf : af < 18446744073709551616) (hs1 : nm.size ≤ 100) (hs2 : pre.size ≤ 100)
    (d0 : wr.cell? ⟨bb, off + i * 7, none⟩ = some (.int .i64 5)) (d1 : wr.cell? ⟨bb, off + i * 7 + 1, none⟩ = some (.int .i64 st)) (d2 : wr.cell? ⟨bb, off + i * 7 + 2, none⟩ = some (.string nm)) (d3 : wr.cell? ⟨bb, off + i * 7 + 3, none⟩ = some (.int .u64 (now : Int))) (d4 : wr.cell? ⟨bb, off + i * 7 + 4, none⟩ = some (.bool on)) (d5 : wr.cell? ⟨bb, off + i * 7 + 5, none⟩ = some (.string pre)) (d6 : wr.cell? ⟨bb, off + i * 7 + 6, none⟩ = some (.int .u64 (af : Int))) (hlb : bb < wr.heap.size) 
    (c0 c1 c3 c4 c7 c15 c16 c17 c18 c19 c20 c21 c22 c23 c24 c25 c26 c27 c28 c29 c30 c31 c32 c33 c197 c198 c199 c200 c201 c202 c203 c204 c205 c206 c207 c208 c209 c210 c211 c212 c213 c214 c215 c216 c217 c218 c219 c220 c221 c222 c223 c224 c225 c226 c227 c228 c229 c230 c231 c232 c233 c234 c235 c236 c237 c238 c239 c240 c241 c242 c243 c244 c245 c246 u2 u8 u9 u10 u11 u12 u13 u14 u37 u38 u39 u40 u41 u42 u43 u44 u45 u46 u47 u48 u49 u50 u51 u52 u53 u54 u55 u56 u57 u58 u59 u60 u61 u62 u63 u64 u65 u66 u67 u68 u69 u70 u71 u72 u73 u74 u75 u76 u77 u78 u79 u80 u81 u82 u83 u84 u85 u86 u87 u88 u89 u90 u91 u92 u93 u94 u95 u96 u97 u98 u99 u100 u101 u102 u103 u104 u105 u106 u107 u108 u109 u110 u111 u112 u113 u114 u115 u116 u117 u118 u119 u120 u121 u122 u123 u124 u125 u126 u127 u128 u129 u130 u131 u132 u133 u134 u135 u136 u137 u138 u139 u140 u141 u142 u143 u144 u145 u146 u147 u148 u149 u150 u151 u152 u153 u154 u155 u156 u157 u158 u159 u160 u161 u162 u163 u164 u165 u166 u167 u168 u169 u170 u171 u172 u173 u174 u175 u176 u177 u178 u179 u180 u181 u182 u183 u184 u185 u186 u187 u188 u189 u190 u191 u192 u193 u194 u195 u196 : Value) (K K1 : Act → World → Prop) (PP : Ending → World → Prop)
    (HQ : ∀ (va' : Option Addr) (vc' : Nat) (B' : List Bk) (w' : World), Hid (LS w w' rb (i + 1) pm (.slice va' B'.length vc') B') → ∀ (v2 v8 v9 v10 v11 v12 v13 v14 v37 v38 v39 v40 v41 v42 v43 v44 v45 v46 v47 v48 v49 v50 v51 v52 v53 v54 v55 v56 v57 v58 v59 v60 v61 v62 v63 v64 v65 v66 v67 v68 v69 v70 v71 v72 v73 v74 v75 v76 v77 v78 v79 v80 v81 v82 v83 v84 v85 v86 v87 v88 v89 v90 v91 v92 v93 v94 v95 v96 v97 v98 v99 v100 v101 v102 v103 v104 v105 v106 v107 v108 v109 v110 v111 v112 v113 v114 v115 v116 v117 v118 v119 v120 v121 v122 v123 v124 v125 v126 v127 v128 v129 v130 v131 v132 v133 v134 v135 v136 v137 v138 v139 v140 v141 v142 v143 v144 v145 v146 v147 v148 v149 v150 v151 v152 v153 v154 v155 v156 v157 v158 v159 v160 v161 v162 v163 v164 v165 v166 v167 v168 v169 v170 v171 v172 v173 v174 v175 v176 v177 v178 v179 v180 v181 v182 v183 v184 v185 v186 v187 v188 v189 v190 v191 v192 v193 v194 v195 v196 : Value), K ⟨#[c0, c1, v2, c3, c4, .pointer (some ⟨rb, 0, none⟩), .pointer (some ⟨pm, 0, none⟩), c7, v8, v9, v10, v11, v12, v13, v14, c15, c16, c17, c18, c19, c20, c21, c22, c23, c24, c25, c26, c27, c28, c29, c30, c31, c32, c33, .slice (some ⟨bb, off, none⟩) n cap, .int .i64 (n : Int), .int .i64 ((i : Int) + 1), v37, v38, v39, v40, v41, v42, v43, v44, v45, v46, v47, v48, v49, v50, v51, v52, v53, v54, v55, v56, v57, v58, v59, v60, v61, v62, v63, v64, v65, v66, v67, v68, v69, v70, v71, v72, v73, v74, v75, v76, v77, v78, v79, v80, v81, v82, v83, v84, v85, v86, v87, v88, v89, v90, v91, v92, v93, v94, v95, v96, v97, v98, v99, v100, v101, v102, v103, v104, v105, v106, v107, v108, v109, v110, v111, v112, v113, v114, v115, v116, v117, v118, v119, v120, v121, v122, v123, v124, v125, v126, v127, v128, v129, v130, v131, v132, v133, v134, v135, v136, v137, v138, v139, v140, v141, v142, v143, v144, v145, v146, v147, v148, v149, v150, v151, v152, v153, v154, v155, v156, v157, v158, v159, v160, v161, v162, v163, v164, v165, v166, v167, v168, v169, v170, v171, v172, v173, v174, v175, v176, v177, v178, v179, v180, v181, v182, v183, v184, v185, v186, v187, v188, v189, v190, v191, v192, v193, v194, v195, v196, c197, c198, c199, c200, c201, c202, c203, c204, c205, c206, c207, c208, c209, c210, c211, c212, c213, c214, c215, c216, c217, c218, c219, c220, c221, c222, c223, c224, c225, c226, c227, c228, c229, c230, c231, c232, c233, c234, c235, c236, c237, c238, c239, c240, c241, c242, c243, c244, c245, c246], []⟩ w') :
    Code.wp Tryz.prog loopBody (Exit.then K (Exit.inBlock 0 (Exit.then K1 (bodyPost Tryz.prog Tryz.f3 PP)))) ⟨#[c0, c1, u2, c3, c4, .pointer (some ⟨rb, 0, none⟩), .pointer (some ⟨pm, 0, none⟩), c7, u8, u9, u10, u11, u12, u13, u14, c15, c16, c17, c18, c19, c20, c21, c22, c23, c24, c25, c26, c27, c28, c29, c30, c31, c32, c33, .slice (some ⟨bb, off, none⟩) n cap, .int .i64 (n : Int), .int .i64 (i : Int), u37, u38, u39, u40, u41, u42, u43, u44, u45, u46, u47, u48, u49, u50, u51, u52, u53, u54, u55, u56, u57, u58, u59, u60, u61, u62, u63, u64, u65, u66, u67, u68, u69, u70, u71, u72, u73, u74, u75, u76, u77, u78, u79, u80, u81, u82, u83, u84, u85, u86, u87, u88, u89, u90, u91, u92, u93, u94, u95, u96, u97, u98, u99, u100, u101, u102, u103, u104, u105, u106, u107, u108, u109, u110, u111, u112, u113, u114, u115, u116, u117, u118, u119, u120, u121, u122, u123, u124, u125, u126, u127, u128, u129, u130, u131, u132, u133, u134, u135, u136, u137, u138, u139, u140, u141, u142, u143, u144, u145, u146, u147, u148, u149, u150, u151, u152, u153, u154, u155, u156, u157, u158, u159, u160, u161, u162, u163, u164, u165, u166, u167, u168, u169, u170, u171, u172, u173, u174, u175, u176, u177, u178, u179, u180, u181, u182, u183, u184, u185, u186, u187, u188, u189, u190, u191, u192, u193, u194, u195, u196, c197, c198, c199, c200, c201, c202, c203, c204, c205, c206, c207, c208, c209, c210, c211, c212, c213, c214, c215, c216, c217, c218, c219, c220, c221, c222, c223, c224, c225, c226, c227, c228, c229, c230, c231, c232, c233, c234, c235, c236, c237, c238, c239, c240, c241, c242, c243, c244, c245, c246], []⟩ wr := by
  have m0 : wr.cell? ⟨pm, 0, none⟩ = some (.slice va B.length vc) := cell_lit HS.out.m rfl
  have m1 : wr.cell? ⟨pm, 1, none⟩ = some (.int .u64 1) := cell_lit HS.out.m rfl
  have lm : pm < wr.heap.size := lt_of_heap HS.out.m
  have ne1 : ¬ pm = wr.heap.size + 1 := by omega
  have ne2 : ¬ wr.heap.size + 1 = pm := by omega
  have HLT := Lib.hid hlt
  have HI : Hid (i ≤ 60) := Lib.hid (by omega)
  have hi60 : i ≤ 60 := by omega
  have hltI : (i : Int) < (n : Int) := by omega
  have p1' : ¬ (100 : Int) < (nm.size : Int) := by omega
  have p2' : ¬ (100 : Int) < (pre.size : Int) := by omega
  have HN : Hid (nm.size ≤ 100 ∧ now < 18446744073709551616 ∧ af < 18446744073709551616) := Lib.hid ⟨by omega, hnow, haf⟩
  have L0 := Lib.hid (HS.out.start #[.int .i64 5, .int .i64 st, .string nm, .int .u64 (now : Int), .bool on, .string pre, .int .u64 (af : Int)])
  have HBL : Hid (B.length ≤ 60) := Lib.hid (by have := HS.out.bst.len; have := HI.out; omega)
  clear hlt hn hnow haf hs1 hs2
  conv => arg 2; whnf
  have PC := fun W (h : Hid (LR w W rb i pm wr.heap.size (wr.heap.size + 1) #[.int .i64 5, .int .i64 st, .string nm, .int .u64 (now : Int), .bool on, .string pre, .int .u64 (af : Int)] (.slice va B.length vc) (.slice va B.length vc) B B B)) => lr_empty nm h HI.out HN.out.1
  have RC := fun (W : World) (h : RB W (.slice va B.length vc) B) => Error14_c _ 1 B nm W h (by have := HBL.out; omega) (by have := HN.out.1; omega)
  have hx : (decide (errB B nm = 0) = true ∧ errB B nm = 0) ∨ (decide (errB B nm = 0) = false ∧ ((errB B nm : Int) == 0) = false) := by
    by_cases h : errB B nm = 0
    · exact .inl ⟨by simp [h], h⟩
    · exact .inr ⟨by simp [h], by simp; omega⟩
  rcases hx with ⟨x1, x2⟩ | ⟨x1, x2⟩
  · rw [x2] at PC RC
    rw [show decide ((0 : Nat) = 0) = true from rfl] at PC
    rw [show ((0 : Nat) : Int) = 0 from rfl] at PC RC
    have RCH := Lib.hid RC
    clear RC x1 x2
    go_wp2_with fail
    refine (PC _ L0).mono ?_
    rintro e w3 ⟨rfl, H3⟩
    have L3 := H3.out
    obtain ⟨⟨m0, m1, mf⟩, ⟨b0, b1, b2, b3, b4, b5, b6⟩, ⟨n0, n1, nf⟩, lm3, lb3, ln3⟩ := L3.cells
    clear PC L0 L3 d0 d1 d2 d3 d4 d5 d6 hlb lm
    go_wp2_with fail
    refine (RCH.out _ H3.out.rv).mono ?_
    rintro e w4 ⟨rfl, H4⟩
    clear m0 m1 mf b0 b1 b2 b3 b4 b5 b6 n0 n1 nf lm3 lb3 ln3
    have L4 := H3.out.below H4.out
    obtain ⟨⟨m0, m1, mf⟩, ⟨b0, b1, b2, b3, b4, b5, b6⟩, ⟨n0, n1, nf⟩, lm3, lb3, ln3⟩ := L4.cells
    have L6 := Lib.hid (L4.fin.more (Nat.le_succ i))
    clear L4 H4 H3 RCH
    go_wp2_with fail
    exact HQ _ _ _ _ L6 _ _ _ _ _ _ _ _ _ _ _ _ _ _ _ _ _ _ _ _ _ _ _ _ _ _ _ _ _ _ _ _ _ _ _ _ _ _ _ _ _ _ _ _ _ _ _ _ _ _ _ _ _ _ _ _ _ _ _ _ _ _ _ _ _ _ _ _ _ _ _ _ _ _ _ _ _ _ _ _ _ _ _ _ _ _ _ _ _ _ _ _ _ _ _ _ _ _ _ _ _ _ _ _ _ _ _ _ _ _ _ _ _ _ _ _ _ _ _ _ _ _ _ _ _ _ _ _ _ _ _ _ _ _ _ _ _ _ _ _ _ _ _ _ _ _ _ _ _ _ _ _ _ _ _ _ _ _ _ _ _ _ _ _ _ _ _ _
  · rw [x1] at PC
    generalize (errB B nm : Int) = E at *
    have RCH := Lib.hid RC
    clear RC x1
    go_wp2_with fail
    refine (PC _ L0).mono ?_
    rintro e w3 ⟨rfl, H3⟩
    have L3 := H3.out
    obtain ⟨⟨m0, m1, mf⟩, ⟨b0, b1, b2, b3, b4, b5, b6⟩, ⟨n0, n1, nf⟩, lm3, lb3, ln3⟩ := L3.cells
    clear PC L0 L3 d0 d1 d2 d3 d4 d5 d6 hlb lm
    go_wp2_with fail
    refine (RCH.out _ H3.out.rv).mono ?_
    rintro e w4 ⟨rfl, H4⟩
    clear m0 m1 mf b0 b1 b2 b3 b4 b5 b6 n0 n1 nf lm3 lb3 ln3
    have L4 := H3.out.below H4.out
    obtain ⟨⟨m0, m1, mf⟩, ⟨b0, b1, b2, b3, b4, b5, b6⟩, ⟨n0, n1, nf⟩, lm3, lb3, ln3⟩ := L4.cells
    have L6 := Lib.hid (L4.fin.more (Nat.le_succ i))
    clear L4 H4 H3 RCH
    go_wp2_with fail
    exact HQ _ _ _ _ L6 _ _ _ _ _ _ _ _ _ _ _ _ _ _ _ _ _ _ _ _ _ _ _ _ _ _ _ _ _ _ _ _ _ _ _ _ _ _ _ _ _ _ _ _ _ _ _ _ _ _ _ _ _ _ _ _ _ _ _ _ _ _ _ _ _ _ _ _ _ _ _ _ _ _ _ _ _ _ _ _ _ _ _ _ _ _ _ _ _ _ _ _ _ _ _ _ _ _ _ _ _ _ _ _ _ _ _ _ _ _ _ _ _ _ _ _ _ _ _ _ _ _ _ _ _ _ _ _ _ _ _ _ _ _ _ _ _ _ _ _ _ _ _ _ _ _ _ _ _ _ _ _ _ _ _ _ _ _ _ _ _ _ _ _ _ _ _ _
end Go.Proofs.YtaibjcjphmhgmaaGreatDoor
namespace Go.Proofs.YtaibjcjphmhgmaaGreatDoor
set_option linter.unusedVariables false
set_option maxRecDepth 1000000
set_option maxHeartbeats 4000000
open Go.RowKit
theorem rd_find (w wr : World) (rb pm i n bb off cap : Nat) (va : Option Addr) (vc : Nat) (B : List Bk) (st : Int) (nm pre : ByteArray) (now af : Nat) (on : Bool)
    (HS : Hid (LS w wr rb i pm (.slice va B.length vc) B)) (hlt : i < n) (hn : n ≤ 60) (hnow : now < 18446744073709551616) (haf : af < 18446744073709551616) (hs1 : nm.size ≤ 100) (hs2 : pre.size ≤ 100)
    (d0 : wr.cell? ⟨bb, off + i * 7, none⟩ = some (.int .i64 1)) (d1 : wr.cell? ⟨bb, off + i * 7 + 1, none⟩ = some (.int .i64 st)) (d2 : wr.cell? ⟨bb, off + i * 7 + 2, none⟩ = some (.string nm)) (d3 : wr.cell? ⟨bb, off + i * 7 + 3, none⟩ = some (.int .u64 (now : Int))) (d4 : wr.cell? ⟨bb, off + i * 7 + 4, none⟩ = some (.bool on)) (d5 : wr.cell? ⟨bb, off + i * 7 + 5, none⟩ = some (.string pre)) (d6 : wr.cell? ⟨bb, off + i * 7 + 6, none⟩ = some (.int .u64 (af : Int))) (hlb : bb < wr.heap.size) 
    (c0 c1 c3 c4 c7 c15 c16 c17 c18 c19 c20 c21 c22 c23 c24 c25 c26 c27 c28 c29 c30 c31 c32 c33 c197 c198 c199 c200 c201 c202 c203 c204 c205 c206 c207 c208 c209 c210 c211 c212 c213 c214 c215 c216 c217 c218 c219 c220 c221 c222 c223 c224 c225 c226 c227 c228 c229 c230 c231 c232 c233 c234 c235 c236 c237 c238 c239 c240 c241 c242 c243 c244 c245 c246 u2 u8 u9 u10 u11 u12 u13 u14 u37 u38 u39 u40 u41 u42 u43 u44 u45 u46 u47 u48 u49 u50 u51 u52 u53 u54 u55 u56 u57 u58 u59 u60 u61 u62 u63 u64 u65 u66 u67 u68 u69 u70 u71 u72 u73 u74 u75 u76 u77 u78 u79 u80 u81 u82 u83 u84 u85 u86 u87 u88 u89 u90 u91 u92 u93 u94 u95 u96 u97 u98 u99 u100 u101 u102 u103 u104 u105 u106 u107 u108 u109 u110 u111 u112 u113 u114 u115 u116 u117 u118 u119 u120 u121 u122 u123 u124 u125 u126 u127 u128 u129 u130 u131 u132 u133 u134 u135 u136 u137 u138 u139 u140 u141 u142 u143 u144 u145 u146 u147 u148 u149 u150 u151 u152 u153 u154 u155 u156 u157 u158 u159 u160 u161 u162 u163 u164 u165 u166 u167 u168 u169 u170 u171 u172 u173 u174 u175 u176 u177 u178 u179 u180 u181 u182 u183 u184 u185 u186 u187 u188 u189 u190 u191 u192 u193 u194 u195 u196 : Value) (K K1 : Act → World → Prop) (PP : Ending → World → Prop)
    (HQ : ∀ (va' : Option Addr) (vc' : Nat) (B' : List Bk) (w' : World), Hid (LS w w' rb (i + 1) pm (.slice va' B'.length vc') B') → ∀ (v2 v8 v9 v10 v11 v12 v13 v14 v37 v38 v39 v40 v41 v42 v43 v44 v45 v46 v47 v48 v49 v50 v51 v52 v53 v54 v55 v56 v57 v58 v59 v60 v61 v62 v63 v64 v65 v66 v67 v68 v69 v70 v71 v72 v73 v74 v75 v76 v77 v78 v79 v80 v81 v82 v83 v84 v85 v86 v87 v88 v89 v90 v91 v92 v93 v94 v95 v96 v97 v98 v99 v100 v101 v102 v103 v104 v105 v106 v107 v108 v109 v110 v111 v112 v113 v114 v115 v116 v117 v118 v119 v120 v121 v122 v123 v124 v125 v126 v127 v128 v129 v130 v131 v132 v133 v134 v135 v136 v137 v138 v139 v140 v141 v142 v143 v144 v145 v146 v147 v148 v149 v150 v151 v152 v153 v154 v155 v156 v157 v158 v159 v160 v161 v162 v163 v164 v165 v166 v167 v168 v169 v170 v171 v172 v173 v174 v175 v176 v177 v178 v179 v180 v181 v182 v183 v184 v185 v186 v187 v188 v189 v190 v191 v192 v193 v194 v195 v196 : Value), K ⟨#[c0, c1, v2, c3, c4, .pointer (some ⟨rb, 0, none⟩), .pointer (some ⟨pm, 0, none⟩), c7, v8, v9, v10, v11, v12, v13, v14, c15, c16, c17, c18, c19, c20, c21, c22, c23, c24, c25, c26, c27, c28, c29, c30, c31, c32, c33, .slice (some ⟨bb, off, none⟩) n cap, .int .i64 (n : Int), .int .i64 ((i : Int) + 1), v37, v38, v39, v40, v41, v42, v43, v44, v45, v46, v47, v48, v49, v50, v51, v52, v53, v54, v55, v56, v57, v58, v59, v60, v61, v62, v63, v64, v65, v66, v67, v68, v69, v70, v71, v72, v73, v74, v75, v76, v77, v78, v79, v80, v81, v82, v83, v84, v85, v86, v87, v88, v89, v90, v91, v92, v93, v94, v95, v96, v97, v98, v99, v100, v101, v102, v103, v104, v105, v106, v107, v108, v109, v110, v111, v112, v113, v114, v115, v116, v117, v118, v119, v120, v121, v122, v123, v124, v125, v126, v127, v128, v129, v130, v131, v132, v133, v134, v135, v136, v137, v138, v139, v140, v141, v142, v143, v144, v145, v146, v147, v148, v149, v150, v151, v152, v153, v154, v155, v156, v157, v158, v159, v160, v161, v162, v163, v164, v165, v166, v167, v168, v169, v170, v171, v172, v173, v174, v175, v176, v177, v178, v179, v180, v181, v182, v183, v184, v185, v186, v187, v188, v189, v190, v191, v192, v193, v194, v195, v196, c197, c198, c199, c200, c201, c202, c203, c204, c205, c206, c207, c208, c209, c210, c211, c212, c213, c214, c215, c216, c217, c218, c219, c220, c221, c222, c223, c224, c225, c226, c227, c228, c229, c230, c231, c232, c233, c234, c235, c236, c237, c238, c239, c240, c241, c242, c243, c244, c245, c246], []⟩ w') :
    Code.wp Tryz.prog loopBody (Exit.then K (Exit.inBlock 0 (Exit.then K1 (bodyPost Tryz.prog Tryz.f3 PP)))) ⟨#[c0, c1, u2, c3, c4, .pointer (some ⟨rb, 0, none⟩), .pointer (some ⟨pm, 0, none⟩), c7, u8, u9, u10, u11, u12, u13, u14, c15, c16, c17, c18, c19, c20, c21, c22, c23, c24, c25, c26, c27, c28, c29, c30, c31, c32, c33, .slice (some ⟨bb, off, none⟩) n cap, .int .i64 (n : Int), .int .i64 (i : Int), u37, u38, u39, u40, u41, u42, u43, u44, u45, u46, u47, u48, u49, u50, u51, u52, u53, u54, u55, u56, u57, u58, u59, u60, u61, u62, u63, u64, u65, u66, u67, u68, u69, u70, u71, u72, u73, u74, u75, u76, u77, u78, u79, u80, u81, u82, u83, u84, u85, u86, u87, u88, u89, u90, u91, u92, u93, u94, u95, u96, u97, u98, u99, u100, u101, u102, u103, u104, u105, u106, u107, u108, u109, u110, u111, u112, u113, u114, u115, u116, u117, u118, u119, u120, u121, u122, u123, u124, u125, u126, u127, u128, u129, u130, u131, u132, u133, u134, u135, u136, u137, u138, u139, u140, u141, u142, u143, u144, u145, u146, u147, u148, u149, u150, u151, u152, u153, u154, u155, u156, u157, u158, u159, u160, u161, u162, u163, u164, u165, u166, u167, u168, u169, u170, u171, u172, u173, u174, u175, u176, u177, u178, u179, u180, u181, u182, u183, u184, u185, u186, u187, u188, u189, u190, u191, u192, u193, u194, u195, u196, c197, c198, c199, c200, c201, c202, c203, c204, c205, c206, c207, c208, c209, c210, c211, c212, c213, c214, c215, c216, c217, c218, c219, c220, c221, c222, c223, c224, c225, c226, c227, c228, c229, c230, c231, c232, c233, c234, c235, c236, c237, c238, c239, c240, c241, c242, c243, c244, c245, c246], []⟩ wr := by
  have m0 : wr.cell? ⟨pm, 0, none⟩ = some (.slice va B.length vc) := cell_lit HS.out.m rfl
  have m1 : wr.cell? ⟨pm, 1, none⟩ = some (.int .u64 1) := cell_lit HS.out.m rfl
  have lm : pm < wr.heap.size := lt_of_heap HS.out.m
  have ne1 : ¬ pm = wr.heap.size + 1 := by omega
  have ne2 : ¬ wr.heap.size + 1 = pm := by omega
  have HLT := Lib.hid hlt
  have HI : Hid (i ≤ 60) := Lib.hid (by omega)
  have hi60 : i ≤ 60 := by omega
  have hltI : (i : Int) < (n : Int) := by omega
  have p1' : ¬ (100 : Int) < (nm.size : Int) := by omega
  have p2' : ¬ (100 : Int) < (pre.size : Int) := by omega
  have HN : Hid (nm.size ≤ 100 ∧ now < 18446744073709551616 ∧ af < 18446744073709551616) := Lib.hid ⟨by omega, hnow, haf⟩
  have L0 := Lib.hid (HS.out.start #[.int .i64 1, .int .i64 st, .string nm, .int .u64 (now : Int), .bool on, .string pre, .int .u64 (af : Int)])
  have HBL : Hid (B.length ≤ 60) := Lib.hid (by have := HS.out.bst.len; have := HI.out; omega)
  clear hlt hn hnow haf hs1 hs2
  conv => arg 2; whnf
  have RC := fun (W : World) (h : RB W (.slice va B.length vc) B) => Error14_c _ 1 B nm W h (by have := HBL.out; omega) (by have := HN.out.1; omega)
  rcases errB_cases B nm with hE | hE | hE
  · have PC := fun W (h : Hid (LR w W rb i pm wr.heap.size (wr.heap.size + 1) #[.int .i64 1, .int .i64 st, .string nm, .int .u64 (now : Int), .bool on, .string pre, .int .u64 (af : Int)] (.slice va B.length vc) (.slice va B.length vc) B B B)) (hq : W.heap.size = wr.heap.size + 1 + 1) => lq_find_err nm h HI.out HN.out.1 (.inl hE.1) #[.string ⟨#[]⟩, .int .i64 0, .int .u64 0, .bool false, .string ⟨#[]⟩, .int .u64 0] (wr.heap.size + 1 + 1) hq
    rw [hE.1] at PC RC
    rw [show ((28 : Nat) : Int) = 28 from rfl] at PC RC
    have RCH := Lib.hid RC
    clear RC hE
    go_wp2_with fail
    refine (PC _ L0 (by simp)).mono ?_
    rintro e w3 ⟨rfl, H3⟩
    clear PC L0 d0 d1 d2 d3 d4 d5 d6 hlb lm ne1 ne2 m0 m1
    generalize wr.heap.size + 1 + 1 = q at *
    generalize wr.heap.size + 1 = pn at *
    generalize wr.heap.size = pb at *
    obtain ⟨q0, q1, q2, q3, q4, q5⟩ := cells6 H3.out.hq
    have qf : ∀ j, w3.frozen? ⟨q, j, none⟩ = false := fun j => frozen_lit H3.out.hq j
    obtain ⟨⟨m0, m1, mf⟩, ⟨b0, b1, b2, b3, b4, b5, b6⟩, ⟨n0, n1, nf⟩, lm3, lb3, ln3⟩ := H3.out.lr.cells
    obtain ⟨x1, x2, x3⟩ : ¬ pm = q ∧ ¬ pb = q ∧ ¬ pn = q := ⟨H3.out.ne.1, H3.out.ne.2.1, H3.out.ne.2.2.1⟩
    obtain ⟨y1, y2, y3⟩ : ¬ q = pm ∧ ¬ q = pb ∧ ¬ q = pn := ⟨fun e => x1 e.symm, fun e => x2 e.symm, fun e => x3 e.symm⟩
    clear lm3 lb3 ln3
    have HW := Lib.hid (((((((H3.out.set 0 (.string ⟨#[]⟩)).set 1 (.int .i64 0)).set 2 (.int .u64 0)).set 3 (.bool false)).set 4 (.string ⟨#[]⟩)).set 5 (.int .u64 0)))
    clear H3
    go_wp2_with fail
    refine (RCH.out _ HW.out.lr.rv).mono ?_
    rintro e w4 ⟨rfl, H4⟩
    have L4 := Lib.hid (HW.out.below H4.out)
    clear H4 HW RCH q0 q1 q2 q3 q4 q5 qf m0 m1 mf b0 b1 b2 b3 b4 b5 b6 n0 n1 nf
    obtain ⟨q0, q1, q2, q3, q4, q5⟩ := cells6 L4.out.hq
    obtain ⟨⟨m0, m1, mf⟩, ⟨b0, b1, b2, b3, b4, b5, b6⟩, ⟨n0, n1, nf⟩, lm3, lb3, ln3⟩ := L4.out.lr.cells
    go_wp2_with fail
    go_quiet (fail)
    have L5 := L4.out.lr.below (drewN_below w4 nq)
    have L6 := Lib.hid ((L5.more (Nat.le_succ i)).fin)
    clear L5 L4
    go_wp2_with fail
    exact HQ _ _ _ _ L6 _ _ _ _ _ _ _ _ _ _ _ _ _ _ _ _ _ _ _ _ _ _ _ _ _ _ _ _ _ _ _ _ _ _ _ _ _ _ _ _ _ _ _ _ _ _ _ _ _ _ _ _ _ _ _ _ _ _ _ _ _ _ _ _ _ _ _ _ _ _ _ _ _ _ _ _ _ _ _ _ _ _ _ _ _ _ _ _ _ _ _ _ _ _ _ _ _ _ _ _ _ _ _ _ _ _ _ _ _ _ _ _ _ _ _ _ _ _ _ _ _ _ _ _ _ _ _ _ _ _ _ _ _ _ _ _ _ _ _ _ _ _ _ _ _ _ _ _ _ _ _ _ _ _ _ _ _ _ _ _ _ _ _ _ _ _ _ _
  · have PC := fun W (h : Hid (LR w W rb i pm wr.heap.size (wr.heap.size + 1) #[.int .i64 1, .int .i64 st, .string nm, .int .u64 (now : Int), .bool on, .string pre, .int .u64 (af : Int)] (.slice va B.length vc) (.slice va B.length vc) B B B)) (hq : W.heap.size = wr.heap.size + 1 + 1) => lq_find_err nm h HI.out HN.out.1 (.inr hE.1) #[.string ⟨#[]⟩, .int .i64 0, .int .u64 0, .bool false, .string ⟨#[]⟩, .int .u64 0] (wr.heap.size + 1 + 1) hq
    rw [hE.1] at PC RC
    rw [show ((20 : Nat) : Int) = 20 from rfl] at PC RC
    have RCH := Lib.hid RC
    clear RC hE
    go_wp2_with fail
    refine (PC _ L0 (by simp)).mono ?_
    rintro e w3 ⟨rfl, H3⟩
    clear PC L0 d0 d1 d2 d3 d4 d5 d6 hlb lm ne1 ne2 m0 m1
    generalize wr.heap.size + 1 + 1 = q at *
    generalize wr.heap.size + 1 = pn at *
    generalize wr.heap.size = pb at *
    obtain ⟨q0, q1, q2, q3, q4, q5⟩ := cells6 H3.out.hq
    have qf : ∀ j, w3.frozen? ⟨q, j, none⟩ = false := fun j => frozen_lit H3.out.hq j
    obtain ⟨⟨m0, m1, mf⟩, ⟨b0, b1, b2, b3, b4, b5, b6⟩, ⟨n0, n1, nf⟩, lm3, lb3, ln3⟩ := H3.out.lr.cells
    obtain ⟨x1, x2, x3⟩ : ¬ pm = q ∧ ¬ pb = q ∧ ¬ pn = q := ⟨H3.out.ne.1, H3.out.ne.2.1, H3.out.ne.2.2.1⟩
    obtain ⟨y1, y2, y3⟩ : ¬ q = pm ∧ ¬ q = pb ∧ ¬ q = pn := ⟨fun e => x1 e.symm, fun e => x2 e.symm, fun e => x3 e.symm⟩
    clear lm3 lb3 ln3
    have HW := Lib.hid (((((((H3.out.set 0 (.string ⟨#[]⟩)).set 1 (.int .i64 0)).set 2 (.int .u64 0)).set 3 (.bool false)).set 4 (.string ⟨#[]⟩)).set 5 (.int .u64 0)))
    clear H3
    go_wp2_with fail
    refine (RCH.out _ HW.out.lr.rv).mono ?_
    rintro e w4 ⟨rfl, H4⟩
    have L4 := Lib.hid (HW.out.below H4.out)
    clear H4 HW RCH q0 q1 q2 q3 q4 q5 qf m0 m1 mf b0 b1 b2 b3 b4 b5 b6 n0 n1 nf
    obtain ⟨q0, q1, q2, q3, q4, q5⟩ := cells6 L4.out.hq
    obtain ⟨⟨m0, m1, mf⟩, ⟨b0, b1, b2, b3, b4, b5, b6⟩, ⟨n0, n1, nf⟩, lm3, lb3, ln3⟩ := L4.out.lr.cells
    go_wp2_with fail
    go_quiet (fail)
    have L5 := L4.out.lr.below (drewN_below w4 nq)
    have L6 := Lib.hid ((L5.more (Nat.le_succ i)).fin)
    clear L5 L4
    go_wp2_with fail
    exact HQ _ _ _ _ L6 _ _ _ _ _ _ _ _ _ _ _ _ _ _ _ _ _ _ _ _ _ _ _ _ _ _ _ _ _ _ _ _ _ _ _ _ _ _ _ _ _ _ _ _ _ _ _ _ _ _ _ _ _ _ _ _ _ _ _ _ _ _ _ _ _ _ _ _ _ _ _ _ _ _ _ _ _ _ _ _ _ _ _ _ _ _ _ _ _ _ _ _ _ _ _ _ _ _ _ _ _ _ _ _ _ _ _ _ _ _ _ _ _ _ _ _ _ _ _ _ _ _ _ _ _ _ _ _ _ _ _ _ _ _ _ _ _ _ _ _ _ _ _ _ _ _ _ _ _ _ _ _ _ _ _ _ _ _ _ _ _ _ _ _ _ _ _ _
  · obtain ⟨b, hbb⟩ := hE.2.2
    obtain ⟨k, hk, hkb, hat⟩ := atI_of hbb
    have PC := fun W (h : Hid (LR w W rb i pm wr.heap.size (wr.heap.size + 1) #[.int .i64 1, .int .i64 st, .string nm, .int .u64 (now : Int), .bool on, .string pre, .int .u64 (af : Int)] (.slice va B.length vc) (.slice va B.length vc) B B B)) (hq : W.heap.size = wr.heap.size + 1 + 1) => lq_find_ok nm b h HI.out HN.out.1 hE.2.1 hbb #[.string ⟨#[]⟩, .int .i64 0, .int .u64 0, .bool false, .string ⟨#[]⟩, .int .u64 0] (wr.heap.size + 1 + 1) hq
    have AC := fun (W : World) (h : RB W (.slice va B.length vc) B) => At14_c _ 1 B nm W h (by have := HBL.out; omega)
    rw [hat] at AC
    obtain ⟨g, rfl, -, -⟩ := HS.out.rv.at k hk
    rw [hE.1] at RC
    rw [show ((0 : Nat) : Int) = 0 from rfl] at RC
    have RCH := Lib.hid RC
    have ACH := Lib.hid AC
    have HK := Lib.hid hk
    have HKB : Hid (B[k]'(HK.out) = b) := Lib.hid hkb
    have hkI : (k : Int) < (B.length : Int) := by omega
    clear RC AC hE hbb hat hk hkb
    obtain ⟨bn, bs, bb, bo, ba, bp⟩ := b
    simp only at PC
    go_wp2_with fail
    refine (PC _ L0 (by simp)).mono ?_
    rintro e w3 ⟨rfl, H3⟩
    clear PC L0 d0 d1 d2 d3 d4 d5 d6 hlb lm ne1 ne2 m0 m1
    generalize wr.heap.size + 1 + 1 = q at *
    generalize wr.heap.size + 1 = pn at *
    generalize wr.heap.size = pb at *
    obtain ⟨q0, q1, q2, q3, q4, q5⟩ := cells6 H3.out.hq
    have qf : ∀ j, w3.frozen? ⟨q, j, none⟩ = false := fun j => frozen_lit H3.out.hq j
    obtain ⟨⟨m0, m1, mf⟩, ⟨b0, b1, b2, b3, b4, b5, b6⟩, ⟨n0, n1, nf⟩, lm3, lb3, ln3⟩ := H3.out.lr.cells
    obtain ⟨x1, x2, x3⟩ : ¬ pm = q ∧ ¬ pb = q ∧ ¬ pn = q := ⟨H3.out.ne.1, H3.out.ne.2.1, H3.out.ne.2.2.1⟩
    obtain ⟨y1, y2, y3⟩ : ¬ q = pm ∧ ¬ q = pb ∧ ¬ q = pn := ⟨fun e => x1 e.symm, fun e => x2 e.symm, fun e => x3 e.symm⟩
    clear lm3 lb3 ln3
    have HW := Lib.hid (((((((H3.out.set 0 (.string bn)).set 1 (.int .i64 (bs : Int))).set 2 (.int .u64 (bb : Int))).set 3 (.bool bo)).set 4 (.string bp)).set 5 (.int .u64 (ba : Int))))
    clear H3
    go_wp2_with fail
    refine (RCH.out _ HW.out.lr.rv).mono ?_
    rintro e w4 ⟨rfl, H4⟩
    have L4 := Lib.hid (HW.out.below H4.out)
    clear H4 HW RCH q0 q1 q2 q3 q4 q5 qf m0 m1 mf b0 b1 b2 b3 b4 b5 b6 n0 n1 nf
    have CJ4 : Hid (∀ W', Below w4.heap.size w4 W' → W'.cell? ⟨pm, 0, none⟩ = some (.slice (some ⟨g, 0, none⟩) B.length vc) ∧ W'.cell? ⟨pm, 1, none⟩ = some (.int .u64 1) ∧ W'.cell? ⟨pb, 2, none⟩ = some (.string nm) ∧ W'.cell? ⟨q, 0, none⟩ = some (.string bn) ∧ W'.cell? ⟨q, 1, none⟩ = some (.int .i64 (bs : Int)) ∧ W'.cell? ⟨q, 2, none⟩ = some (.int .u64 (bb : Int)) ∧ W'.cell? ⟨q, 3, none⟩ = some (.bool bo) ∧ W'.cell? ⟨q, 4, none⟩ = some (.string bp) ∧ W'.cell? ⟨q, 5, none⟩ = some (.int .u64 (ba : Int)) ∧ W'.cell? ⟨g, k * 8, none⟩ = some (.string bn) ∧ W'.cell? ⟨g, k * 8 + 1, none⟩ = some (.int .i64 (bs : Int)) ∧ W'.cell? ⟨g, k * 8 + 2, none⟩ = some (.int .u64 (bb : Int)) ∧ W'.cell? ⟨g, k * 8 + 3, none⟩ = some (.bool bo) ∧ W'.cell? ⟨g, k * 8 + 4, none⟩ = some (.string bp) ∧ W'.cell? ⟨g, k * 8 + 5, none⟩ = some (.int .u64 (ba : Int))) := Lib.hid fun W' hb => by
      have := (L4.out.below hb).cells k g HK.out rfl
      rw [HKB.out] at this
      exact this
    have CT : Hid (∀ W, Below w4.heap.size w4 W → Calls Tryz.prog 17 #[.agg #[.slice (some ⟨g, 0, none⟩) B.length vc, .int .u64 1], .string nm] W fun e W' => e = .returned (.int .i64 (k : Int)) ∧ (W'.cell? ⟨pm, 0, none⟩ = some (.slice (some ⟨g, 0, none⟩) B.length vc) ∧ W'.cell? ⟨pm, 1, none⟩ = some (.int .u64 1) ∧ W'.cell? ⟨pb, 2, none⟩ = some (.string nm) ∧ W'.cell? ⟨q, 0, none⟩ = some (.string bn) ∧ W'.cell? ⟨q, 1, none⟩ = some (.int .i64 (bs : Int)) ∧ W'.cell? ⟨q, 2, none⟩ = some (.int .u64 (bb : Int)) ∧ W'.cell? ⟨q, 3, none⟩ = some (.bool bo) ∧ W'.cell? ⟨q, 4, none⟩ = some (.string bp) ∧ W'.cell? ⟨q, 5, none⟩ = some (.int .u64 (ba : Int)) ∧ W'.cell? ⟨g, k * 8, none⟩ = some (.string bn) ∧ W'.cell? ⟨g, k * 8 + 1, none⟩ = some (.int .i64 (bs : Int)) ∧ W'.cell? ⟨g, k * 8 + 2, none⟩ = some (.int .u64 (bb : Int)) ∧ W'.cell? ⟨g, k * 8 + 3, none⟩ = some (.bool bo) ∧ W'.cell? ⟨g, k * 8 + 4, none⟩ = some (.string bp) ∧ W'.cell? ⟨g, k * 8 + 5, none⟩ = some (.int .u64 (ba : Int))) ∧ Below w4.heap.size w4 W') := Lib.hid fun W hb => by
      refine (ACH.out W (L4.out.below hb).lr.rv).mono ?_
      rintro e W' ⟨rfl, h⟩
      have hb2 := hb.trans (h.out.mono hb.size)
      exact ⟨rfl, CJ4.out W' hb2, hb2⟩
    have HB0 := Lib.hid (Below.refl w4.heap.size w4).drew
    obtain ⟨m0, m1, b2, q0, q1, q2, q3, q4, q5, g0, g1, g2, g3, g4, g5⟩ := CJ4.out w4 (Below.refl _ _)
    clear CJ4 ACH
    go_wp2_with fail
    refine wp_region_noPanic ?_
    refine wp_region_held_drew (S := (fun w' => w'.cell? ⟨pm, 0, none⟩ = some (.slice (some ⟨g, 0, none⟩) B.length vc) ∧ w'.cell? ⟨pm, 1, none⟩ = some (.int .u64 1) ∧ w'.cell? ⟨pb, 2, none⟩ = some (.string nm) ∧ w'.cell? ⟨q, 0, none⟩ = some (.string bn) ∧ w'.cell? ⟨q, 1, none⟩ = some (.int .i64 (bs : Int)) ∧ w'.cell? ⟨q, 2, none⟩ = some (.int .u64 (bb : Int)) ∧ w'.cell? ⟨q, 3, none⟩ = some (.bool bo) ∧ w'.cell? ⟨q, 4, none⟩ = some (.string bp) ∧ w'.cell? ⟨q, 5, none⟩ = some (.int .u64 (ba : Int)) ∧ w'.cell? ⟨g, k * 8, none⟩ = some (.string bn) ∧ w'.cell? ⟨g, k * 8 + 1, none⟩ = some (.int .i64 (bs : Int)) ∧ w'.cell? ⟨g, k * 8 + 2, none⟩ = some (.int .u64 (bb : Int)) ∧ w'.cell? ⟨g, k * 8 + 3, none⟩ = some (.bool bo) ∧ w'.cell? ⟨g, k * 8 + 4, none⟩ = some (.string bp) ∧ w'.cell? ⟨g, k * 8 + 5, none⟩ = some (.int .u64 (ba : Int)))) (by kernel_rfl) ?_ (fun hHeld => ?_)
    · exact ⟨m0, m1, b2, q0, q1, q2, q3, q4, q5, g0, g1, g2, g3, g4, g5⟩
    refine' wpAnyH_take (i := 0) (v := ?v0) rfl (by kernel_rfl) (by kernel_rfl) (by kernel_rfl) (fun _ _ _ h => h) (Or.inl ⟨by rfl, ?hy0⟩) (by assumption) ?_
    case hy0 => (intro w hSw; (try dsimp only at hSw); go_simp; try with_reducible rfl)
    try simp only [Act.put, List.setIfInBounds_toArray, List.set_cons_zero, List.set_cons_succ, List.getElem_toArray, List.getElem_cons_zero]
    refine' wpAnyH_take (i := 1) (v := ?v1) rfl (by kernel_rfl) (by kernel_rfl) (by kernel_rfl) (fun _ _ _ h => h) (Or.inl ⟨by rfl, ?hy1⟩) (by assumption) ?_
    case hy1 => (intro w hSw; (try dsimp only at hSw); go_simp; try with_reducible rfl)
    try simp only [Act.put, List.setIfInBounds_toArray, List.set_cons_zero, List.set_cons_succ, List.getElem_toArray, List.getElem_cons_succ, List.getElem_cons_zero]
    refine' wpAnyH_take (i := 2) (v := ?v2) rfl (by kernel_rfl) (by kernel_rfl) (by kernel_rfl) (fun _ _ _ h => h) (Or.inl ⟨by rfl, ?hy2⟩) (by assumption) ?_
    case hy2 => (intro w hSw; (try dsimp only at hSw); go_simp; try with_reducible rfl)
    try simp only [Act.put, List.setIfInBounds_toArray, List.set_cons_zero, List.set_cons_succ, List.getElem_toArray, List.getElem_cons_succ, List.getElem_cons_zero]
    refine' wpAnyH_take (i := 3) (v := ?v3) rfl (by kernel_rfl) (by kernel_rfl) (by kernel_rfl) (fun _ _ _ h => h) (Or.inl ⟨by rfl, ?hy3⟩) (by assumption) ?_
    case hy3 => (intro w hSw; (try dsimp only at hSw); go_simp; try with_reducible rfl)
    try simp only [Act.put, List.setIfInBounds_toArray, List.set_cons_zero, List.set_cons_succ, List.getElem_toArray, List.getElem_cons_succ, List.getElem_cons_zero]
    refine' wpAnyH_take (i := 4) (v := ?v4) rfl (by kernel_rfl) (by kernel_rfl) (by kernel_rfl) (fun _ _ _ h => h) (Or.inl ⟨by rfl, ?hy4⟩) (by assumption) ?_
    case hy4 => (intro w hSw; (try dsimp only at hSw); go_simp; try with_reducible rfl)
    try simp only [Act.put, List.setIfInBounds_toArray, List.set_cons_zero, List.set_cons_succ, List.getElem_toArray, List.getElem_cons_succ, List.getElem_cons_zero]
    refine' wpAnyH_take (i := 5) (v := ?v5) rfl (by kernel_rfl) (by kernel_rfl) (by kernel_rfl) (fun _ _ _ h => h) (Or.inl ⟨by rfl, ?hy5⟩) (by assumption) ?_
    case hy5 => (intro w hSw; (try dsimp only at hSw); go_simp; try with_reducible rfl)
    try simp only [Act.put, List.setIfInBounds_toArray, List.set_cons_zero, List.set_cons_succ, List.getElem_toArray, List.getElem_cons_succ, List.getElem_cons_zero]
    refine' wpAnyH_take (i := 6) (v := ?v6) rfl (by kernel_rfl) (by kernel_rfl) (by kernel_rfl) (fun _ _ _ h => h) (Or.inl ⟨by rfl, ?hy6⟩) (by assumption) ?_
    case hy6 => (intro w hSw; (try dsimp only at hSw); go_simp; try with_reducible rfl)
    try simp only [Act.put, List.setIfInBounds_toArray, List.set_cons_zero, List.set_cons_succ, List.getElem_toArray, List.getElem_cons_succ, List.getElem_cons_zero]
    refine' wpAnyH_take (i := 7) (v := ?v7) rfl (by kernel_rfl) (by kernel_rfl) (by kernel_rfl) (fun _ _ _ h => h) (Or.inl ⟨by rfl, ?hy7⟩) (by assumption) ?_
    case hy7 => (intro w hSw; (try dsimp only at hSw); go_simp; try with_reducible rfl)
    try simp only [Act.put, List.setIfInBounds_toArray, List.set_cons_zero, List.set_cons_succ, List.getElem_toArray, List.getElem_cons_succ, List.getElem_cons_zero]
    refine' wpAnyH_take (i := 8) (v := ?v8) rfl (by kernel_rfl) (by kernel_rfl) (by kernel_rfl) (fun _ _ _ h => h) (Or.inl ⟨by rfl, ?hy8⟩) (by assumption) ?_
    case hy8 => (intro w hSw; (try dsimp only at hSw); go_simp; try with_reducible rfl)
    try simp only [Act.put, List.setIfInBounds_toArray, List.set_cons_zero, List.set_cons_succ, List.getElem_toArray, List.getElem_cons_succ, List.getElem_cons_zero]
    refine wpAnyH_ready (rs := [9]) (by kernel_rfl) (by simp) ?_
    refine AllReadyH.cons rfl (fun K hK => ?_) AllReadyH.nil
    go_simp
    go_at_call 17
    refine Calls.at_args (CT.out _ HB0.out) (by with_reducible rfl) ?_
    rintro e w5 ⟨rfl, hkk, HB5⟩
    refine hK.out _ _ ?_ (fun hHeld => ?_)
    · exact hkk
    clear hK K
    try simp only [Act.put, List.setIfInBounds_toArray, List.set_cons_zero, List.set_cons_succ, List.getElem_toArray, List.getElem_cons_succ, List.getElem_cons_zero]
    refine' wpAnyH_take (i := 10) (v := ?v10) rfl (by kernel_rfl) (by kernel_rfl) (by kernel_rfl) (fun _ _ _ h => h) (Or.inl ⟨by rfl, ?hy10⟩) (by assumption) ?_
    case hy10 => (intro w hSw; (try dsimp only at hSw); go_simp; try with_reducible rfl)
    try simp only [Act.put, List.setIfInBounds_toArray, List.set_cons_zero, List.set_cons_succ, List.getElem_toArray, List.getElem_cons_succ, List.getElem_cons_zero]
    refine' wpAnyH_take (i := 11) (v := ?v11) rfl (by kernel_rfl) (by kernel_rfl) (by kernel_rfl) (fun _ _ _ h => h) (Or.inl ⟨by rfl, ?hy11⟩) (by assumption) ?_
    case hy11 => (intro w hSw; (try dsimp only at hSw); go_simp; try with_reducible rfl)
    try simp only [Act.put, List.setIfInBounds_toArray, List.set_cons_zero, List.set_cons_succ, List.getElem_toArray, List.getElem_cons_succ, List.getElem_cons_zero]
    refine' wpAnyH_take (i := 12) (v := ?v12) rfl (by kernel_rfl) (by kernel_rfl) (by kernel_rfl) (fun _ _ _ h => h) (Or.inl ⟨by rfl, ?hy12⟩) (by assumption) ?_
    case hy12 => (intro w hSw; (try dsimp only at hSw); go_simp; try with_reducible rfl)
    try simp only [Act.put, List.setIfInBounds_toArray, List.set_cons_zero, List.set_cons_succ, List.getElem_toArray, List.getElem_cons_succ, List.getElem_cons_zero]
    refine' wpAnyH_take (i := 13) (v := ?v13) rfl (by kernel_rfl) (by kernel_rfl) (by kernel_rfl) (fun _ _ _ h => h) (Or.inl ⟨by rfl, ?hy13⟩) (by assumption) ?_
    case hy13 => (intro w hSw; (try dsimp only at hSw); go_simp; try with_reducible rfl)
    try simp only [Act.put, List.setIfInBounds_toArray, List.set_cons_zero, List.set_cons_succ, List.getElem_toArray, List.getElem_cons_succ, List.getElem_cons_zero]
    refine' wpAnyH_take (i := 14) (v := ?v14) rfl (by kernel_rfl) (by kernel_rfl) (by kernel_rfl) (fun _ _ _ h => h) (Or.inl ⟨by rfl, ?hy14⟩) (by assumption) ?_
    case hy14 => (intro w hSw; (try dsimp only at hSw); go_simp; try with_reducible rfl)
    try simp only [Act.put, List.setIfInBounds_toArray, List.set_cons_zero, List.set_cons_succ, List.getElem_toArray, List.getElem_cons_succ, List.getElem_cons_zero]
    refine' wpAnyH_take (i := 15) (v := ?v15) rfl (by kernel_rfl) (by kernel_rfl) (by kernel_rfl) (fun _ _ _ h => h) (Or.inl ⟨by rfl, ?hy15⟩) (by assumption) ?_
    case hy15 => (intro w hSw; (try dsimp only at hSw); go_simp; try with_reducible rfl)
    try simp only [Act.put, List.setIfInBounds_toArray, List.set_cons_zero, List.set_cons_succ, List.getElem_toArray, List.getElem_cons_succ, List.getElem_cons_zero]
    refine' wpAnyH_take (i := 16) (v := ?v16) rfl (by kernel_rfl) (by kernel_rfl) (by kernel_rfl) (fun _ _ _ h => h) (Or.inl ⟨by rfl, ?hy16⟩) (by assumption) ?_
    case hy16 => (intro w hSw; (try dsimp only at hSw); go_simp; try with_reducible rfl)
    try simp only [Act.put, List.setIfInBounds_toArray, List.set_cons_zero, List.set_cons_succ, List.getElem_toArray, List.getElem_cons_succ, List.getElem_cons_zero]
    refine' wpAnyH_take (i := 17) (v := ?v17) rfl (by kernel_rfl) (by kernel_rfl) (by kernel_rfl) (fun _ _ _ h => h) (Or.inl ⟨by rfl, ?hy17⟩) (by assumption) ?_
    case hy17 => (intro w hSw; (try dsimp only at hSw); go_simp; try with_reducible rfl)
    try simp only [Act.put, List.setIfInBounds_toArray, List.set_cons_zero, List.set_cons_succ, List.getElem_toArray, List.getElem_cons_succ, List.getElem_cons_zero]
    refine' wpAnyH_take (i := 18) (v := ?v18) rfl (by kernel_rfl) (by kernel_rfl) (by kernel_rfl) (fun _ _ _ h => h) (Or.inl ⟨by rfl, ?hy18⟩) (by assumption) ?_
    case hy18 => (intro w hSw; (try dsimp only at hSw); go_simp; try with_reducible rfl)
    try simp only [Act.put, List.setIfInBounds_toArray, List.set_cons_zero, List.set_cons_succ, List.getElem_toArray, List.getElem_cons_succ, List.getElem_cons_zero]
    refine' wpAnyH_take (i := 19) (v := undef) rfl (by kernel_rfl) (by kernel_rfl) (by kernel_rfl) (fun _ _ _ h => h) (Or.inr ⟨by rfl, rfl⟩) (by assumption) ?_
    try simp only [Act.put, List.setIfInBounds_toArray, List.set_cons_zero, List.set_cons_succ, List.getElem_toArray, List.getElem_cons_succ, List.getElem_cons_zero]
    refine' wpAnyH_take (i := 20) (v := undef) rfl (by kernel_rfl) (by kernel_rfl) (by kernel_rfl) (fun _ _ _ h => h) (Or.inr ⟨by rfl, rfl⟩) (by assumption) ?_
    try simp only [Act.put, List.setIfInBounds_toArray, List.set_cons_zero, List.set_cons_succ, List.getElem_toArray, List.getElem_cons_succ, List.getElem_cons_zero]
    refine' wpAnyH_take (i := 21) (v := undef) rfl (by kernel_rfl) (by kernel_rfl) (by kernel_rfl) (fun _ _ _ h => h) (Or.inr ⟨by rfl, rfl⟩) (by assumption) ?_
    try simp only [Act.put, List.setIfInBounds_toArray, List.set_cons_zero, List.set_cons_succ, List.getElem_toArray, List.getElem_cons_succ, List.getElem_cons_zero]
    refine' wpAnyH_take (i := 22) (v := ?v22) rfl (by kernel_rfl) (by kernel_rfl) (by kernel_rfl) (fun _ _ _ h => h) (Or.inl ⟨by rfl, ?hy22⟩) (by assumption) ?_
    case hy22 => (intro w hSw; (try dsimp only at hSw); go_simp; try with_reducible rfl)
    try simp only [Act.put, List.setIfInBounds_toArray, List.set_cons_zero, List.set_cons_succ, List.getElem_toArray, List.getElem_cons_succ, List.getElem_cons_zero]
    refine' wpAnyH_take (i := 23) (v := ?v23) rfl (by kernel_rfl) (by kernel_rfl) (by kernel_rfl) (fun _ _ _ h => h) (Or.inl ⟨by rfl, ?hy23⟩) (by assumption) ?_
    case hy23 => (intro w hSw; (try dsimp only at hSw); go_simp; try with_reducible rfl)
    try simp only [Act.put, List.setIfInBounds_toArray, List.set_cons_zero, List.set_cons_succ, List.getElem_toArray, List.getElem_cons_succ, List.getElem_cons_zero]
    refine wpAnyH_done (by kernel_rfl) ?_ _
    refine NoPanic.normal ?_
    obtain ⟨m0, m1, b2, q0, q1, q2, q3, q4, q5, g0, g1, g2, g3, g4, g5⟩ := hkk
    have L5 := L4.out.lr.below HB5
    have mf : ∀ j, w5.frozen? ⟨pm, j, none⟩ = false := L5.cells.1.2.2
    obtain ⟨n0, n1, nf⟩ := L5.cells.2.2.1
    have L6 := Lib.hid ((L5.more (Nat.le_succ i)).fin)
    clear L5 L4 CT
    go_wp2_with fail
    exact HQ _ _ _ _ L6 _ _ _ _ _ _ _ _ _ _ _ _ _ _ _ _ _ _ _ _ _ _ _ _ _ _ _ _ _ _ _ _ _ _ _ _ _ _ _ _ _ _ _ _ _ _ _ _ _ _ _ _ _ _ _ _ _ _ _ _ _ _ _ _ _ _ _ _ _ _ _ _ _ _ _ _ _ _ _ _ _ _ _ _ _ _ _ _ _ _ _ _ _ _ _ _ _ _ _ _ _ _ _ _ _ _ _ _ _ _ _ _ _ _ _ _ _ _ _ _ _ _ _ _ _ _ _ _ _ _ _ _ _ _ _ _ _ _ _ _ _ _ _ _ _ _ _ _ _ _ _ _ _ _ _ _ _ _ _ _ _ _ _ _ _ _ _ _
end Go.Proofs.YtaibjcjphmhgmaaGreatDoor
namespace Go.Proofs.YtaibjcjphmhgmaaGreatDoor
set_option linter.unusedVariables false
set_option maxRecDepth 1000000
set_option maxHeartbeats 4000000
open Go.RowKit
theorem rd_other (w wr : World) (rb pm i n bb off cap : Nat) (va : Option Addr) (vc : Nat) (B : List Bk) (what st : Int) (nm pre : ByteArray) (now af : Nat) (on : Bool)
    (HS : Hid (LS w wr rb i pm (.slice va B.length vc) B)) (hlt : i < n) (hn : n ≤ 60) (hnow : now < 18446744073709551616) (haf : af < 18446744073709551616) (hs1 : nm.size ≤ 100) (hs2 : pre.size ≤ 100)
    (d0 : wr.cell? ⟨bb, off + i * 7, none⟩ = some (.int .i64 what)) (d1 : wr.cell? ⟨bb, off + i * 7 + 1, none⟩ = some (.int .i64 st)) (d2 : wr.cell? ⟨bb, off + i * 7 + 2, none⟩ = some (.string nm)) (d3 : wr.cell? ⟨bb, off + i * 7 + 3, none⟩ = some (.int .u64 (now : Int))) (d4 : wr.cell? ⟨bb, off + i * 7 + 4, none⟩ = some (.bool on)) (d5 : wr.cell? ⟨bb, off + i * 7 + 5, none⟩ = some (.string pre)) (d6 : wr.cell? ⟨bb, off + i * 7 + 6, none⟩ = some (.int .u64 (af : Int))) (hlb : bb < wr.heap.size) (e0 : ¬ what = 0) (e1 : ¬ what = 1) (e2 : ¬ what = 2) (e3 : ¬ what = 3) (e4 : ¬ what = 4) (e5 : ¬ what = 5) (e6 : ¬ what = 6)
    (c0 c1 c3 c4 c7 c15 c16 c17 c18 c19 c20 c21 c22 c23 c24 c25 c26 c27 c28 c29 c30 c31 c32 c33 c197 c198 c199 c200 c201 c202 c203 c204 c205 c206 c207 c208 c209 c210 c211 c212 c213 c214 c215 c216 c217 c218 c219 c220 c221 c222 c223 c224 c225 c226 c227 c228 c229 c230 c231 c232 c233 c234 c235 c236 c237 c238 c239 c240 c241 c242 c243 c244 c245 c246 u2 u8 u9 u10 u11 u12 u13 u14 u37 u38 u39 u40 u41 u42 u43 u44 u45 u46 u47 u48 u49 u50 u51 u52 u53 u54 u55 u56 u57 u58 u59 u60 u61 u62 u63 u64 u65 u66 u67 u68 u69 u70 u71 u72 u73 u74 u75 u76 u77 u78 u79 u80 u81 u82 u83 u84 u85 u86 u87 u88 u89 u90 u91 u92 u93 u94 u95 u96 u97 u98 u99 u100 u101 u102 u103 u104 u105 u106 u107 u108 u109 u110 u111 u112 u113 u114 u115 u116 u117 u118 u119 u120 u121 u122 u123 u124 u125 u126 u127 u128 u129 u130 u131 u132 u133 u134 u135 u136 u137 u138 u139 u140 u141 u142 u143 u144 u145 u146 u147 u148 u149 u150 u151 u152 u153 u154 u155 u156 u157 u158 u159 u160 u161 u162 u163 u164 u165 u166 u167 u168 u169 u170 u171 u172 u173 u174 u175 u176 u177 u178 u179 u180 u181 u182 u183 u184 u185 u186 u187 u188 u189 u190 u191 u192 u193 u194 u195 u196 : Value) (K K1 : Act → World → Prop) (PP : Ending → World → Prop)
    (HQ : ∀ (va' : Option Addr) (vc' : Nat) (B' : List Bk) (w' : World), Hid (LS w w' rb (i + 1) pm (.slice va' B'.length vc') B') → ∀ (v2 v8 v9 v10 v11 v12 v13 v14 v37 v38 v39 v40 v41 v42 v43 v44 v45 v46 v47 v48 v49 v50 v51 v52 v53 v54 v55 v56 v57 v58 v59 v60 v61 v62 v63 v64 v65 v66 v67 v68 v69 v70 v71 v72 v73 v74 v75 v76 v77 v78 v79 v80 v81 v82 v83 v84 v85 v86 v87 v88 v89 v90 v91 v92 v93 v94 v95 v96 v97 v98 v99 v100 v101 v102 v103 v104 v105 v106 v107 v108 v109 v110 v111 v112 v113 v114 v115 v116 v117 v118 v119 v120 v121 v122 v123 v124 v125 v126 v127 v128 v129 v130 v131 v132 v133 v134 v135 v136 v137 v138 v139 v140 v141 v142 v143 v144 v145 v146 v147 v148 v149 v150 v151 v152 v153 v154 v155 v156 v157 v158 v159 v160 v161 v162 v163 v164 v165 v166 v167 v168 v169 v170 v171 v172 v173 v174 v175 v176 v177 v178 v179 v180 v181 v182 v183 v184 v185 v186 v187 v188 v189 v190 v191 v192 v193 v194 v195 v196 : Value), K ⟨#[c0, c1, v2, c3, c4, .pointer (some ⟨rb, 0, none⟩), .pointer (some ⟨pm, 0, none⟩), c7, v8, v9, v10, v11, v12, v13, v14, c15, c16, c17, c18, c19, c20, c21, c22, c23, c24, c25, c26, c27, c28, c29, c30, c31, c32, c33, .slice (some ⟨bb, off, none⟩) n cap, .int .i64 (n : Int), .int .i64 ((i : Int) + 1), v37, v38, v39, v40, v41, v42, v43, v44, v45, v46, v47, v48, v49, v50, v51, v52, v53, v54, v55, v56, v57, v58, v59, v60, v61, v62, v63, v64, v65, v66, v67, v68, v69, v70, v71, v72, v73, v74, v75, v76, v77, v78, v79, v80, v81, v82, v83, v84, v85, v86, v87, v88, v89, v90, v91, v92, v93, v94, v95, v96, v97, v98, v99, v100, v101, v102, v103, v104, v105, v106, v107, v108, v109, v110, v111, v112, v113, v114, v115, v116, v117, v118, v119, v120, v121, v122, v123, v124, v125, v126, v127, v128, v129, v130, v131, v132, v133, v134, v135, v136, v137, v138, v139, v140, v141, v142, v143, v144, v145, v146, v147, v148, v149, v150, v151, v152, v153, v154, v155, v156, v157, v158, v159, v160, v161, v162, v163, v164, v165, v166, v167, v168, v169, v170, v171, v172, v173, v174, v175, v176, v177, v178, v179, v180, v181, v182, v183, v184, v185, v186, v187, v188, v189, v190, v191, v192, v193, v194, v195, v196, c197, c198, c199, c200, c201, c202, c203, c204, c205, c206, c207, c208, c209, c210, c211, c212, c213, c214, c215, c216, c217, c218, c219, c220, c221, c222, c223, c224, c225, c226, c227, c228, c229, c230, c231, c232, c233, c234, c235, c236, c237, c238, c239, c240, c241, c242, c243, c244, c245, c246], []⟩ w') :
    Code.wp Tryz.prog loopBody (Exit.then K (Exit.inBlock 0 (Exit.then K1 (bodyPost Tryz.prog Tryz.f3 PP)))) ⟨#[c0, c1, u2, c3, c4, .pointer (some ⟨rb, 0, none⟩), .pointer (some ⟨pm, 0, none⟩), c7, u8, u9, u10, u11, u12, u13, u14, c15, c16, c17, c18, c19, c20, c21, c22, c23, c24, c25, c26, c27, c28, c29, c30, c31, c32, c33, .slice (some ⟨bb, off, none⟩) n cap, .int .i64 (n : Int), .int .i64 (i : Int), u37, u38, u39, u40, u41, u42, u43, u44, u45, u46, u47, u48, u49, u50, u51, u52, u53, u54, u55, u56, u57, u58, u59, u60, u61, u62, u63, u64, u65, u66, u67, u68, u69, u70, u71, u72, u73, u74, u75, u76, u77, u78, u79, u80, u81, u82, u83, u84, u85, u86, u87, u88, u89, u90, u91, u92, u93, u94, u95, u96, u97, u98, u99, u100, u101, u102, u103, u104, u105, u106, u107, u108, u109, u110, u111, u112, u113, u114, u115, u116, u117, u118, u119, u120, u121, u122, u123, u124, u125, u126, u127, u128, u129, u130, u131, u132, u133, u134, u135, u136, u137, u138, u139, u140, u141, u142, u143, u144, u145, u146, u147, u148, u149, u150, u151, u152, u153, u154, u155, u156, u157, u158, u159, u160, u161, u162, u163, u164, u165, u166, u167, u168, u169, u170, u171, u172, u173, u174, u175, u176, u177, u178, u179, u180, u181, u182, u183, u184, u185, u186, u187, u188, u189, u190, u191, u192, u193, u194, u195, u196, c197, c198, c199, c200, c201, c202, c203, c204, c205, c206, c207, c208, c209, c210, c211, c212, c213, c214, c215, c216, c217, c218, c219, c220, c221, c222, c223, c224, c225, c226, c227, c228, c229, c230, c231, c232, c233, c234, c235, c236, c237, c238, c239, c240, c241, c242, c243, c244, c245, c246], []⟩ wr := by
  have m0 : wr.cell? ⟨pm, 0, none⟩ = some (.slice va B.length vc) := cell_lit HS.out.m rfl
  have m1 : wr.cell? ⟨pm, 1, none⟩ = some (.int .u64 1) := cell_lit HS.out.m rfl
  have lm : pm < wr.heap.size := lt_of_heap HS.out.m
  have ne1 : ¬ pm = wr.heap.size + 1 := by omega
  have ne2 : ¬ wr.heap.size + 1 = pm := by omega
  have HLT := Lib.hid hlt
  have HI : Hid (i ≤ 60) := Lib.hid (by omega)
  have hi60 : i ≤ 60 := by omega
  have hltI : (i : Int) < (n : Int) := by omega
  have p1' : ¬ (100 : Int) < (nm.size : Int) := by omega
  have p2' : ¬ (100 : Int) < (pre.size : Int) := by omega
  have HN : Hid (nm.size ≤ 100 ∧ now < 18446744073709551616 ∧ af < 18446744073709551616) := Lib.hid ⟨by omega, hnow, haf⟩
  have L0 := Lib.hid (HS.out.start #[.int .i64 what, .int .i64 st, .string nm, .int .u64 (now : Int), .bool on, .string pre, .int .u64 (af : Int)])
  have HBL : Hid (B.length ≤ 60) := Lib.hid (by have := HS.out.bst.len; have := HI.out; omega)
  clear hlt hn hnow haf hs1 hs2
  conv => arg 2; whnf
  have f0 : (what == 0) = false := by simp [e0]
  have f1 : (what == 1) = false := by simp [e1]
  have f2 : (what == 2) = false := by simp [e2]
  have f3 : (what == 3) = false := by simp [e3]
  have f4 : (what == 4) = false := by simp [e4]
  have f5 : (what == 5) = false := by simp [e5]
  have f6 : (what == 6) = false := by simp [e6]
  have L6 : Hid (LS w ((((wr.setCell ⟨pm, 0, none⟩ (.slice va B.length vc)).setCell ⟨pm, 1, none⟩ (.int .u64 1)).alloc (.cells #[.int .i64 what, .int .i64 st, .string nm, .int .u64 (now : Int), .bool on, .string pre, .int .u64 (af : Int)] 40)).alloc (.cells #[.slice va B.length vc, .int .u64 1] 35)) rb (i + 1) pm (.slice va B.length vc) B) := Lib.hid ((HS.out.put.below ((below_alloc _ _).trans ((below_alloc _ _).mono (by simp)))).more (Nat.le_succ i))
  have mf0 : ∀ j, wr.frozen? ⟨pm, j, none⟩ = false := fun j => frozen_lit HS.out.m j
  clear L0 e0 e1 e2 e3 e4 e5 e6
  go_wp2_with fail
  exact HQ _ _ _ _ L6 _ _ _ _ _ _ _ _ _ _ _ _ _ _ _ _ _ _ _ _ _ _ _ _ _ _ _ _ _ _ _ _ _ _ _ _ _ _ _ _ _ _ _ _ _ _ _ _ _ _ _ _ _ _ _ _ _ _ _ _ _ _ _ _ _ _ _ _ _ _ _ _ _ _ _ _ _ _ _ _ _ _ _ _ _ _ _ _ _ _ _ _ _ _ _ _ _ _ _ _ _ _ _ _ _ _ _ _ _ _ _ _ _ _ _ _ _ _ _ _ _ _ _ _ _ _ _ _ _ _ _ _ _ _ _ _ _ _ _ _ _ _ _ _ _ _ _ _ _ _ _ _ _ _ _ _ _ _ _ _ _ _ _ _ _ _ _ _
end Go.Proofs.YtaibjcjphmhgmaaGreatDoor
namespace Go.Proofs.YtaibjcjphmhgmaaGreatDoor
set_option linter.unusedVariables false
set_option maxRecDepth 100000
set_option maxHeartbeats 16000000
open Go.RowKit
section
variable (a : Option Addr) (cap : Nat) (w : World) (l : List BAct)
/-- .. where the acts are too many. -/
theorem runs_out (h : 60 < l.length) :
    Calls Tryz.prog 3 #[.slice a l.length cap] w fun e w' => e = .returned (.bool true) ∧ Hid (Below w.heap.size w w') := by
  have AW := awake14_c
  have q1' : (60 : Int) < (l.length : Int) := by omega
  clear h
  go_enter Tryz.func3, Tryz.ntmps3
  go_wp2_with fail
  refine (AW _).mono ?_
  rintro e w1 ⟨rfl, hb⟩
  go_wp2_with fail
  go_ret
  exact ⟨rfl, hb⟩
/-- .. within the bounds. -/
theorem runs_in (hl : l.length ≤ 60) (hF : ∀ x ∈ l, x.Fits)
    (hcell : ∀ k, (h : k < l.length) → ∃ b off, a = some ⟨b, off, none⟩ ∧ b < w.heap.size ∧ ∀ j, j < 7 → w.cell? ⟨b, off + k * 7 + j, none⟩ = (l[k].cells)[j]?) :
    Calls Tryz.prog 3 #[.slice a l.length cap] w fun e w' => e = .returned (.bool true) ∧ Hid (Below w.heap.size w w') := by
  have AW := awake14_c
  have WD := fun w => Wide_c 30000 w (by decide) (by decide)
  rw [show ((30000 : Nat) : Int) = 30000 from rfl] at WD
  have BE := Begin_c
  have NW := New14_c
  have q1' : ¬ (60 : Int) < (l.length : Int) := by omega
  have HL := Lib.hid hl
  have HF := Lib.hid hF
  have HC := Lib.hid hcell
  clear hl hF hcell
  go_enter Tryz.func3, Tryz.ntmps3
  go_wp2_with fail
  refine (AW _).mono ?_
  rintro e w1 ⟨rfl, hb⟩
  go_wp2_with fail
  refine (WD _).mono ?_
  rintro e wb ⟨db, lb, FL, rfl, H1⟩
  go_wp2_with fail
  refine (BE lb wb).mono ?_
  rintro e wc ⟨rfl, H2⟩
  have OF := Of_c _ lb 30000 FL _ [] wc (chg_new H1.out H2.out) (by decide)
  go_wp2_with fail
  refine OF.mono ?_
  rintro e wd ⟨rb, G, rfl, H3⟩
  have B0 := Lib.hid (BSt.start (NewRoom.of hb.out H1.out H2.out H3.out) (by decide) (by decide))
  clear OF H1 H2 H3 hb WD BE AW
  go_wp2_with fail
  refine (NW _).mono ?_
  rintro e we ⟨rfl, hbe⟩
  have S0 : Hid (LS w (we.alloc (.cells #[.slice none 0 0, .int .u64 1] 35)) rb 0 we.heap.size (.slice none 0 0) []) := Lib.hid (by
    have hb : Below wd.heap.size wd (we.alloc (.cells #[.slice none 0 0, .int .u64 1] 35)) := hbe.out.trans ((below_alloc we _).mono hbe.out.size)
    have h1 := hbe.out.size
    have h2 := B0.out.bel.size
    refine ⟨(B0.out.belowK hb).1.mono fun k hk => ?_, heap_alloc_new _ _, ⟨by simp [bcells], .inl ⟨rfl, rfl⟩⟩, by omega, fun e => by cases e⟩
    rcases hk with e | e
    · exact .inr (by simp; omega)
    · cases e)
  generalize hpm : we.heap.size = pm at *
  clear B0 hbe
  go_wp2_with fail
  go_loopg [36] l.length (fun g s36 wr => ∃ (i : Nat) (va : Option Addr) (vc : Nat) (B : List Bk), g = l.length - i ∧ i ≤ l.length ∧ s36 = .int .i64 (i : Int) ∧ Hid (LS w wr rb i pm (.slice va B.length vc) B))
  case atStart => exact ⟨0, none, 0, [], rfl, Nat.zero_le _, rfl, S0⟩
  case round =>
    obtain ⟨i, va, vc, B, rfl, hi, rfl, HS⟩ := hrel
    clear S0 NW hpm
    have m0 : wr.cell? ⟨pm, 0, none⟩ = some (.slice va B.length vc) := cell_lit HS.out.m rfl
    have m1 : wr.cell? ⟨pm, 1, none⟩ = some (.int .u64 1) := cell_lit HS.out.m rfl
    have lm : pm < wr.heap.size := lt_of_heap HS.out.m
    have ne1 : ¬ pm = wr.heap.size + 1 := by omega
    have ne2 : ¬ wr.heap.size + 1 = pm := by omega
    by_cases hlt : i < l.length
    · obtain ⟨bb, off, rfl, hbb, hc⟩ := HC.out i hlt
      have hfit := HF.out l[i] (List.getElem_mem hlt)
      have HLT := Lib.hid hlt
      have HI : Hid (i ≤ 60) := Lib.hid (by have := HL.out; omega)
      generalize l[i] = x at hc hfit
      obtain ⟨what, st, nm, now, on, pre, af⟩ := x
      have hbel := HS.out.bst.bel
      have D : ∀ j v, j < 7 → (BAct.cells ⟨what, st, nm, now, on, pre, af⟩)[j]? = some v → wr.cell? ⟨bb, off + i * 7 + j, none⟩ = some v := fun j v hj hv => (hbel.cell (p := ⟨bb, off + i * 7 + j, none⟩) hbb).trans ((hc j hj).trans hv)
      have d0 : wr.cell? ⟨bb, off + i * 7, none⟩ = some (.int .i64 what) := D 0 _ (by decide) rfl
      have d1 : wr.cell? ⟨bb, off + i * 7 + 1, none⟩ = some (.int .i64 st) := D 1 _ (by decide) rfl
      have d2 : wr.cell? ⟨bb, off + i * 7 + 2, none⟩ = some (.string nm) := D 2 _ (by decide) rfl
      have d3 : wr.cell? ⟨bb, off + i * 7 + 3, none⟩ = some (.int .u64 (now : Int)) := D 3 _ (by decide) rfl
      have d4 : wr.cell? ⟨bb, off + i * 7 + 4, none⟩ = some (.bool on) := D 4 _ (by decide) rfl
      have d5 : wr.cell? ⟨bb, off + i * 7 + 5, none⟩ = some (.string pre) := D 5 _ (by decide) rfl
      have d6 : wr.cell? ⟨bb, off + i * 7 + 6, none⟩ = some (.int .u64 (af : Int)) := D 6 _ (by decide) rfl
      have hlb : bb < wr.heap.size := Nat.lt_of_lt_of_le hbb hbel.size
      have hltI : (i : Int) < (l.length : Int) := by omega
      have HEX : Hid (∀ o, Below w.heap.size w (wr.alloc o)) := Lib.hid fun o => hbel.alloc hbel.size o
      clear D hc hbel
      by_cases p1 : 100 < nm.size
      · have p1' : (100 : Int) < (nm.size : Int) := by omega
        clear p1 hlt
        go_wp2_with fail
        go_ret
        exact ⟨rfl, Lib.hid (HEX.out _)⟩
      have p1' : ¬ (100 : Int) < (nm.size : Int) := by omega
      by_cases p2 : 100 < pre.size
      · have p2' : (100 : Int) < (pre.size : Int) := by omega
        clear p1 p2 hlt
        go_wp2_with fail
        go_ret
        exact ⟨rfl, Lib.hid (HEX.out _)⟩
      have p2' : ¬ (100 : Int) < (pre.size : Int) := by omega
      have HN : Hid (nm.size ≤ 100 ∧ now < 18446744073709551616 ∧ af < 18446744073709551616) := Lib.hid ⟨by omega, hfit.now, hfit.af⟩
      by_cases e0 : what = 0
      · subst e0
        refine rd_make w wr rb pm i l.length bb off cap va vc B st nm pre now af on HS HLT.out HL.out HN.out.2.1 HN.out.2.2 HN.out.1 (by omega) d0 d1 d2 d3 d4 d5 d6 hlb _ _ _ _ _ _ _ _ _ _ _ _ _ _ _ _ _ _ _ _ _ _ _ _ _ _ _ _ _ _ _ _ _ _ _ _ _ _ _ _ _ _ _ _ _ _ _ _ _ _ _ _ _ _ _ _ _ _ _ _ _ _ _ _ _ _ _ _ _ _ _ _ _ _ _ _ _ _ _ _ _ _ _ _ _ _ _ _ _ _ _ _ _ _ _ _ _ _ _ _ _ _ _ _ _ _ _ _ _ _ _ _ _ _ _ _ _ _ _ _ _ _ _ _ _ _ _ _ _ _ _ _ _ _ _ _ _ _ _ _ _ _ _ _ _ _ _ _ _ _ _ _ _ _ _ _ _ _ _ _ _ _ _ _ _ _ _ _ _ _ _ _ _ _ _ _ _ _ _ _ _ _ _ _ _ _ _ _ _ _ _ _ _ _ _ _ _ _ _ _ _ _ _ _ _ _ _ _ _ _ _ _ _ _ _ _ _ _ _ _ _ _ _ _ _ _ _ _ _ _ _ _ _ _ _ _ _ _ _ _ _ _ _ _ _ ?_
        intro va' vc' B' w' L6
        intros
        refine (‹∀ (a' : Act) (w' : World), Handed _ _ a' w' → _› _ _ ?_)
        go_roundg (l.length - (i + 1))
        case measure => have := HLT.out; omega
        case rel => exact ⟨i + 1, va', vc', B', rfl, HLT.out, by congr 1, L6⟩
      by_cases e2 : what = 2
      · subst e2
        refine rd_state w wr rb pm i l.length bb off cap va vc B st nm pre now af on HS HLT.out HL.out HN.out.2.1 HN.out.2.2 HN.out.1 (by omega) d0 d1 d2 d3 d4 d5 d6 hlb _ _ _ _ _ _ _ _ _ _ _ _ _ _ _ _ _ _ _ _ _ _ _ _ _ _ _ _ _ _ _ _ _ _ _ _ _ _ _ _ _ _ _ _ _ _ _ _ _ _ _ _ _ _ _ _ _ _ _ _ _ _ _ _ _ _ _ _ _ _ _ _ _ _ _ _ _ _ _ _ _ _ _ _ _ _ _ _ _ _ _ _ _ _ _ _ _ _ _ _ _ _ _ _ _ _ _ _ _ _ _ _ _ _ _ _ _ _ _ _ _ _ _ _ _ _ _ _ _ _ _ _ _ _ _ _ _ _ _ _ _ _ _ _ _ _ _ _ _ _ _ _ _ _ _ _ _ _ _ _ _ _ _ _ _ _ _ _ _ _ _ _ _ _ _ _ _ _ _ _ _ _ _ _ _ _ _ _ _ _ _ _ _ _ _ _ _ _ _ _ _ _ _ _ _ _ _ _ _ _ _ _ _ _ _ _ _ _ _ _ _ _ _ _ _ _ _ _ _ _ _ _ _ _ _ _ _ _ _ _ _ _ _ _ _ ?_
        intro va' vc' B' w' L6
        intros
        refine (‹∀ (a' : Act) (w' : World), Handed _ _ a' w' → _› _ _ ?_)
        go_roundg (l.length - (i + 1))
        case measure => have := HLT.out; omega
        case rel => exact ⟨i + 1, va', vc', B', rfl, HLT.out, by congr 1, L6⟩
      by_cases e3 : what = 3
      · subst e3
        refine rd_rule w wr rb pm i l.length bb off cap va vc B st nm pre now af on HS HLT.out HL.out HN.out.2.1 HN.out.2.2 HN.out.1 (by omega) d0 d1 d2 d3 d4 d5 d6 hlb _ _ _ _ _ _ _ _ _ _ _ _ _ _ _ _ _ _ _ _ _ _ _ _ _ _ _ _ _ _ _ _ _ _ _ _ _ _ _ _ _ _ _ _ _ _ _ _ _ _ _ _ _ _ _ _ _ _ _ _ _ _ _ _ _ _ _ _ _ _ _ _ _ _ _ _ _ _ _ _ _ _ _ _ _ _ _ _ _ _ _ _ _ _ _ _ _ _ _ _ _ _ _ _ _ _ _ _ _ _ _ _ _ _ _ _ _ _ _ _ _ _ _ _ _ _ _ _ _ _ _ _ _ _ _ _ _ _ _ _ _ _ _ _ _ _ _ _ _ _ _ _ _ _ _ _ _ _ _ _ _ _ _ _ _ _ _ _ _ _ _ _ _ _ _ _ _ _ _ _ _ _ _ _ _ _ _ _ _ _ _ _ _ _ _ _ _ _ _ _ _ _ _ _ _ _ _ _ _ _ _ _ _ _ _ _ _ _ _ _ _ _ _ _ _ _ _ _ _ _ _ _ _ _ _ _ _ _ _ _ _ _ _ _ _ ?_
        intro va' vc' B' w' L6
        intros
        refine (‹∀ (a' : Act) (w' : World), Handed _ _ a' w' → _› _ _ ?_)
        go_roundg (l.length - (i + 1))
        case measure => have := HLT.out; omega
        case rel => exact ⟨i + 1, va', vc', B', rfl, HLT.out, by congr 1, L6⟩
      by_cases e6 : what = 6
      · subst e6
        refine rd_restore w wr rb pm i l.length bb off cap va vc B st nm pre now af on HS HLT.out HL.out HN.out.2.1 HN.out.2.2 HN.out.1 (by omega) d0 d1 d2 d3 d4 d5 d6 hlb _ _ _ _ _ _ _ _ _ _ _ _ _ _ _ _ _ _ _ _ _ _ _ _ _ _ _ _ _ _ _ _ _ _ _ _ _ _ _ _ _ _ _ _ _ _ _ _ _ _ _ _ _ _ _ _ _ _ _ _ _ _ _ _ _ _ _ _ _ _ _ _ _ _ _ _ _ _ _ _ _ _ _ _ _ _ _ _ _ _ _ _ _ _ _ _ _ _ _ _ _ _ _ _ _ _ _ _ _ _ _ _ _ _ _ _ _ _ _ _ _ _ _ _ _ _ _ _ _ _ _ _ _ _ _ _ _ _ _ _ _ _ _ _ _ _ _ _ _ _ _ _ _ _ _ _ _ _ _ _ _ _ _ _ _ _ _ _ _ _ _ _ _ _ _ _ _ _ _ _ _ _ _ _ _ _ _ _ _ _ _ _ _ _ _ _ _ _ _ _ _ _ _ _ _ _ _ _ _ _ _ _ _ _ _ _ _ _ _ _ _ _ _ _ _ _ _ _ _ _ _ _ _ _ _ _ _ _ _ _ _ _ _ _ _ ?_
        intro va' vc' B' w' L6
        intros
        refine (‹∀ (a' : Act) (w' : World), Handed _ _ a' w' → _› _ _ ?_)
        go_roundg (l.length - (i + 1))
        case measure => have := HLT.out; omega
        case rel => exact ⟨i + 1, va', vc', B', rfl, HLT.out, by congr 1, L6⟩
      by_cases e4 : what = 4
      · subst e4
        refine rd_drop w wr rb pm i l.length bb off cap va vc B st nm pre now af on HS HLT.out HL.out HN.out.2.1 HN.out.2.2 HN.out.1 (by omega) d0 d1 d2 d3 d4 d5 d6 hlb _ _ _ _ _ _ _ _ _ _ _ _ _ _ _ _ _ _ _ _ _ _ _ _ _ _ _ _ _ _ _ _ _ _ _ _ _ _ _ _ _ _ _ _ _ _ _ _ _ _ _ _ _ _ _ _ _ _ _ _ _ _ _ _ _ _ _ _ _ _ _ _ _ _ _ _ _ _ _ _ _ _ _ _ _ _ _ _ _ _ _ _ _ _ _ _ _ _ _ _ _ _ _ _ _ _ _ _ _ _ _ _ _ _ _ _ _ _ _ _ _ _ _ _ _ _ _ _ _ _ _ _ _ _ _ _ _ _ _ _ _ _ _ _ _ _ _ _ _ _ _ _ _ _ _ _ _ _ _ _ _ _ _ _ _ _ _ _ _ _ _ _ _ _ _ _ _ _ _ _ _ _ _ _ _ _ _ _ _ _ _ _ _ _ _ _ _ _ _ _ _ _ _ _ _ _ _ _ _ _ _ _ _ _ _ _ _ _ _ _ _ _ _ _ _ _ _ _ _ _ _ _ _ _ _ _ _ _ _ _ _ _ _ _ _ ?_
        intro va' vc' B' w' L6
        intros
        refine (‹∀ (a' : Act) (w' : World), Handed _ _ a' w' → _› _ _ ?_)
        go_roundg (l.length - (i + 1))
        case measure => have := HLT.out; omega
        case rel => exact ⟨i + 1, va', vc', B', rfl, HLT.out, by congr 1, L6⟩
      by_cases e5 : what = 5
      · subst e5
        refine rd_empty w wr rb pm i l.length bb off cap va vc B st nm pre now af on HS HLT.out HL.out HN.out.2.1 HN.out.2.2 HN.out.1 (by omega) d0 d1 d2 d3 d4 d5 d6 hlb _ _ _ _ _ _ _ _ _ _ _ _ _ _ _ _ _ _ _ _ _ _ _ _ _ _ _ _ _ _ _ _ _ _ _ _ _ _ _ _ _ _ _ _ _ _ _ _ _ _ _ _ _ _ _ _ _ _ _ _ _ _ _ _ _ _ _ _ _ _ _ _ _ _ _ _ _ _ _ _ _ _ _ _ _ _ _ _ _ _ _ _ _ _ _ _ _ _ _ _ _ _ _ _ _ _ _ _ _ _ _ _ _ _ _ _ _ _ _ _ _ _ _ _ _ _ _ _ _ _ _ _ _ _ _ _ _ _ _ _ _ _ _ _ _ _ _ _ _ _ _ _ _ _ _ _ _ _ _ _ _ _ _ _ _ _ _ _ _ _ _ _ _ _ _ _ _ _ _ _ _ _ _ _ _ _ _ _ _ _ _ _ _ _ _ _ _ _ _ _ _ _ _ _ _ _ _ _ _ _ _ _ _ _ _ _ _ _ _ _ _ _ _ _ _ _ _ _ _ _ _ _ _ _ _ _ _ _ _ _ _ _ _ _ _ ?_
        intro va' vc' B' w' L6
        intros
        refine (‹∀ (a' : Act) (w' : World), Handed _ _ a' w' → _› _ _ ?_)
        go_roundg (l.length - (i + 1))
        case measure => have := HLT.out; omega
        case rel => exact ⟨i + 1, va', vc', B', rfl, HLT.out, by congr 1, L6⟩
      by_cases e1 : what = 1
      · subst e1
        refine rd_find w wr rb pm i l.length bb off cap va vc B st nm pre now af on HS HLT.out HL.out HN.out.2.1 HN.out.2.2 HN.out.1 (by omega) d0 d1 d2 d3 d4 d5 d6 hlb _ _ _ _ _ _ _ _ _ _ _ _ _ _ _ _ _ _ _ _ _ _ _ _ _ _ _ _ _ _ _ _ _ _ _ _ _ _ _ _ _ _ _ _ _ _ _ _ _ _ _ _ _ _ _ _ _ _ _ _ _ _ _ _ _ _ _ _ _ _ _ _ _ _ _ _ _ _ _ _ _ _ _ _ _ _ _ _ _ _ _ _ _ _ _ _ _ _ _ _ _ _ _ _ _ _ _ _ _ _ _ _ _ _ _ _ _ _ _ _ _ _ _ _ _ _ _ _ _ _ _ _ _ _ _ _ _ _ _ _ _ _ _ _ _ _ _ _ _ _ _ _ _ _ _ _ _ _ _ _ _ _ _ _ _ _ _ _ _ _ _ _ _ _ _ _ _ _ _ _ _ _ _ _ _ _ _ _ _ _ _ _ _ _ _ _ _ _ _ _ _ _ _ _ _ _ _ _ _ _ _ _ _ _ _ _ _ _ _ _ _ _ _ _ _ _ _ _ _ _ _ _ _ _ _ _ _ _ _ _ _ _ _ _ _ ?_
        intro va' vc' B' w' L6
        intros
        refine (‹∀ (a' : Act) (w' : World), Handed _ _ a' w' → _› _ _ ?_)
        go_roundg (l.length - (i + 1))
        case measure => have := HLT.out; omega
        case rel => exact ⟨i + 1, va', vc', B', rfl, HLT.out, by congr 1, L6⟩
      refine rd_other w wr rb pm i l.length bb off cap va vc B what st nm pre now af on HS HLT.out HL.out HN.out.2.1 HN.out.2.2 HN.out.1 (by omega) d0 d1 d2 d3 d4 d5 d6 hlb e0 e1 e2 e3 e4 e5 e6 _ _ _ _ _ _ _ _ _ _ _ _ _ _ _ _ _ _ _ _ _ _ _ _ _ _ _ _ _ _ _ _ _ _ _ _ _ _ _ _ _ _ _ _ _ _ _ _ _ _ _ _ _ _ _ _ _ _ _ _ _ _ _ _ _ _ _ _ _ _ _ _ _ _ _ _ _ _ _ _ _ _ _ _ _ _ _ _ _ _ _ _ _ _ _ _ _ _ _ _ _ _ _ _ _ _ _ _ _ _ _ _ _ _ _ _ _ _ _ _ _ _ _ _ _ _ _ _ _ _ _ _ _ _ _ _ _ _ _ _ _ _ _ _ _ _ _ _ _ _ _ _ _ _ _ _ _ _ _ _ _ _ _ _ _ _ _ _ _ _ _ _ _ _ _ _ _ _ _ _ _ _ _ _ _ _ _ _ _ _ _ _ _ _ _ _ _ _ _ _ _ _ _ _ _ _ _ _ _ _ _ _ _ _ _ _ _ _ _ _ _ _ _ _ _ _ _ _ _ _ _ _ _ _ _ _ _ _ _ _ _ _ _ _ _ ?_
      intro va' vc' B' w' L6
      intros
      refine (‹∀ (a' : Act) (w' : World), Handed _ _ a' w' → _› _ _ ?_)
      go_roundg (l.length - (i + 1))
      case measure => have := HLT.out; omega
      case rel => exact ⟨i + 1, va', vc', B', rfl, HLT.out, by congr 1, L6⟩
    · obtain rfl : i = l.length := by omega
      have NM := le_names HS HL.out
      have HBL : Hid (B.length ≤ 60) := Lib.hid (by have := HS.out.bst.len; have := HL.out; omega)
      clear hlt hi m0 m1 lm ne1 ne2 HS
      go_wp2_with fail
      refine NM.mono ?_
      rintro e w2 ⟨na, nc, rfl, HE⟩
      have m0 : w2.cell? ⟨pm, 0, none⟩ = some (.slice va B.length vc) := cell_lit HE.out.m rfl
      have m1 : w2.cell? ⟨pm, 1, none⟩ = some (.int .u64 1) := cell_lit HE.out.m rfl
      clear NM
      go_wp2_with fail
      go_loopg [215] B.length (fun g s215 w3 => ∃ j : Nat, g = B.length - j ∧ j ≤ B.length ∧ s215 = .int .i64 (j : Int) ∧ Hid (LE w w3 rb pm (.slice va B.length vc) (.slice na B.length nc) B))
      case atStart => exact ⟨0, rfl, Nat.zero_le _, rfl, HE⟩
      case round =>
        obtain ⟨j, rfl, hj, rfl, HR⟩ := hrel
        clear HE m0 m1
        by_cases hlt : j < B.length
        · obtain ⟨g, gn, rfl, rfl, hg, hgn, hc, hn⟩ := HR.out.at j hlt
          have hltI : (j : Int) < (B.length : Int) := by omega
          have HLT := Lib.hid hlt
          have hj1 : j ≤ 60 := by have := HBL.out; omega
          have hnm : (B[j]'hlt).nm.size ≤ 100 := by have := bkt_short (HR.out.bst.ok _ (List.getElem_mem hlt)).nm; omega
          obtain ⟨b, hb⟩ : ∃ b, B[j]'hlt = b := ⟨_, rfl⟩
          have FI := fun W (h : Hid (LE w W rb pm (.slice (some ⟨g, 0, none⟩) B.length vc) (.slice (some ⟨gn, 0, none⟩) B.length nc) B)) => le_find h j hlt hnm b hb
          have CN : Hid (∀ W, LE w W rb pm (.slice (some ⟨g, 0, none⟩) B.length vc) (.slice (some ⟨gn, 0, none⟩) B.length nc) B → W.cell? ⟨gn, j, none⟩ = some (.string b.nm) ∧ gn < W.heap.size) := Lib.hid fun W h => by
            obtain ⟨g', gn', e, e', -, hgn', -, hn'⟩ := h.at j hlt
            cases e'
            rw [hb] at hn'
            exact ⟨hn', hgn'⟩
          rw [hb] at hc hn
          obtain ⟨bn, bs, bb, bo, ba, bp⟩ := b
          have d0 : wr.cell? ⟨g, j * 8, none⟩ = some (.string bn) := hc 0 (by decide)
          have d1 : wr.cell? ⟨g, j * 8 + 1, none⟩ = some (.int .i64 (bs : Int)) := hc 1 (by decide)
          have d2 : wr.cell? ⟨g, j * 8 + 2, none⟩ = some (.int .u64 (bb : Int)) := hc 2 (by decide)
          have d3 : wr.cell? ⟨g, j * 8 + 3, none⟩ = some (.bool bo) := hc 3 (by decide)
          have d4 : wr.cell? ⟨g, j * 8 + 4, none⟩ = some (.string bp) := hc 4 (by decide)
          have d5 : wr.cell? ⟨g, j * 8 + 5, none⟩ = some (.int .u64 (ba : Int)) := hc 5 (by decide)
          have d6 : wr.cell? ⟨g, j * 8 + 6, none⟩ = some (.slice none 0 0) := hc 6 (by decide)
          have d7 : wr.cell? ⟨g, j * 8 + 7, none⟩ = some (.slice none 0 0) := hc 7 (by decide)
          simp only at FI CN
          clear hb hc hlt hnm hn hgn
          go_wp2_with fail
          refine (FI _ HR _ _ wr.heap.size rfl).mono ?_
          rintro e w5 ⟨rfl, H5⟩
          obtain ⟨x0, x1, x2, x3, x4, x5⟩ : w5.cell? ⟨wr.heap.size, 0, none⟩ = some (.string bn) ∧ w5.cell? ⟨wr.heap.size, 1, none⟩ = some (.int .i64 (bs : Int)) ∧ w5.cell? ⟨wr.heap.size, 2, none⟩ = some (.int .u64 (bb : Int)) ∧ w5.cell? ⟨wr.heap.size, 3, none⟩ = some (.bool bo) ∧ w5.cell? ⟨wr.heap.size, 4, none⟩ = some (.string bp) ∧ w5.cell? ⟨wr.heap.size, 5, none⟩ = some (.int .u64 (ba : Int)) := ⟨cell_lit H5.out.2 rfl, cell_lit H5.out.2 rfl, cell_lit H5.out.2 rfl, cell_lit H5.out.2 rfl, cell_lit H5.out.2 rfl, cell_lit H5.out.2 rfl⟩
          have lq := lt_of_heap H5.out.2
          obtain ⟨hn5, lgn⟩ := CN.out w5 H5.out.1
          have L5 := Lib.hid H5.out.1
          clear FI CN d0 d1 d2 d3 d4 d5 d6 d7 HR H5 hg
          generalize wr.heap.size = q at *
          go_wp2_with fail
          go_quiet (fail)
          have L6 := Lib.hid ((L5.out.below (below_alloc w5 (.cells #[.string bn, .int .i64 (bs : Int), .int .u64 (bb : Int), .bool bo, .string bp, .int .u64 (ba : Int)] 46))).below (drewN_below _ nq))
          go_wp2_with fail
          go_roundg (B.length - (j + 1))
          case measure => have := HLT.out; omega
          case rel => exact ⟨j + 1, rfl, HLT.out, by congr 1, L6⟩
        · obtain rfl : j = B.length := by omega
          clear hlt hj
          go_wp2_with fail
          go_ret
          exact ⟨rfl, Lib.hid HR.out.bel⟩
end
end Go.Proofs.YtaibjcjphmhgmaaGreatDoor
namespace Go.Proofs.YtaibjcjphmhgmaaGreatDoor
set_option linter.unusedVariables false
open Go.RowKit
theorem BucketRuns_w (v0 : Value) (w : World) (g0 : Reads w 22 v0) : Calls Tryz.prog 3 #[v0] w fun e w' => e = .returned (.bool true) ∧ Below w.heap.size w w' := by
  obtain ⟨l, ⟨a, cap, rfl, hc⟩, hl, hf⟩ := reads_acts g0
  by_cases h : 60 < l.length
  · refine (runs_out a cap w l h).mono ?_
    rintro e w' ⟨rfl, hb⟩
    exact ⟨rfl, hb.out⟩
  · refine (runs_in a cap w l (by omega) hf hc).mono ?_
    rintro e w' ⟨rfl, hb⟩
    exact ⟨rfl, hb.out⟩
end Go.Proofs.YtaibjcjphmhgmaaGreatDoor
