import Derived.OwnWalk
import Derived.Lib.Hide
import Derived.Deep.RegionHeld3
import Derived.Test.YtedghbjmhcgilaaKt4
import Derived.Test.YtedghbjmhcgilaaKt20
section
namespace Go.Proofs.Ytedghbjmhcgilaa.A
open Go.RowKit Go.Shelf Go.Maps Go.Proofs.YtedghbjmhcgilaaW.PrintWords Go.Proofs.YtedghbjmhcgilaaW.PrintLast Go.Proofs.YtedghbjmhcgilaaW.PrintMore
open Go.Proofs.Ytedghbjmhcgilaa.POpt
attribute [local go_sem] Oper.semAt_some
set_option linter.unusedVariables false
set_option linter.unusedSimpArgs false
set_option maxRecDepth 100000 in
set_option maxHeartbeats 0 in
theorem reg31 (K : Act → World → Prop) (Q' : Exit → Act → World → Prop) (ad : Addr) (bn c i gp g5 ga gb gc : Nat) (W : World) (d0 : Nat) (l0 : List S35) (d1 : Nat) (l1 : List S35) (d2 : Nat) (l2 : List S37) (A0 : Option Addr) (c0 : Nat) (A1 : Option Addr) (c1 : Nat) (A2 : Option Addr) (c2 : Nat)
    (u6 u7 u8 u9 u10 u14 u15 u16 u17 u18 u19 u20 u21 u22 u23 u24 u25 u26 u27 u28 u29 u30 u31 u32 u33 u34 u35 u36 u37 u38 u39 u40 u41 u42 u43 u44 u45 u46 u47 u48 u49 u50 u51 u52 u53 u54 u55 u56 u57 u58 u59 u60 u61 u62 u63 u64 u65 u66 u67 u68 u69 u70 u71 u72 u73 u74 u75 u76 u77 u78 u79 u80 u81 u82 u83 u84 u85 u86 u87 u88 u89 u90 u91 u92 u93 u94 u95 u96 u97 u98 u99 u100 u101 u102 u103 u104 u105 u106 u107 u108 u109 u110 u111 u112 u113 u114 u115 u116 u117 u118 u119 u120 u121 u122 u123 u124 u125 u126 u127 u128 u129 u130 u131 u132 u133 u134 u135 u136 u137 u138 u139 u140 u141 u142 u143 u144 u145 u146 u147 u148 u149 u150 u151 u152 u153 u154 u155 u156 u157 u158 u159 u160 u161 u162 u163 u164 u165 u166 u167 u168 u169 u170 u171 u172 u173 u174 u175 u176 u177 u178 u179 u180 u181 u182 u183 u184 u185 u186 u187 u188 u189 u190 u191 u192 u193 u194 : Value) (hs0 : (0 : Int) ≤ (i : Int)) (hiz : (i : Int) < (bn : Int)) (hn0 : l0.length ≤ 1048576) (hn1 : l1.length ≤ 1048576) (hn2 : l2.length ≤ 1048576) (hd0 : l0.length < d0) (hd1 : l1.length < d1) (hd2 : l2.length < d2)
    (hgp : gp < W.heap.size) (hg5 : g5 < W.heap.size) (hga : ga < W.heap.size) (hgb : gb < W.heap.size) (hgc : gc < W.heap.size) (hfa : (ad.add (i * 3)).block < W.heap.size)
    (hcell : W.cell? ⟨g5, 0, none⟩ = some (.slice (some ⟨ga, 0, none⟩) l0.length d0) ∧ W.cell? ⟨g5, 1, none⟩ = some (.slice (some ⟨gb, 0, none⟩) l1.length d1) ∧ W.cell? ⟨g5, 2, none⟩ = some (.slice (some ⟨gc, 0, none⟩) l2.length d2) ∧ W.cell? ⟨gp, 0, none⟩ = some (.slice (some ad) bn c) ∧ W.cell? (ad.add (i * 3)) = some (.slice A0 l0.length c0) ∧ W.cell? ⟨(ad.add (i * 3)).block, (ad.add (i * 3)).off + 1, none⟩ = some (.slice A1 l1.length c1) ∧ W.cell? ⟨(ad.add (i * 3)).block, (ad.add (i * 3)).off + 2, none⟩ = some (.slice A2 l2.length c2) ∧ W.cell? ⟨ga, l0.length * 5, none⟩ = some (.int .i64 99) ∧ W.cell? ⟨gb, l1.length * 5, none⟩ = some (.int .i64 98) ∧ W.cell? ⟨gc, l2.length * 2, none⟩ = some (.int .i64 97))
    (HC0 : Hid (Kd.C k35 W (some ⟨ga, 0, none⟩) l0.length l0)) (HC1 : Hid (Kd.C k35 W (some ⟨gb, 0, none⟩) l1.length l1)) (HC2 : Hid (Kd.C k37 W (some ⟨gc, 0, none⟩) l2.length l2)) (R0 : Hid (Kd.C k35 W A0 l0.length l0)) (R1 : Hid (Kd.C k35 W A1 l1.length l1)) (R2 : Hid (Kd.C k37 W A2 l2.length l2)) (m0 : l0.length ≤ c0) (m1 : l1.length ≤ c1) (m2 : l2.length ≤ c2)
    (ks : Nat) (HSM : Hid (cartouchelaw14_same.f ks l0 l1 l2 l0 l1 l2 = some true))
    (hK : Hid (∀ (wc : World) (v195 v196 v197 v198 v199 v200 v201 v202 v203 v204 v205 v206 v207 v208 v209 v210 v211 v212 v213 v214 v215 v216 v217 v218 v219 v220 v221 v222 v223 v224 v225 v226 v227 v228 v229 v230 v231 v232 v233 v234 v235 v236 v237 : Value), Hid (Below W.heap.size W wc) → K { tmps := #[.agg #[.slice (some ad) bn c], .int .i64 (i : Int), .pointer (some ⟨gp, 0, none⟩), undef, .bool true, .pointer (some ⟨g5, 0, none⟩), u6, u7, u8, u9, u10, .int .i64 (l0.length : Int), .int .i64 (l1.length : Int), .int .i64 (l2.length : Int), u14, u15, u16, u17, u18, u19, u20, u21, u22, u23, u24, u25, u26, u27, u28, u29, u30, u31, u32, u33, u34, u35, u36, u37, u38, u39, u40, u41, u42, u43, u44, u45, u46, u47, u48, u49, u50, u51, u52, u53, u54, u55, u56, u57, u58, u59, u60, u61, u62, u63, u64, u65, u66, u67, u68, u69, u70, u71, u72, u73, u74, u75, u76, u77, u78, u79, u80, u81, u82, u83, u84, u85, u86, u87, u88, u89, u90, u91, u92, u93, u94, u95, u96, u97, u98, u99, u100, u101, u102, u103, u104, u105, u106, u107, u108, u109, u110, u111, u112, u113, u114, u115, u116, u117, u118, u119, u120, u121, u122, u123, u124, u125, u126, u127, u128, u129, u130, u131, u132, u133, u134, u135, u136, u137, u138, u139, u140, u141, u142, u143, u144, u145, u146, u147, u148, u149, u150, u151, u152, u153, u154, u155, u156, u157, u158, u159, u160, u161, u162, u163, u164, u165, u166, u167, u168, u169, u170, u171, u172, u173, u174, u175, u176, u177, u178, u179, u180, u181, u182, u183, u184, u185, u186, u187, u188, u189, u190, u191, u192, u193, u194, v195, v196, v197, v198, v199, v200, v201, v202, v203, v204, v205, v206, v207, v208, v209, v210, v211, v212, v213, v214, v215, v216, v217, v218, v219, v220, v221, v222, v223, v224, v225, v226, v227, v228, v229, v230, v231, v232, v233, v234, v235, v236, v237], defers := [] } wc)) :
    Code.wp Try.prog (reg4 31) (Exit.then K Q') { tmps := #[.agg #[.slice (some ad) bn c], .int .i64 (i : Int), .pointer (some ⟨gp, 0, none⟩), undef, .bool false, .pointer (some ⟨g5, 0, none⟩), u6, u7, u8, u9, u10, .int .i64 (l0.length : Int), .int .i64 (l1.length : Int), .int .i64 (l2.length : Int), u14, u15, u16, u17, u18, u19, u20, u21, u22, u23, u24, u25, u26, u27, u28, u29, u30, u31, u32, u33, u34, u35, u36, u37, u38, u39, u40, u41, u42, u43, u44, u45, u46, u47, u48, u49, u50, u51, u52, u53, u54, u55, u56, u57, u58, u59, u60, u61, u62, u63, u64, u65, u66, u67, u68, u69, u70, u71, u72, u73, u74, u75, u76, u77, u78, u79, u80, u81, u82, u83, u84, u85, u86, u87, u88, u89, u90, u91, u92, u93, u94, u95, u96, u97, u98, u99, u100, u101, u102, u103, u104, u105, u106, u107, u108, u109, u110, u111, u112, u113, u114, u115, u116, u117, u118, u119, u120, u121, u122, u123, u124, u125, u126, u127, u128, u129, u130, u131, u132, u133, u134, u135, u136, u137, u138, u139, u140, u141, u142, u143, u144, u145, u146, u147, u148, u149, u150, u151, u152, u153, u154, u155, u156, u157, u158, u159, u160, u161, u162, u163, u164, u165, u166, u167, u168, u169, u170, u171, u172, u173, u174, u175, u176, u177, u178, u179, u180, u181, u182, u183, u184, u185, u186, u187, u188, u189, u190, u191, u192, u193, u194, undef, undef, undef, undef, undef, undef, undef, undef, undef, undef, undef, undef, undef, undef, undef, undef, undef, undef, undef, undef, undef, undef, undef, undef, undef, undef, undef, undef, undef, undef, undef, undef, undef, undef, undef, undef, undef, undef, undef, undef, undef, undef, undef], defers := [] } W := by
  conv => arg 2; whnf
  obtain ⟨q0, q1, q2, q3, q4, q5, q6, q7, q8, q9⟩ := hcell
  obtain ⟨t0, ht0⟩ : ∃ t, t = l0.length + 1 := ⟨_, rfl⟩
  have wr0 : IntKind.i64.wrap ((l0.length : Int) + 1) = (t0 : Int) := by rw [i64_w]; unfold wrap64; omega
  have bd0 : (t0 : Int) ≤ (d0 : Int) := by omega
  have bl0 : (l0.length : Int) < (t0 : Int) := by omega
  have bz0 : (0 : Int) ≤ (l0.length : Int) := by omega
  clear ht0
  obtain ⟨t1, ht1⟩ : ∃ t, t = l1.length + 1 := ⟨_, rfl⟩
  have wr1 : IntKind.i64.wrap ((l1.length : Int) + 1) = (t1 : Int) := by rw [i64_w]; unfold wrap64; omega
  have bd1 : (t1 : Int) ≤ (d1 : Int) := by omega
  have bl1 : (l1.length : Int) < (t1 : Int) := by omega
  have bz1 : (0 : Int) ≤ (l1.length : Int) := by omega
  clear ht1
  obtain ⟨t2, ht2⟩ : ∃ t, t = l2.length + 1 := ⟨_, rfl⟩
  have wr2 : IntKind.i64.wrap ((l2.length : Int) + 1) = (t2 : Int) := by rw [i64_w]; unfold wrap64; omega
  have bd2 : (t2 : Int) ≤ (d2 : Int) := by omega
  have bl2 : (l2.length : Int) < (t2 : Int) := by omega
  have bz2 : (0 : Int) ≤ (l2.length : Int) := by omega
  clear ht2
  go_region_held3 (fun w' => w'.cell? ⟨g5, 0, none⟩ = some (.slice (some ⟨ga, 0, none⟩) l0.length d0) ∧ w'.cell? ⟨g5, 1, none⟩ = some (.slice (some ⟨gb, 0, none⟩) l1.length d1) ∧ w'.cell? ⟨g5, 2, none⟩ = some (.slice (some ⟨gc, 0, none⟩) l2.length d2) ∧ w'.cell? ⟨gp, 0, none⟩ = some (.slice (some ad) bn c) ∧ w'.cell? (ad.add (i * 3)) = some (.slice A0 l0.length c0) ∧ w'.cell? ⟨(ad.add (i * 3)).block, (ad.add (i * 3)).off + 1, none⟩ = some (.slice A1 l1.length c1) ∧ w'.cell? ⟨(ad.add (i * 3)).block, (ad.add (i * 3)).off + 2, none⟩ = some (.slice A2 l2.length c2) ∧ w'.cell? ⟨ga, l0.length * 5, none⟩ = some (.int .i64 99) ∧ w'.cell? ⟨gb, l1.length * 5, none⟩ = some (.int .i64 98) ∧ w'.cell? ⟨gc, l2.length * 2, none⟩ = some (.int .i64 97))
  (go_keep)
  (first
    | (go_at_call 10; refine (cartouchelaw14_same.calls ks (some ⟨ga, 0, none⟩) d0 l0 (some ⟨gb, 0, none⟩) d1 l1 (some ⟨gc, 0, none⟩) d2 l2 A0 c0 l0 A1 c1 l1 A2 c2 l2 true _ (Kd.C_below HC0.out (below_drew (Below.refl _ _))) (Nat.le_of_lt hd0) (Kd.C_below HC1.out (below_drew (Below.refl _ _))) (Nat.le_of_lt hd1) (Kd.C_below HC2.out (below_drew (Below.refl _ _))) (Nat.le_of_lt hd2) (Kd.C_below R0.out (below_drew (Below.refl _ _))) m0 (Kd.C_below R1.out (below_drew (Below.refl _ _))) m1 (Kd.C_below R2.out (below_drew (Below.refl _ _))) m2 HSM.out).mono ?_;
       rintro e x9 ⟨rfl, hb⟩;
       have HB9 : Hid (Below W.heap.size W x9) := Lib.hid ((below_drew (Below.refl W.heap.size W)).trans hb);
       have n0 := (World.cell?_of_block (a := ⟨g5, 0, none⟩) (HB9.out.block g5 (by omega))).trans q0;
       have n1 := (World.cell?_of_block (a := ⟨g5, 1, none⟩) (HB9.out.block g5 (by omega))).trans q1;
       have n2 := (World.cell?_of_block (a := ⟨g5, 2, none⟩) (HB9.out.block g5 (by omega))).trans q2;
       have n3 := (World.cell?_of_block (a := ⟨gp, 0, none⟩) (HB9.out.block gp (by omega))).trans q3;
       have n4 := (World.cell?_of_block (a := ad.add (i * 3)) (HB9.out.block (ad.add (i * 3)).block (by omega))).trans q4;
       have n5 := (World.cell?_of_block (a := ⟨(ad.add (i * 3)).block, (ad.add (i * 3)).off + 1, none⟩) (HB9.out.block (ad.add (i * 3)).block (by omega))).trans q5;
       have n6 := (World.cell?_of_block (a := ⟨(ad.add (i * 3)).block, (ad.add (i * 3)).off + 2, none⟩) (HB9.out.block (ad.add (i * 3)).block (by omega))).trans q6;
       have n7 := (World.cell?_of_block (a := ⟨ga, l0.length * 5, none⟩) (HB9.out.block ga (by omega))).trans q7;
       have n8 := (World.cell?_of_block (a := ⟨gb, l1.length * 5, none⟩) (HB9.out.block gb (by omega))).trans q8;
       have n9 := (World.cell?_of_block (a := ⟨gc, l2.length * 2, none⟩) (HB9.out.block gc (by omega))).trans q9;
       clear hb))
  exact hK.out _ _ _ _ _ _ _ _ _ _ _ _ _ _ _ _ _ _ _ _ _ _ _ _ _ _ _ _ _ _ _ _ _ _ _ _ _ _ _ _ _ _ _ _ HB9
end Go.Proofs.Ytedghbjmhcgilaa.A
end
