import Derived.Test.YtedghbjmhcgilaaKt4
section
namespace Go.Proofs.Ytedghbjmhcgilaa.POpt
open Go.RowKit Go.Proofs.YtedghbjmhcgilaaW.PrintWords Go.Proofs.YtedghbjmhcgilaaW.PrintLast Go.Proofs.YtedghbjmhcgilaaW.PrintMore
attribute [local go_sem] max2_int min2_int max_two min_two max_three min_three max_four min_four
set_option linter.unusedVariables false
set_option linter.unusedSimpArgs false
mutual
def cartoucheref13_Arity.j0 : Nat → Int → Bool → Option (Int)
 | 0, _, _ => none
 | k + 1, x3, x4 => if x4 = true then (some 2) else (if x3 = 3 then (cartoucheref13_Arity.j1 k x3 (x3 == 3)) else (if x3 = 4 then (cartoucheref13_Arity.j1 k x3 (x3 == 4)) else (if x3 = 5 then (cartoucheref13_Arity.j1 k x3 (x3 == 5)) else (if x3 = 6 then (cartoucheref13_Arity.j1 k x3 (x3 == 6)) else (if x3 = 7 then (cartoucheref13_Arity.j1 k x3 (x3 == 7)) else (if x3 = 8 then (cartoucheref13_Arity.j1 k x3 (x3 == 8)) else (if x3 = 9 then (cartoucheref13_Arity.j1 k x3 (x3 == 9)) else (if x3 = 17 then (cartoucheref13_Arity.j1 k x3 (x3 == 17)) else (if x3 = 18 then (cartoucheref13_Arity.j1 k x3 (x3 == 18)) else (cartoucheref13_Arity.j1 k x3 (x3 == 19)))))))))))
def cartoucheref13_Arity.j1 : Nat → Int → Bool → Option (Int)
 | 0, _, _ => none
 | k + 1, x3, x10 => if x10 = true then (some 1) else (if x3 = 10 then (cartoucheref13_Arity.j2 k x3 (x3 == 10)) else (if x3 = 11 then (cartoucheref13_Arity.j2 k x3 (x3 == 11)) else (if x3 = 16 then (cartoucheref13_Arity.j2 k x3 (x3 == 16)) else (cartoucheref13_Arity.j2 k x3 (x3 == 20)))))
def cartoucheref13_Arity.j2 : Nat → Int → Bool → Option (Int)
 | 0, _, _ => none
 | k + 1, x3, x21 => if x21 = true then (some 3) else (if x3 = 12 then (some 4) else (if x3 = 22 then (some 4) else (some 0)))
end
def cartoucheref13_Arity.f (k : Nat) (a0 : Int) : Option (Int) := if a0 = 2 then (cartoucheref13_Arity.j0 k a0 (a0 == 2)) else (if a0 = 14 then (cartoucheref13_Arity.j0 k a0 (a0 == 14)) else (if a0 = 15 then (cartoucheref13_Arity.j0 k a0 (a0 == 15)) else (if a0 = 21 then (cartoucheref13_Arity.j0 k a0 (a0 == 21)) else (cartoucheref13_Arity.j0 k a0 (a0 == 25)))))
set_option maxHeartbeats 8000000 in
set_option maxRecDepth 100000 in
theorem cartoucheref13_Arity.calls (k : Nat) (a0 : Int) (r : Int) (w : World) (h : cartoucheref13_Arity.f k a0 = some r) :
  Calls Try.prog 71 #[.int .i64 a0] w fun e w' => e = .returned (.int .i64 r) ∧ Drawn0 w w' := by
 have H : (if a0 = 2 then (cartoucheref13_Arity.j0 k a0 (a0 == 2)) else (if a0 = 14 then (cartoucheref13_Arity.j0 k a0 (a0 == 14)) else (if a0 = 15 then (cartoucheref13_Arity.j0 k a0 (a0 == 15)) else (if a0 = 21 then (cartoucheref13_Arity.j0 k a0 (a0 == 21)) else (cartoucheref13_Arity.j0 k a0 (a0 == 25)))))) = some r := h
 clear h
 have HC2 := Aside0.mk H
 clear H
 go_enter Try.func71, Try.ntmps71
 go_upto_if 4 with (fail)
 go_cut [4] (fun v4 wc => ∃ (kq : Nat) (x4_1 : Bool), v4 = .bool x4_1 ∧ Aside0 (cartoucheref13_Arity.j0 kq a0 x4_1 = some r) ∧ Aside0 (kq ≤ k) ∧ Drawn0 w wc)
 case first =>
  have H := HC2.out
  clear HC2
  by_cases c3 : a0 = 2
  ·rw [if_pos c3] at H
   have c3b0 : (a0 == 2) = true := beq_iff_eq.mpr c3
   have c3b1 : (a0 != 2) = false := bne_eq_false_iff_eq.mpr c3
   clear c3
   (first | rw [c3b0] | (simp only [i64_w, i32_w]; rw [c3b0]) | skip)
   have H' := Aside0.mk H
   clear H
   go_wp2
   go_meet
   case rel => exact ⟨_, ((a0 == 2)), (by first | rfl | (simp; done) | (simp [*]; done)), H', ⟨by first | omega | exact Nat.le_refl _⟩, by repeat (first | exact Drawn0.refl _ | apply Drawn0.step)⟩
  ·rw [if_neg c3] at H
   have c3b0 : (a0 == 2) = false := beq_eq_false_iff_ne.mpr c3
   have c3b1 : (a0 != 2) = true := bne_iff_ne.mpr c3
   (first | rw [c3b0] | (simp only [i64_w, i32_w]; rw [c3b0]) | skip)
   by_cases c4 : a0 = 14
   ·rw [if_pos c4] at H
    have c4b0 : (a0 == 14) = true := beq_iff_eq.mpr c4
    have c4b1 : (a0 != 14) = false := bne_eq_false_iff_eq.mpr c4
    clear c4
    have H' := Aside0.mk H
    clear H
    go_wp2
    go_meet
    case rel => exact ⟨_, ((a0 == 14)), (by first | rfl | (simp; done) | (simp [*]; done)), H', ⟨by first | omega | exact Nat.le_refl _⟩, by repeat (first | exact Drawn0.refl _ | apply Drawn0.step)⟩
   ·rw [if_neg c4] at H
    have c4b0 : (a0 == 14) = false := beq_eq_false_iff_ne.mpr c4
    have c4b1 : (a0 != 14) = true := bne_iff_ne.mpr c4
    by_cases c5 : a0 = 15
    ·rw [if_pos c5] at H
     have c5b0 : (a0 == 15) = true := beq_iff_eq.mpr c5
     have c5b1 : (a0 != 15) = false := bne_eq_false_iff_eq.mpr c5
     clear c5
     have H' := Aside0.mk H
     clear H
     go_wp2
     go_meet
     case rel => exact ⟨_, ((a0 == 15)), (by first | rfl | (simp; done) | (simp [*]; done)), H', ⟨by first | omega | exact Nat.le_refl _⟩, by repeat (first | exact Drawn0.refl _ | apply Drawn0.step)⟩
    ·rw [if_neg c5] at H
     have c5b0 : (a0 == 15) = false := beq_eq_false_iff_ne.mpr c5
     have c5b1 : (a0 != 15) = true := bne_iff_ne.mpr c5
     by_cases c6 : a0 = 21
     ·rw [if_pos c6] at H
      have c6b0 : (a0 == 21) = true := beq_iff_eq.mpr c6
      have c6b1 : (a0 != 21) = false := bne_eq_false_iff_eq.mpr c6
      clear c6
      have H' := Aside0.mk H
      clear H
      go_wp2
      go_meet
      case rel => exact ⟨_, ((a0 == 21)), (by first | rfl | (simp; done) | (simp [*]; done)), H', ⟨by first | omega | exact Nat.le_refl _⟩, by repeat (first | exact Drawn0.refl _ | apply Drawn0.step)⟩
     ·rw [if_neg c6] at H
      have c6b0 : (a0 == 21) = false := beq_eq_false_iff_ne.mpr c6
      have c6b1 : (a0 != 21) = true := bne_iff_ne.mpr c6
      have H' := Aside0.mk H
      clear H
      go_wp2
      go_meet
      case rel => exact ⟨_, ((a0 == 25)), (by first | rfl | (simp; done) | (simp [*]; done)), H', ⟨by first | omega | exact Nat.le_refl _⟩, by repeat (first | exact Drawn0.refl _ | apply Drawn0.step)⟩
 case rest =>
  clear HC2
  try clear p2
  try clear c3
  try clear c3b0
  try clear c3b1
  try clear c4
  try clear c4b0
  try clear c4b1
  try clear c5
  try clear c5b0
  try clear c5b1
  try clear c6
  try clear c6b0
  try clear c6b1
  obtain ⟨kq, x4_1, rfl, HA, HJ1, ⟨mc1, rfl⟩⟩ := hcut
  cases kq with
  | zero => exact absurd HA.out (by simp [cartoucheref13_Arity.j0])
  | succ kj1 =>
   have H := HA.out
   clear HA
   simp only [cartoucheref13_Arity.j0] at H
   by_cases c7 : x4_1 = true
   ·subst c7
    have H1 : (some 2) = some r := by rw [if_pos rfl] at H; exact H
    clear H
    have H := H1
    clear H1
    obtain rfl := Option.some.inj H
    go_wp2
    go_ret
    exact ⟨by first | rfl | (simp; done) | (simp [*]; done), by repeat (first | exact Drawn0.refl _ | apply Drawn0.step)⟩
   ·replace c7 := Bool.eq_false_iff.mpr c7
    subst c7
    have H1 : (if a0 = 3 then (cartoucheref13_Arity.j1 kj1 a0 (a0 == 3)) else (if a0 = 4 then (cartoucheref13_Arity.j1 kj1 a0 (a0 == 4)) else (if a0 = 5 then (cartoucheref13_Arity.j1 kj1 a0 (a0 == 5)) else (if a0 = 6 then (cartoucheref13_Arity.j1 kj1 a0 (a0 == 6)) else (if a0 = 7 then (cartoucheref13_Arity.j1 kj1 a0 (a0 == 7)) else (if a0 = 8 then (cartoucheref13_Arity.j1 kj1 a0 (a0 == 8)) else (if a0 = 9 then (cartoucheref13_Arity.j1 kj1 a0 (a0 == 9)) else (if a0 = 17 then (cartoucheref13_Arity.j1 kj1 a0 (a0 == 17)) else (if a0 = 18 then (cartoucheref13_Arity.j1 kj1 a0 (a0 == 18)) else (cartoucheref13_Arity.j1 kj1 a0 (a0 == 19))))))))))) = some r := by rw [if_neg (show ¬ (false = true) by decide)] at H; exact H
    clear H
    have H := H1
    clear H1
    have HC8 := Aside0.mk H
    clear H
    go_upto_if 10 with (fail)
    go_cut [10] (fun v10 wc => ∃ (kq : Nat) (x10_7 : Bool), v10 = .bool x10_7 ∧ Aside0 (cartoucheref13_Arity.j1 kq a0 x10_7 = some r) ∧ Aside0 (kq ≤ kj1) ∧ Drawn0 w wc)
    case first =>
     have H := HC8.out
     clear HC8
     by_cases c9 : a0 = 3
     ·rw [if_pos c9] at H
      have c9b0 : (a0 == 3) = true := beq_iff_eq.mpr c9
      have c9b1 : (a0 != 3) = false := bne_eq_false_iff_eq.mpr c9
      clear c9
      (first | rw [c9b0] | (simp only [i64_w, i32_w]; rw [c9b0]) | skip)
      have H' := Aside0.mk H
      clear H
      go_wp2
      go_meet
      case rel => exact ⟨_, ((a0 == 3)), (by first | rfl | (simp; done) | (simp [*]; done)), H', ⟨by have := HJ1.out; first | omega | exact Nat.le_refl _⟩, by repeat (first | exact Drawn0.refl _ | apply Drawn0.step)⟩
     ·rw [if_neg c9] at H
      have c9b0 : (a0 == 3) = false := beq_eq_false_iff_ne.mpr c9
      have c9b1 : (a0 != 3) = true := bne_iff_ne.mpr c9
      (first | rw [c9b0] | (simp only [i64_w, i32_w]; rw [c9b0]) | skip)
      by_cases c10 : a0 = 4
      ·rw [if_pos c10] at H
       have c10b0 : (a0 == 4) = true := beq_iff_eq.mpr c10
       have c10b1 : (a0 != 4) = false := bne_eq_false_iff_eq.mpr c10
       clear c10
       have H' := Aside0.mk H
       clear H
       go_wp2
       go_meet
       case rel => exact ⟨_, ((a0 == 4)), (by first | rfl | (simp; done) | (simp [*]; done)), H', ⟨by have := HJ1.out; first | omega | exact Nat.le_refl _⟩, by repeat (first | exact Drawn0.refl _ | apply Drawn0.step)⟩
      ·rw [if_neg c10] at H
       have c10b0 : (a0 == 4) = false := beq_eq_false_iff_ne.mpr c10
       have c10b1 : (a0 != 4) = true := bne_iff_ne.mpr c10
       by_cases c11 : a0 = 5
       ·rw [if_pos c11] at H
        have c11b0 : (a0 == 5) = true := beq_iff_eq.mpr c11
        have c11b1 : (a0 != 5) = false := bne_eq_false_iff_eq.mpr c11
        clear c11
        have H' := Aside0.mk H
        clear H
        go_wp2
        go_meet
        case rel => exact ⟨_, ((a0 == 5)), (by first | rfl | (simp; done) | (simp [*]; done)), H', ⟨by have := HJ1.out; first | omega | exact Nat.le_refl _⟩, by repeat (first | exact Drawn0.refl _ | apply Drawn0.step)⟩
       ·rw [if_neg c11] at H
        have c11b0 : (a0 == 5) = false := beq_eq_false_iff_ne.mpr c11
        have c11b1 : (a0 != 5) = true := bne_iff_ne.mpr c11
        by_cases c12 : a0 = 6
        ·rw [if_pos c12] at H
         have c12b0 : (a0 == 6) = true := beq_iff_eq.mpr c12
         have c12b1 : (a0 != 6) = false := bne_eq_false_iff_eq.mpr c12
         clear c12
         have H' := Aside0.mk H
         clear H
         go_wp2
         go_meet
         case rel => exact ⟨_, ((a0 == 6)), (by first | rfl | (simp; done) | (simp [*]; done)), H', ⟨by have := HJ1.out; first | omega | exact Nat.le_refl _⟩, by repeat (first | exact Drawn0.refl _ | apply Drawn0.step)⟩
        ·rw [if_neg c12] at H
         have c12b0 : (a0 == 6) = false := beq_eq_false_iff_ne.mpr c12
         have c12b1 : (a0 != 6) = true := bne_iff_ne.mpr c12
         by_cases c13 : a0 = 7
         ·rw [if_pos c13] at H
          have c13b0 : (a0 == 7) = true := beq_iff_eq.mpr c13
          have c13b1 : (a0 != 7) = false := bne_eq_false_iff_eq.mpr c13
          clear c13
          have H' := Aside0.mk H
          clear H
          go_wp2
          go_meet
          case rel => exact ⟨_, ((a0 == 7)), (by first | rfl | (simp; done) | (simp [*]; done)), H', ⟨by have := HJ1.out; first | omega | exact Nat.le_refl _⟩, by repeat (first | exact Drawn0.refl _ | apply Drawn0.step)⟩
         ·rw [if_neg c13] at H
          have c13b0 : (a0 == 7) = false := beq_eq_false_iff_ne.mpr c13
          have c13b1 : (a0 != 7) = true := bne_iff_ne.mpr c13
          by_cases c14 : a0 = 8
          ·rw [if_pos c14] at H
           have c14b0 : (a0 == 8) = true := beq_iff_eq.mpr c14
           have c14b1 : (a0 != 8) = false := bne_eq_false_iff_eq.mpr c14
           clear c14
           have H' := Aside0.mk H
           clear H
           go_wp2
           go_meet
           case rel => exact ⟨_, ((a0 == 8)), (by first | rfl | (simp; done) | (simp [*]; done)), H', ⟨by have := HJ1.out; first | omega | exact Nat.le_refl _⟩, by repeat (first | exact Drawn0.refl _ | apply Drawn0.step)⟩
          ·rw [if_neg c14] at H
           have c14b0 : (a0 == 8) = false := beq_eq_false_iff_ne.mpr c14
           have c14b1 : (a0 != 8) = true := bne_iff_ne.mpr c14
           by_cases c15 : a0 = 9
           ·rw [if_pos c15] at H
            have c15b0 : (a0 == 9) = true := beq_iff_eq.mpr c15
            have c15b1 : (a0 != 9) = false := bne_eq_false_iff_eq.mpr c15
            clear c15
            have H' := Aside0.mk H
            clear H
            go_wp2
            go_meet
            case rel => exact ⟨_, ((a0 == 9)), (by first | rfl | (simp; done) | (simp [*]; done)), H', ⟨by have := HJ1.out; first | omega | exact Nat.le_refl _⟩, by repeat (first | exact Drawn0.refl _ | apply Drawn0.step)⟩
           ·rw [if_neg c15] at H
            have c15b0 : (a0 == 9) = false := beq_eq_false_iff_ne.mpr c15
            have c15b1 : (a0 != 9) = true := bne_iff_ne.mpr c15
            by_cases c16 : a0 = 17
            ·rw [if_pos c16] at H
             have c16b0 : (a0 == 17) = true := beq_iff_eq.mpr c16
             have c16b1 : (a0 != 17) = false := bne_eq_false_iff_eq.mpr c16
             clear c16
             have H' := Aside0.mk H
             clear H
             go_wp2
             go_meet
             case rel => exact ⟨_, ((a0 == 17)), (by first | rfl | (simp; done) | (simp [*]; done)), H', ⟨by have := HJ1.out; first | omega | exact Nat.le_refl _⟩, by repeat (first | exact Drawn0.refl _ | apply Drawn0.step)⟩
            ·rw [if_neg c16] at H
             have c16b0 : (a0 == 17) = false := beq_eq_false_iff_ne.mpr c16
             have c16b1 : (a0 != 17) = true := bne_iff_ne.mpr c16
             by_cases c17 : a0 = 18
             ·rw [if_pos c17] at H
              have c17b0 : (a0 == 18) = true := beq_iff_eq.mpr c17
              have c17b1 : (a0 != 18) = false := bne_eq_false_iff_eq.mpr c17
              clear c17
              have H' := Aside0.mk H
              clear H
              go_wp2
              go_meet
              case rel => exact ⟨_, ((a0 == 18)), (by first | rfl | (simp; done) | (simp [*]; done)), H', ⟨by have := HJ1.out; first | omega | exact Nat.le_refl _⟩, by repeat (first | exact Drawn0.refl _ | apply Drawn0.step)⟩
             ·rw [if_neg c17] at H
              have c17b0 : (a0 == 18) = false := beq_eq_false_iff_ne.mpr c17
              have c17b1 : (a0 != 18) = true := bne_iff_ne.mpr c17
              have H' := Aside0.mk H
              clear H
              go_wp2
              go_meet
              case rel => exact ⟨_, ((a0 == 19)), (by first | rfl | (simp; done) | (simp [*]; done)), H', ⟨by have := HJ1.out; first | omega | exact Nat.le_refl _⟩, by repeat (first | exact Drawn0.refl _ | apply Drawn0.step)⟩
    case rest =>
     clear HC8
     try clear c1
     try clear p2
     try clear c3
     try clear c3b0
     try clear c3b1
     try clear c4
     try clear c4b0
     try clear c4b1
     try clear c5
     try clear c5b0
     try clear c5b1
     try clear c6
     try clear c6b0
     try clear c6b1
     try clear c7
     try clear c9
     try clear c9b0
     try clear c9b1
     try clear c10
     try clear c10b0
     try clear c10b1
     try clear c11
     try clear c11b0
     try clear c11b1
     try clear c12
     try clear c12b0
     try clear c12b1
     try clear c13
     try clear c13b0
     try clear c13b1
     try clear c14
     try clear c14b0
     try clear c14b1
     try clear c15
     try clear c15b0
     try clear c15b1
     try clear c16
     try clear c16b0
     try clear c16b1
     try clear c17
     try clear c17b0
     try clear c17b1
     try clear p2
     obtain ⟨kq, x10_7, rfl, HA, HJ7, ⟨mc7, rfl⟩⟩ := hcut
     cases kq with
     | zero => exact absurd HA.out (by simp [cartoucheref13_Arity.j1])
     | succ kj7 =>
      have H := HA.out
      clear HA
      simp only [cartoucheref13_Arity.j1] at H
      by_cases c18 : x10_7 = true
      ·subst c18
       have H1 : (some 1) = some r := by rw [if_pos rfl] at H; exact H
       clear H
       have H := H1
       clear H1
       obtain rfl := Option.some.inj H
       go_wp2
       go_ret
       exact ⟨by first | rfl | (simp; done) | (simp [*]; done), by repeat (first | exact Drawn0.refl _ | apply Drawn0.step)⟩
      ·replace c18 := Bool.eq_false_iff.mpr c18
       subst c18
       have H1 : (if a0 = 10 then (cartoucheref13_Arity.j2 kj7 a0 (a0 == 10)) else (if a0 = 11 then (cartoucheref13_Arity.j2 kj7 a0 (a0 == 11)) else (if a0 = 16 then (cartoucheref13_Arity.j2 kj7 a0 (a0 == 16)) else (cartoucheref13_Arity.j2 kj7 a0 (a0 == 20))))) = some r := by rw [if_neg (show ¬ (false = true) by decide)] at H; exact H
       clear H
       have H := H1
       clear H1
       have HC19 := Aside0.mk H
       clear H
       go_upto_if 21 with (fail)
       go_cut [21] (fun v21 wc => ∃ (kq : Nat) (x21_18 : Bool), v21 = .bool x21_18 ∧ Aside0 (cartoucheref13_Arity.j2 kq a0 x21_18 = some r) ∧ Aside0 (kq ≤ kj7) ∧ Drawn0 w wc)
       case first =>
        have H := HC19.out
        clear HC19
        by_cases c20 : a0 = 10
        ·rw [if_pos c20] at H
         have c20b0 : (a0 == 10) = true := beq_iff_eq.mpr c20
         have c20b1 : (a0 != 10) = false := bne_eq_false_iff_eq.mpr c20
         clear c20
         (first | rw [c20b0] | (simp only [i64_w, i32_w]; rw [c20b0]) | skip)
         have H' := Aside0.mk H
         clear H
         go_wp2
         go_meet
         case rel => exact ⟨_, ((a0 == 10)), (by first | rfl | (simp; done) | (simp [*]; done)), H', ⟨by have := HJ1.out; have := HJ7.out; first | omega | exact Nat.le_refl _⟩, by repeat (first | exact Drawn0.refl _ | apply Drawn0.step)⟩
        ·rw [if_neg c20] at H
         have c20b0 : (a0 == 10) = false := beq_eq_false_iff_ne.mpr c20
         have c20b1 : (a0 != 10) = true := bne_iff_ne.mpr c20
         (first | rw [c20b0] | (simp only [i64_w, i32_w]; rw [c20b0]) | skip)
         by_cases c21 : a0 = 11
         ·rw [if_pos c21] at H
          have c21b0 : (a0 == 11) = true := beq_iff_eq.mpr c21
          have c21b1 : (a0 != 11) = false := bne_eq_false_iff_eq.mpr c21
          clear c21
          have H' := Aside0.mk H
          clear H
          go_wp2
          go_meet
          case rel => exact ⟨_, ((a0 == 11)), (by first | rfl | (simp; done) | (simp [*]; done)), H', ⟨by have := HJ1.out; have := HJ7.out; first | omega | exact Nat.le_refl _⟩, by repeat (first | exact Drawn0.refl _ | apply Drawn0.step)⟩
         ·rw [if_neg c21] at H
          have c21b0 : (a0 == 11) = false := beq_eq_false_iff_ne.mpr c21
          have c21b1 : (a0 != 11) = true := bne_iff_ne.mpr c21
          by_cases c22 : a0 = 16
          ·rw [if_pos c22] at H
           have c22b0 : (a0 == 16) = true := beq_iff_eq.mpr c22
           have c22b1 : (a0 != 16) = false := bne_eq_false_iff_eq.mpr c22
           clear c22
           have H' := Aside0.mk H
           clear H
           go_wp2
           go_meet
           case rel => exact ⟨_, ((a0 == 16)), (by first | rfl | (simp; done) | (simp [*]; done)), H', ⟨by have := HJ1.out; have := HJ7.out; first | omega | exact Nat.le_refl _⟩, by repeat (first | exact Drawn0.refl _ | apply Drawn0.step)⟩
          ·rw [if_neg c22] at H
           have c22b0 : (a0 == 16) = false := beq_eq_false_iff_ne.mpr c22
           have c22b1 : (a0 != 16) = true := bne_iff_ne.mpr c22
           have H' := Aside0.mk H
           clear H
           go_wp2
           go_meet
           case rel => exact ⟨_, ((a0 == 20)), (by first | rfl | (simp; done) | (simp [*]; done)), H', ⟨by have := HJ1.out; have := HJ7.out; first | omega | exact Nat.le_refl _⟩, by repeat (first | exact Drawn0.refl _ | apply Drawn0.step)⟩
       case rest =>
        clear HC19
        try clear c1
        try clear c2
        try clear p2
        try clear c3
        try clear c3b0
        try clear c3b1
        try clear c4
        try clear c4b0
        try clear c4b1
        try clear c5
        try clear c5b0
        try clear c5b1
        try clear c6
        try clear c6b0
        try clear c6b1
        try clear c7
        try clear c9
        try clear c9b0
        try clear c9b1
        try clear c10
        try clear c10b0
        try clear c10b1
        try clear c11
        try clear c11b0
        try clear c11b1
        try clear c12
        try clear c12b0
        try clear c12b1
        try clear c13
        try clear c13b0
        try clear c13b1
        try clear c14
        try clear c14b0
        try clear c14b1
        try clear c15
        try clear c15b0
        try clear c15b1
        try clear c16
        try clear c16b0
        try clear c16b1
        try clear c17
        try clear c17b0
        try clear c17b1
        try clear c18
        try clear c20
        try clear c20b0
        try clear c20b1
        try clear c21
        try clear c21b0
        try clear c21b1
        try clear c22
        try clear c22b0
        try clear c22b1
        try clear p2
        obtain ⟨kq, x21_18, rfl, HA, HJ18, ⟨mc18, rfl⟩⟩ := hcut
        cases kq with
        | zero => exact absurd HA.out (by simp [cartoucheref13_Arity.j2])
        | succ kj18 =>
         have H := HA.out
         clear HA
         simp only [cartoucheref13_Arity.j2] at H
         by_cases c23 : x21_18 = true
         ·subst c23
          have H1 : (some 3) = some r := by rw [if_pos rfl] at H; exact H
          clear H
          have H := H1
          clear H1
          obtain rfl := Option.some.inj H
          go_wp2
          go_ret
          exact ⟨by first | rfl | (simp; done) | (simp [*]; done), by repeat (first | exact Drawn0.refl _ | apply Drawn0.step)⟩
         ·replace c23 := Bool.eq_false_iff.mpr c23
          subst c23
          have H1 : (if a0 = 12 then (some 4) else (if a0 = 22 then (some 4) else (some 0))) = some r := by rw [if_neg (show ¬ (false = true) by decide)] at H; exact H
          clear H
          have H := H1
          clear H1
          by_cases c24 : a0 = 12
          ·rw [if_pos c24] at H
           have c24b0 : (a0 == 12) = true := beq_iff_eq.mpr c24
           have c24b1 : (a0 != 12) = false := bne_eq_false_iff_eq.mpr c24
           clear c24
           obtain rfl := Option.some.inj H
           go_wp2
           go_ret
           exact ⟨by first | rfl | (simp; done) | (simp [*]; done), by repeat (first | exact Drawn0.refl _ | apply Drawn0.step)⟩
          ·rw [if_neg c24] at H
           have c24b0 : (a0 == 12) = false := beq_eq_false_iff_ne.mpr c24
           have c24b1 : (a0 != 12) = true := bne_iff_ne.mpr c24
           by_cases c25 : a0 = 22
           ·rw [if_pos c25] at H
            have c25b0 : (a0 == 22) = true := beq_iff_eq.mpr c25
            have c25b1 : (a0 != 22) = false := bne_eq_false_iff_eq.mpr c25
            clear c25
            obtain rfl := Option.some.inj H
            go_wp2
            go_ret
            exact ⟨by first | rfl | (simp; done) | (simp [*]; done), by repeat (first | exact Drawn0.refl _ | apply Drawn0.step)⟩
           ·rw [if_neg c25] at H
            have c25b0 : (a0 == 22) = false := beq_eq_false_iff_ne.mpr c25
            have c25b1 : (a0 != 22) = true := bne_iff_ne.mpr c25
            obtain rfl := Option.some.inj H
            go_wp2
            go_ret
            exact ⟨by first | rfl | (simp; done) | (simp [*]; done), by repeat (first | exact Drawn0.refl _ | apply Drawn0.step)⟩
end Go.Proofs.Ytedghbjmhcgilaa.POpt
end
