import Derived.Test.YtdplnbmioioniaaGreatQA5
section
namespace Go.Proofs.YtdplnbmioioniaaGreat.Pq
open Go.RowKit Go.Proofs.YtdplnbmioioniaaGreatW.PrintWords Go.Proofs.YtdplnbmioioniaaGreatW.PrintLast Go.Proofs.YtdplnbmioioniaaGreatW.PrintMore
attribute [local go_sem] max2_int min2_int max_two min_two max_three min_three max_four min_four
set_option linter.unusedVariables false
set_option linter.unusedSimpArgs false
attribute [local go_sem high] eqA59
def standbyref23_SameInts.l0 : Nat → List Int → List Int → Int → Option (Bool)
  | 0, _, _, _ => none
  | k + 1, x0, x1, x5 => if x5 < (x0.length : Int) then (if 0 ≤ x5 then (if x5 < (x1.length : Int) then (if (rd x0 x5) = (rd x1 x5) then (standbyref23_SameInts.l0 k x0 x1 (wrap64 (x5 + 1))) else (some false)) else (none)) else (none)) else (some true)
def standbyref23_SameInts.f (k : Nat) (l0 : List Int) (l1 : List Int) : Option (Bool) := if (l0.length : Int) = (l1.length : Int) then (standbyref23_SameInts.l0 k l0 l1 0) else (some false)
set_option maxHeartbeats 8000000 in
set_option maxRecDepth 100000 in
theorem standbyref23_SameInts.calls (k : Nat) (A0 : Option Addr) (c0 : Nat) (l0 : List Int) (A1 : Option Addr) (c1 : Nat) (l1 : List Int) (r : Bool) (w : World) (hr0 : Kd.C (Kd.int .i64) w A0 l0.length l0) (hc0 : l0.length ≤ c0) (hr1 : Kd.C (Kd.int .i64) w A1 l1.length l1) (hc1 : l1.length ≤ c1) (h : standbyref23_SameInts.f k l0 l1 = some r) :
    Calls Tryz.prog 15 #[.slice A0 l0.length c0, .slice A1 l1.length c1] w fun e w' => e = .returned (.bool r) ∧ Drawn0 w w' := by
  have HR0 := Aside0.mk hr0
  have HC0 := Aside0.mk hc0
  clear hr0 hc0
  have HR1 := Aside0.mk hr1
  have HC1 := Aside0.mk hc1
  clear hr1 hc1
  have H : (if (l0.length : Int) = (l1.length : Int) then (standbyref23_SameInts.l0 k l0 l1 0) else (some false)) = some r := h
  clear h
  by_cases c3 : (l0.length : Int) = (l1.length : Int)
  · rw [if_pos c3] at H
    have c3b0 : ((l0.length : Int) == (l1.length : Int)) = true := beq_iff_eq.mpr c3
    have c3b1 : ((l0.length : Int) != (l1.length : Int)) = false := bne_eq_false_iff_eq.mpr c3
    have c3b2 : (l0.length == l1.length) = true := by first | simpa using c3 | (simp at c3 ⊢; omega)
    clear c3
    have H' := Aside0.mk H
    clear H
    go_enter Tryz.func15, Tryz.ntmps15
    go_wp2
    repeat (go_quiet (fail); try go_wp2)
    go_loopg [5] k (fun kq v5 w' => ∃ (x5_1 : Int), v5 = .int .i64 x5_1 ∧ Aside0 (standbyref23_SameInts.l0 kq l0 l1 x5_1 = some r) ∧ Aside0 (kq ≤ k) ∧ Drawn0 w w')
    case atStart => exact ⟨(0), (by first | rfl | (simp; done) | (simp [*]; done)), H', ⟨Nat.le_refl _⟩, by repeat (first | exact Drawn0.refl _ | apply Drawn0.step)⟩
    case round =>
      clear H'
      try clear c1
      try clear p2
      try clear c3
      try clear c3b0
      try clear c3b1
      try clear c3b2
      obtain ⟨x5_1, rfl, HA, HK1, ⟨m1, rfl⟩⟩ := hrel
      cases gk with
      | zero => exact absurd HA.out (by simp [standbyref23_SameInts.l0])
      | succ k1 =>
        have H := HA.out
        clear HA
        simp only [standbyref23_SameInts.l0] at H
        by_cases c4 : x5_1 < (l0.length : Int)
        · rw [if_pos c4] at H
          have c4b0 : decide (x5_1 < (l0.length : Int)) = true := decide_eq_true c4
          clear c4
          by_cases c5 : 0 ≤ x5_1
          · rw [if_pos c5] at H
            have c5b0 : decide (0 ≤ x5_1) = true := decide_eq_true c5
            clear c5
            by_cases c6 : x5_1 < (l1.length : Int)
            · rw [if_pos c6] at H
              have c6b0 : decide (x5_1 < (l1.length : Int)) = true := decide_eq_true c6
              clear c6
              by_cases c7 : (rd l0 x5_1) = (rd l1 x5_1)
              · rw [if_pos c7] at H
                have c7b0 : ((rd l0 x5_1) == (rd l1 x5_1)) = true := beq_iff_eq.mpr c7
                have c7b1 : ((rd l0 x5_1) != (rd l1 x5_1)) = false := bne_eq_false_iff_eq.mpr c7
                clear c7
                have H' := Aside0.mk H
                clear H
                have p210 : 0 ≤ (x5_1 : Int) := of_decide_eq_true (by first | (with_reducible assumption) | assumption)
                have q210 : x5_1 < (l0.length : Int) := of_decide_eq_true (by first | (with_reducible assumption) | assumption)
                obtain ⟨ad210, e210, hx210_0⟩ := Kd.at_int HR0.out x5_1 p210 q210
                cases e210
                replace p210 := eq_true p210
                replace q210 := eq_true q210
                have p211 : 0 ≤ (x5_1 : Int) := of_decide_eq_true (by first | (with_reducible assumption) | assumption)
                have q211 : x5_1 < (l1.length : Int) := of_decide_eq_true (by first | (with_reducible assumption) | assumption)
                obtain ⟨ad211, e211, hx211_0⟩ := Kd.at_int HR1.out x5_1 p211 q211
                cases e211
                replace p211 := eq_true p211
                replace q211 := eq_true q211
                go_wp2
                repeat (go_quiet (fail); try go_wp2)
                go_roundg k1
                case measure => have := HK1.out; omega
                case rel => exact ⟨(wrap64 (x5_1 + 1)), (by first | rfl | (simp; done) | (simp [*]; done)), H', ⟨by have := HK1.out; omega⟩, by repeat (first | exact Drawn0.refl _ | apply Drawn0.step)⟩
              · rw [if_neg c7] at H
                have c7b0 : ((rd l0 x5_1) == (rd l1 x5_1)) = false := beq_eq_false_iff_ne.mpr c7
                have c7b1 : ((rd l0 x5_1) != (rd l1 x5_1)) = true := bne_iff_ne.mpr c7
                obtain rfl := Option.some.inj H
                have p210 : 0 ≤ (x5_1 : Int) := of_decide_eq_true (by first | (with_reducible assumption) | assumption)
                have q210 : x5_1 < (l0.length : Int) := of_decide_eq_true (by first | (with_reducible assumption) | assumption)
                obtain ⟨ad210, e210, hx210_0⟩ := Kd.at_int HR0.out x5_1 p210 q210
                cases e210
                replace p210 := eq_true p210
                replace q210 := eq_true q210
                have p211 : 0 ≤ (x5_1 : Int) := of_decide_eq_true (by first | (with_reducible assumption) | assumption)
                have q211 : x5_1 < (l1.length : Int) := of_decide_eq_true (by first | (with_reducible assumption) | assumption)
                obtain ⟨ad211, e211, hx211_0⟩ := Kd.at_int HR1.out x5_1 p211 q211
                cases e211
                replace p211 := eq_true p211
                replace q211 := eq_true q211
                go_wp2
                repeat (go_quiet (fail); try go_wp2)
                go_ret
                exact ⟨by first | rfl | (simp; done) | (simp [*]; done), by repeat (first | exact Drawn0.refl _ | apply Drawn0.step)⟩
            · rw [if_neg c6] at H
              exact absurd H (by simp)
          · rw [if_neg c5] at H
            exact absurd H (by simp)
        · rw [if_neg c4] at H
          have c4b0 : decide (x5_1 < (l0.length : Int)) = false := decide_eq_false c4
          clear c4
          obtain rfl := Option.some.inj H
          go_wp2
          repeat (go_quiet (fail); try go_wp2)
          go_ret
          exact ⟨by first | rfl | (simp; done) | (simp [*]; done), by repeat (first | exact Drawn0.refl _ | apply Drawn0.step)⟩
  · rw [if_neg c3] at H
    have c3b0 : ((l0.length : Int) == (l1.length : Int)) = false := beq_eq_false_iff_ne.mpr c3
    have c3b1 : ((l0.length : Int) != (l1.length : Int)) = true := bne_iff_ne.mpr c3
    have c3b2 : (l0.length == l1.length) = false := by first | simpa using c3 | (simp at c3 ⊢; omega)
    obtain rfl := Option.some.inj H
    go_enter Tryz.func15, Tryz.ntmps15
    go_wp2
    repeat (go_quiet (fail); try go_wp2)
    go_ret
    exact ⟨by first | rfl | (simp; done) | (simp [*]; done), by repeat (first | exact Drawn0.refl _ | apply Drawn0.step)⟩
mutual
def standbylaw45_differing.l0 : Nat → List (List (S59)) → List (List (S59)) → List (List (S61)) → Int → Int → Int → Option (Int × Int)
  | 0, _, _, _, _, _, _ => none
  | k + 1, x0, x1, x2, x8, x9, x10 => if x10 < (x0.length : Int) then (standbylaw45_differing.l1 k x0 x1 x2 x8 x9 x10 0) else (some (x8, x9))
def standbylaw45_differing.l1 : Nat → List (List (S59)) → List (List (S59)) → List (List (S61)) → Int → Int → Int → Int → Option (Int × Int)
  | 0, _, _, _, _, _, _, _ => none
  | k + 1, x0, x1, x2, x8, x9, x10, x11 => if 0 ≤ x10 then (if x10 < (x0.length : Int) then (if x11 < ((rd_L2 x0 x10).length : Int) then (if 0 ≤ x11 then (if x10 < (x1.length : Int) then (if x11 < ((rd_L2 x1 x10).length : Int) then (if (((rd_T59 (rd_L2 x0 x10) x11).f0) == ((rd_T59 (rd_L2 x1 x10) x11).f0) && (((rd_T59 (rd_L2 x0 x10) x11).f1) == ((rd_T59 (rd_L2 x1 x10) x11).f1) && (((rd_T59 (rd_L2 x0 x10) x11).f2) == ((rd_T59 (rd_L2 x1 x10) x11).f2) && (((rd_T59 (rd_L2 x0 x10) x11).f3) == ((rd_T59 (rd_L2 x1 x10) x11).f3) && (((rd_T59 (rd_L2 x0 x10) x11).f4) == ((rd_T59 (rd_L2 x1 x10) x11).f4) && (((rd_T59 (rd_L2 x0 x10) x11).f5) == ((rd_T59 (rd_L2 x1 x10) x11).f5) && (((rd_T59 (rd_L2 x0 x10) x11).f6) == ((rd_T59 (rd_L2 x1 x10) x11).f6) && (((rd_T59 (rd_L2 x0 x10) x11).f7) == ((rd_T59 (rd_L2 x1 x10) x11).f7))))))))) = true then (standbylaw45_differing.l1 k x0 x1 x2 x8 x9 x10 (wrap64 (x11 + 1))) else (if x10 < (x2.length : Int) then ((extent_Contains.f (rd_L7 x2 x10) x11).bind fun t218 => (if t218 = true then (standbylaw45_differing.l1 k x0 x1 x2 (wrap64 (x8 + 1)) x9 x10 (wrap64 (x11 + 1))) else (standbylaw45_differing.l1 k x0 x1 x2 (wrap64 (x8 + 1)) (wrap64 (x9 + 1)) x10 (wrap64 (x11 + 1))))) else (none))) else (none)) else (none)) else (none)) else (standbylaw45_differing.l0 k x0 x1 x2 x8 x9 (wrap64 (x10 + 1)))) else (none)) else (none)
end
def standbylaw45_differing.f (k : Nat) (l0 : List (List (S59))) (l1 : List (List (S59))) (l2 : List (List (S61))) : Option (Int × Int) := standbylaw45_differing.l0 k l0 l1 l2 0 0 0
set_option maxHeartbeats 8000000 in
set_option maxRecDepth 100000 in
theorem standbylaw45_differing.calls (k : Nat) (A0 : Option Addr) (c0 : Nat) (l0 : List (List (S59))) (A1 : Option Addr) (c1 : Nat) (l1 : List (List (S59))) (A2 : Option Addr) (c2 : Nat) (l2 : List (List (S61))) (r1 : Int) (r2 : Int) (w : World) (hr0 : Kd.C (Kd.slice 59 k59) w A0 l0.length l0) (hc0 : l0.length ≤ c0) (hr1 : Kd.C (Kd.slice 59 k59) w A1 l1.length l1) (hc1 : l1.length ≤ c1) (hr2 : Kd.C (Kd.slice 61 k61) w A2 l2.length l2) (hc2 : l2.length ≤ c2) (h : standbylaw45_differing.f k l0 l1 l2 = some (r1, r2)) :
    Calls Tryz.prog 17 #[.slice A0 l0.length c0, .slice A1 l1.length c1, .slice A2 l2.length c2] w fun e w' => e = .returned (.tuple #[.int .i64 r1, .int .i64 r2]) ∧ Below w.heap.size w w' := by
  have hu59 := Tryz.underlying59
  have HR0 := Aside0.mk hr0
  have HC0 := Aside0.mk hc0
  clear hr0 hc0
  have HR1 := Aside0.mk hr1
  have HC1 := Aside0.mk hc1
  clear hr1 hc1
  have HR2 := Aside0.mk hr2
  have HC2 := Aside0.mk hc2
  clear hr2 hc2
  have HB := Aside0.mk (Below.refl w.heap.size w)
  have H : (standbylaw45_differing.l0 k l0 l1 l2 0 0 0) = some (r1, r2) := h
  clear h
  have H' := Aside0.mk H
  clear H
  go_enter Tryz.func17, Tryz.ntmps17
  go_wp2
  repeat (go_quiet (fail); try go_wp2)
  go_loopg [8, 9, 10] k (fun kq v8 v9 v10 w' => ∃ (x8_1 : Int) (x9_1 : Int) (x10_1 : Int), v8 = .int .i64 x8_1 ∧ v9 = .int .i64 x9_1 ∧ v10 = .int .i64 x10_1 ∧ Aside0 (standbylaw45_differing.l0 kq l0 l1 l2 x8_1 x9_1 x10_1 = some (r1, r2)) ∧ Aside0 (kq ≤ k) ∧ Aside0 (Below w.heap.size w w'))
  case atStart => exact ⟨(0), (0), (0), (by first | rfl | (simp; done) | (simp [*]; done)), (by first | rfl | (simp; done) | (simp [*]; done)), (by first | rfl | (simp; done) | (simp [*]; done)), H', ⟨Nat.le_refl _⟩, ⟨by repeat (first | (with_reducible first | exact HB.out | apply below_alloc | apply pw_below_drewN | apply below_drew1) | exact HB.out)⟩⟩
  case round =>
    clear H'
    try clear c1
    try clear c2
    try clear p2
    obtain ⟨x8_1, x9_1, x10_1, rfl, rfl, rfl, HA, HK1, HB⟩ := hrel
    cases gk with
    | zero => exact absurd HA.out (by simp [standbylaw45_differing.l0])
    | succ k1 =>
      have H := HA.out
      clear HA
      simp only [standbylaw45_differing.l0] at H
      by_cases c4 : x10_1 < (l0.length : Int)
      · rw [if_pos c4] at H
        have c4b0 : decide (x10_1 < (l0.length : Int)) = true := decide_eq_true c4
        clear c4
        have H' := Aside0.mk H
        clear H
        go_wp2
        repeat (go_quiet (fail); try go_wp2)
        go_loopg [8, 9, 11] k1 (fun kq v8 v9 v11 w' => ∃ (x8_2 : Int) (x9_2 : Int) (x11_2 : Int), v8 = .int .i64 x8_2 ∧ v9 = .int .i64 x9_2 ∧ v11 = .int .i64 x11_2 ∧ Aside0 (standbylaw45_differing.l1 kq l0 l1 l2 x8_2 x9_2 x10_1 x11_2 = some (r1, r2)) ∧ Aside0 (kq ≤ k1) ∧ Aside0 (Below w.heap.size w w'))
        case atStart => exact ⟨(x8_1), (x9_1), (0), (by first | rfl | (simp; done) | (simp [*]; done)), (by first | rfl | (simp; done) | (simp [*]; done)), (by first | rfl | (simp; done) | (simp [*]; done)), H', ⟨Nat.le_refl _⟩, ⟨by repeat (first | (with_reducible first | exact HB.out | apply below_alloc | apply pw_below_drewN | apply below_drew1) | exact HB.out)⟩⟩
        case round =>
          clear H'
          try clear c1
          try clear c2
          try clear p2
          try clear c4
          try clear c4b0
          try clear p2
          obtain ⟨x8_2, x9_2, x11_2, rfl, rfl, rfl, HA, HK2, HB⟩ := hrel
          cases gk with
          | zero => exact absurd HA.out (by simp [standbylaw45_differing.l1])
          | succ k2 =>
            have H := HA.out
            clear HA
            simp only [standbylaw45_differing.l1] at H
            by_cases c5 : 0 ≤ x10_1
            · rw [if_pos c5] at H
              have c5b0 : decide (0 ≤ x10_1) = true := decide_eq_true c5
              clear c5
              by_cases c6 : x10_1 < (l0.length : Int)
              · rw [if_pos c6] at H
                have c6b0 : decide (x10_1 < (l0.length : Int)) = true := decide_eq_true c6
                clear c6
                by_cases c7 : x11_2 < ((rd_L2 l0 x10_1).length : Int)
                · rw [if_pos c7] at H
                  have c7b0 : decide (x11_2 < ((rd_L2 l0 x10_1).length : Int)) = true := decide_eq_true c7
                  clear c7
                  by_cases c8 : 0 ≤ x11_2
                  · rw [if_pos c8] at H
                    have c8b0 : decide (0 ≤ x11_2) = true := decide_eq_true c8
                    clear c8
                    by_cases c9 : x10_1 < (l1.length : Int)
                    · rw [if_pos c9] at H
                      have c9b0 : decide (x10_1 < (l1.length : Int)) = true := decide_eq_true c9
                      clear c9
                      by_cases c10 : x11_2 < ((rd_L2 l1 x10_1).length : Int)
                      · rw [if_pos c10] at H
                        have c10b0 : decide (x11_2 < ((rd_L2 l1 x10_1).length : Int)) = true := decide_eq_true c10
                        clear c10
                        by_cases c11 : (((rd_T59 (rd_L2 l0 x10_1) x11_2).f0) == ((rd_T59 (rd_L2 l1 x10_1) x11_2).f0) && (((rd_T59 (rd_L2 l0 x10_1) x11_2).f1) == ((rd_T59 (rd_L2 l1 x10_1) x11_2).f1) && (((rd_T59 (rd_L2 l0 x10_1) x11_2).f2) == ((rd_T59 (rd_L2 l1 x10_1) x11_2).f2) && (((rd_T59 (rd_L2 l0 x10_1) x11_2).f3) == ((rd_T59 (rd_L2 l1 x10_1) x11_2).f3) && (((rd_T59 (rd_L2 l0 x10_1) x11_2).f4) == ((rd_T59 (rd_L2 l1 x10_1) x11_2).f4) && (((rd_T59 (rd_L2 l0 x10_1) x11_2).f5) == ((rd_T59 (rd_L2 l1 x10_1) x11_2).f5) && (((rd_T59 (rd_L2 l0 x10_1) x11_2).f6) == ((rd_T59 (rd_L2 l1 x10_1) x11_2).f6) && (((rd_T59 (rd_L2 l0 x10_1) x11_2).f7) == ((rd_T59 (rd_L2 l1 x10_1) x11_2).f7))))))))) = true
                        · rw [if_pos c11] at H
                          have c11b0 : (((rd_T59 (rd_L2 l0 x10_1) x11_2).f0) == ((rd_T59 (rd_L2 l1 x10_1) x11_2).f0) && (((rd_T59 (rd_L2 l0 x10_1) x11_2).f1) == ((rd_T59 (rd_L2 l1 x10_1) x11_2).f1) && (((rd_T59 (rd_L2 l0 x10_1) x11_2).f2) == ((rd_T59 (rd_L2 l1 x10_1) x11_2).f2) && (((rd_T59 (rd_L2 l0 x10_1) x11_2).f3) == ((rd_T59 (rd_L2 l1 x10_1) x11_2).f3) && (((rd_T59 (rd_L2 l0 x10_1) x11_2).f4) == ((rd_T59 (rd_L2 l1 x10_1) x11_2).f4) && (((rd_T59 (rd_L2 l0 x10_1) x11_2).f5) == ((rd_T59 (rd_L2 l1 x10_1) x11_2).f5) && (((rd_T59 (rd_L2 l0 x10_1) x11_2).f6) == ((rd_T59 (rd_L2 l1 x10_1) x11_2).f6) && (((rd_T59 (rd_L2 l0 x10_1) x11_2).f7) == ((rd_T59 (rd_L2 l1 x10_1) x11_2).f7))))))))) = true := c11
                          (try (have c11b1 : decide (((rd_T59 (rd_L2 l0 x10_1) x11_2).f0) = ((rd_T59 (rd_L2 l1 x10_1) x11_2).f0) && (((rd_T59 (rd_L2 l0 x10_1) x11_2).f1) == ((rd_T59 (rd_L2 l1 x10_1) x11_2).f1) && (((rd_T59 (rd_L2 l0 x10_1) x11_2).f2) == ((rd_T59 (rd_L2 l1 x10_1) x11_2).f2) && (((rd_T59 (rd_L2 l0 x10_1) x11_2).f3) == ((rd_T59 (rd_L2 l1 x10_1) x11_2).f3) && (((rd_T59 (rd_L2 l0 x10_1) x11_2).f4) == ((rd_T59 (rd_L2 l1 x10_1) x11_2).f4) && (((rd_T59 (rd_L2 l0 x10_1) x11_2).f5) == ((rd_T59 (rd_L2 l1 x10_1) x11_2).f5) && (((rd_T59 (rd_L2 l0 x10_1) x11_2).f6) == ((rd_T59 (rd_L2 l1 x10_1) x11_2).f6) && (((rd_T59 (rd_L2 l0 x10_1) x11_2).f7) == ((rd_T59 (rd_L2 l1 x10_1) x11_2).f7))))))))) = true := by simpa using c11))
                          (try (have c11b2 : (((rd_T59 (rd_L2 l0 x10_1) x11_2).f0) == ((rd_T59 (rd_L2 l1 x10_1) x11_2).f0) && (((rd_T59 (rd_L2 l0 x10_1) x11_2).f1) == ((rd_T59 (rd_L2 l1 x10_1) x11_2).f1) && (((rd_T59 (rd_L2 l0 x10_1) x11_2).f2) == ((rd_T59 (rd_L2 l1 x10_1) x11_2).f2) && (((rd_T59 (rd_L2 l0 x10_1) x11_2).f3) == ((rd_T59 (rd_L2 l1 x10_1) x11_2).f3) && (((rd_T59 (rd_L2 l0 x10_1) x11_2).f4) == ((rd_T59 (rd_L2 l1 x10_1) x11_2).f4) && (((rd_T59 (rd_L2 l0 x10_1) x11_2).f5) == ((rd_T59 (rd_L2 l1 x10_1) x11_2).f5) && (((rd_T59 (rd_L2 l0 x10_1) x11_2).f6) == ((rd_T59 (rd_L2 l1 x10_1) x11_2).f6) && (((rd_T59 (rd_L2 l0 x10_1) x11_2).f7) == ((rd_T59 (rd_L2 l1 x10_1) x11_2).f7))))))))) = true := by simpa using c11))
                          clear c11
                          have H' := Aside0.mk H
                          clear H
                          have p212 : 0 ≤ (x10_1 : Int) := of_decide_eq_true (by first | (with_reducible assumption) | assumption)
                          have q212 : x10_1 < (l0.length : Int) := of_decide_eq_true (by first | (with_reducible assumption) | assumption)
                          obtain ⟨ad212, A212_0, c212_0, e212, hx212_0, hl212_0, hi212_0⟩ := at_L2 HR0.out x10_1 p212 q212
                          cases e212
                          replace hx212_0 := (HB.out.cell (World.block_lt_of_cell? w _ hx212_0)).trans hx212_0
                          have HR212_0 := Aside0.mk hi212_0
                          have HC212_0 := Aside0.mk hl212_0
                          clear hi212_0 hl212_0
                          replace p212 := eq_true p212
                          replace q212 := eq_true q212
                          have p213 : 0 ≤ (x10_1 : Int) := of_decide_eq_true (by first | (with_reducible assumption) | assumption)
                          have q213 : x10_1 < (l0.length : Int) := of_decide_eq_true (by first | (with_reducible assumption) | assumption)
                          obtain ⟨ad213, A213_0, c213_0, e213, hx213_0, hl213_0, hi213_0⟩ := at_L2 HR0.out x10_1 p213 q213
                          obtain rfl : ad212 = ad213 := (by injection e213)
                          replace hx213_0 := (HB.out.cell (World.block_lt_of_cell? w _ hx213_0)).trans hx213_0
                          have HR213_0 := Aside0.mk hi213_0
                          have HC213_0 := Aside0.mk hl213_0
                          clear hi213_0 hl213_0
                          replace p213 := eq_true p213
                          replace q213 := eq_true q213
                          have ea_ := Option.some.inj (hx212_0.symm.trans hx213_0)
                          injection ea_ with ea_ en_ ec_
                          subst ea_
                          subst ec_
                          clear en_
                          have p214 : 0 ≤ (x11_2 : Int) := of_decide_eq_true (by first | (with_reducible assumption) | assumption)
                          have q214 : x11_2 < ((rd_L2 l0 x10_1).length : Int) := of_decide_eq_true (by first | (with_reducible assumption) | assumption)
                          obtain ⟨ad214, e214, hx214_0, hx214_1, hx214_2, hx214_3, hx214_4, hx214_5, hx214_6, hx214_7⟩ := at_T59 HR213_0.out x11_2 p214 q214
                          cases e214
                          replace hx214_0 := (HB.out.cell (World.block_lt_of_cell? w _ hx214_0)).trans hx214_0
                          replace hx214_1 := (HB.out.cell (World.block_lt_of_cell? w _ hx214_1)).trans hx214_1
                          replace hx214_2 := (HB.out.cell (World.block_lt_of_cell? w _ hx214_2)).trans hx214_2
                          replace hx214_3 := (HB.out.cell (World.block_lt_of_cell? w _ hx214_3)).trans hx214_3
                          replace hx214_4 := (HB.out.cell (World.block_lt_of_cell? w _ hx214_4)).trans hx214_4
                          replace hx214_5 := (HB.out.cell (World.block_lt_of_cell? w _ hx214_5)).trans hx214_5
                          replace hx214_6 := (HB.out.cell (World.block_lt_of_cell? w _ hx214_6)).trans hx214_6
                          replace hx214_7 := (HB.out.cell (World.block_lt_of_cell? w _ hx214_7)).trans hx214_7
                          replace p214 := eq_true p214
                          replace q214 := eq_true q214
                          have p215 : 0 ≤ (x10_1 : Int) := of_decide_eq_true (by first | (with_reducible assumption) | assumption)
                          have q215 : x10_1 < (l1.length : Int) := of_decide_eq_true (by first | (with_reducible assumption) | assumption)
                          obtain ⟨ad215, A215_0, c215_0, e215, hx215_0, hl215_0, hi215_0⟩ := at_L2 HR1.out x10_1 p215 q215
                          cases e215
                          replace hx215_0 := (HB.out.cell (World.block_lt_of_cell? w _ hx215_0)).trans hx215_0
                          have HR215_0 := Aside0.mk hi215_0
                          have HC215_0 := Aside0.mk hl215_0
                          clear hi215_0 hl215_0
                          replace p215 := eq_true p215
                          replace q215 := eq_true q215
                          have p216 : 0 ≤ (x11_2 : Int) := of_decide_eq_true (by first | (with_reducible assumption) | assumption)
                          have q216 : x11_2 < ((rd_L2 l1 x10_1).length : Int) := of_decide_eq_true (by first | (with_reducible assumption) | assumption)
                          obtain ⟨ad216, e216, hx216_0, hx216_1, hx216_2, hx216_3, hx216_4, hx216_5, hx216_6, hx216_7⟩ := at_T59 HR215_0.out x11_2 p216 q216
                          cases e216
                          replace hx216_0 := (HB.out.cell (World.block_lt_of_cell? w _ hx216_0)).trans hx216_0
                          replace hx216_1 := (HB.out.cell (World.block_lt_of_cell? w _ hx216_1)).trans hx216_1
                          replace hx216_2 := (HB.out.cell (World.block_lt_of_cell? w _ hx216_2)).trans hx216_2
                          replace hx216_3 := (HB.out.cell (World.block_lt_of_cell? w _ hx216_3)).trans hx216_3
                          replace hx216_4 := (HB.out.cell (World.block_lt_of_cell? w _ hx216_4)).trans hx216_4
                          replace hx216_5 := (HB.out.cell (World.block_lt_of_cell? w _ hx216_5)).trans hx216_5
                          replace hx216_6 := (HB.out.cell (World.block_lt_of_cell? w _ hx216_6)).trans hx216_6
                          replace hx216_7 := (HB.out.cell (World.block_lt_of_cell? w _ hx216_7)).trans hx216_7
                          replace p216 := eq_true p216
                          replace q216 := eq_true q216
                          go_wp2
                          repeat (go_quiet (fail); try go_wp2)
                          go_roundg k2
                          case measure => have := HK1.out; have := HK2.out; omega
                          case rel => exact ⟨(x8_2), (x9_2), (wrap64 (x11_2 + 1)), (by first | rfl | (simp; done) | (simp [*]; done)), (by first | rfl | (simp; done) | (simp [*]; done)), (by first | rfl | (simp; done) | (simp [*]; done)), H', ⟨by have := HK1.out; have := HK2.out; omega⟩, ⟨by repeat (first | (with_reducible first | exact HB.out | apply below_alloc | apply pw_below_drewN | apply below_drew1) | exact HB.out)⟩⟩
                        · rw [if_neg c11] at H
                          have c11b0 : (((rd_T59 (rd_L2 l0 x10_1) x11_2).f0) == ((rd_T59 (rd_L2 l1 x10_1) x11_2).f0) && (((rd_T59 (rd_L2 l0 x10_1) x11_2).f1) == ((rd_T59 (rd_L2 l1 x10_1) x11_2).f1) && (((rd_T59 (rd_L2 l0 x10_1) x11_2).f2) == ((rd_T59 (rd_L2 l1 x10_1) x11_2).f2) && (((rd_T59 (rd_L2 l0 x10_1) x11_2).f3) == ((rd_T59 (rd_L2 l1 x10_1) x11_2).f3) && (((rd_T59 (rd_L2 l0 x10_1) x11_2).f4) == ((rd_T59 (rd_L2 l1 x10_1) x11_2).f4) && (((rd_T59 (rd_L2 l0 x10_1) x11_2).f5) == ((rd_T59 (rd_L2 l1 x10_1) x11_2).f5) && (((rd_T59 (rd_L2 l0 x10_1) x11_2).f6) == ((rd_T59 (rd_L2 l1 x10_1) x11_2).f6) && (((rd_T59 (rd_L2 l0 x10_1) x11_2).f7) == ((rd_T59 (rd_L2 l1 x10_1) x11_2).f7))))))))) = false := by simpa using c11
                          (try (have c11b1 : decide (((rd_T59 (rd_L2 l0 x10_1) x11_2).f0) = ((rd_T59 (rd_L2 l1 x10_1) x11_2).f0) && (((rd_T59 (rd_L2 l0 x10_1) x11_2).f1) == ((rd_T59 (rd_L2 l1 x10_1) x11_2).f1) && (((rd_T59 (rd_L2 l0 x10_1) x11_2).f2) == ((rd_T59 (rd_L2 l1 x10_1) x11_2).f2) && (((rd_T59 (rd_L2 l0 x10_1) x11_2).f3) == ((rd_T59 (rd_L2 l1 x10_1) x11_2).f3) && (((rd_T59 (rd_L2 l0 x10_1) x11_2).f4) == ((rd_T59 (rd_L2 l1 x10_1) x11_2).f4) && (((rd_T59 (rd_L2 l0 x10_1) x11_2).f5) == ((rd_T59 (rd_L2 l1 x10_1) x11_2).f5) && (((rd_T59 (rd_L2 l0 x10_1) x11_2).f6) == ((rd_T59 (rd_L2 l1 x10_1) x11_2).f6) && (((rd_T59 (rd_L2 l0 x10_1) x11_2).f7) == ((rd_T59 (rd_L2 l1 x10_1) x11_2).f7))))))))) = false := by simpa using c11))
                          (try (have c11b2 : (((rd_T59 (rd_L2 l0 x10_1) x11_2).f0) == ((rd_T59 (rd_L2 l1 x10_1) x11_2).f0) && (((rd_T59 (rd_L2 l0 x10_1) x11_2).f1) == ((rd_T59 (rd_L2 l1 x10_1) x11_2).f1) && (((rd_T59 (rd_L2 l0 x10_1) x11_2).f2) == ((rd_T59 (rd_L2 l1 x10_1) x11_2).f2) && (((rd_T59 (rd_L2 l0 x10_1) x11_2).f3) == ((rd_T59 (rd_L2 l1 x10_1) x11_2).f3) && (((rd_T59 (rd_L2 l0 x10_1) x11_2).f4) == ((rd_T59 (rd_L2 l1 x10_1) x11_2).f4) && (((rd_T59 (rd_L2 l0 x10_1) x11_2).f5) == ((rd_T59 (rd_L2 l1 x10_1) x11_2).f5) && (((rd_T59 (rd_L2 l0 x10_1) x11_2).f6) == ((rd_T59 (rd_L2 l1 x10_1) x11_2).f6) && (((rd_T59 (rd_L2 l0 x10_1) x11_2).f7) == ((rd_T59 (rd_L2 l1 x10_1) x11_2).f7))))))))) = false := by simpa using c11))
                          (try (have c11b3 : ¬ (((rd_T59 (rd_L2 l0 x10_1) x11_2).f0) = ((rd_T59 (rd_L2 l1 x10_1) x11_2).f0) && (((rd_T59 (rd_L2 l0 x10_1) x11_2).f1) == ((rd_T59 (rd_L2 l1 x10_1) x11_2).f1) && (((rd_T59 (rd_L2 l0 x10_1) x11_2).f2) == ((rd_T59 (rd_L2 l1 x10_1) x11_2).f2) && (((rd_T59 (rd_L2 l0 x10_1) x11_2).f3) == ((rd_T59 (rd_L2 l1 x10_1) x11_2).f3) && (((rd_T59 (rd_L2 l0 x10_1) x11_2).f4) == ((rd_T59 (rd_L2 l1 x10_1) x11_2).f4) && (((rd_T59 (rd_L2 l0 x10_1) x11_2).f5) == ((rd_T59 (rd_L2 l1 x10_1) x11_2).f5) && (((rd_T59 (rd_L2 l0 x10_1) x11_2).f6) == ((rd_T59 (rd_L2 l1 x10_1) x11_2).f6) && (((rd_T59 (rd_L2 l0 x10_1) x11_2).f7) == ((rd_T59 (rd_L2 l1 x10_1) x11_2).f7))))))))) := by simpa using c11))
                          clear c11
                          by_cases c12 : x10_1 < (l2.length : Int)
                          · rw [if_pos c12] at H
                            have c12b0 : decide (x10_1 < (l2.length : Int)) = true := decide_eq_true c12
                            clear c12
                            replace H := Option.bind_eq_some_iff.mp H
                            obtain ⟨t218, A130, H⟩ := H
                            replace H : (if t218 = true then (standbylaw45_differing.l1 k2 l0 l1 l2 (wrap64 (x8_2 + 1)) x9_2 x10_1 (wrap64 (x11_2 + 1))) else (standbylaw45_differing.l1 k2 l0 l1 l2 (wrap64 (x8_2 + 1)) (wrap64 (x9_2 + 1)) x10_1 (wrap64 (x11_2 + 1)))) = some (r1, r2) := H
                            have A13 := Aside0.mk A130
                            clear A130
                            by_cases c14 : t218 = true
                            · subst c14
                              have H1 : (standbylaw45_differing.l1 k2 l0 l1 l2 (wrap64 (x8_2 + 1)) x9_2 x10_1 (wrap64 (x11_2 + 1))) = some (r1, r2) := by rw [if_pos rfl] at H; exact H
                              clear H
                              have H := H1
                              clear H1
                              have H' := Aside0.mk H
                              clear H
                              have p212 : 0 ≤ (x10_1 : Int) := of_decide_eq_true (by first | (with_reducible assumption) | assumption)
                              have q212 : x10_1 < (l0.length : Int) := of_decide_eq_true (by first | (with_reducible assumption) | assumption)
                              obtain ⟨ad212, A212_0, c212_0, e212, hx212_0, hl212_0, hi212_0⟩ := at_L2 HR0.out x10_1 p212 q212
                              cases e212
                              replace hx212_0 := (HB.out.cell (World.block_lt_of_cell? w _ hx212_0)).trans hx212_0
                              have HR212_0 := Aside0.mk hi212_0
                              have HC212_0 := Aside0.mk hl212_0
                              clear hi212_0 hl212_0
                              replace p212 := eq_true p212
                              replace q212 := eq_true q212
                              have p213 : 0 ≤ (x10_1 : Int) := of_decide_eq_true (by first | (with_reducible assumption) | assumption)
                              have q213 : x10_1 < (l0.length : Int) := of_decide_eq_true (by first | (with_reducible assumption) | assumption)
                              obtain ⟨ad213, A213_0, c213_0, e213, hx213_0, hl213_0, hi213_0⟩ := at_L2 HR0.out x10_1 p213 q213
                              obtain rfl : ad212 = ad213 := (by injection e213)
                              replace hx213_0 := (HB.out.cell (World.block_lt_of_cell? w _ hx213_0)).trans hx213_0
                              have HR213_0 := Aside0.mk hi213_0
                              have HC213_0 := Aside0.mk hl213_0
                              clear hi213_0 hl213_0
                              replace p213 := eq_true p213
                              replace q213 := eq_true q213
                              have ea_ := Option.some.inj (hx212_0.symm.trans hx213_0)
                              injection ea_ with ea_ en_ ec_
                              subst ea_
                              subst ec_
                              clear en_
                              have p214 : 0 ≤ (x11_2 : Int) := of_decide_eq_true (by first | (with_reducible assumption) | assumption)
                              have q214 : x11_2 < ((rd_L2 l0 x10_1).length : Int) := of_decide_eq_true (by first | (with_reducible assumption) | assumption)
                              obtain ⟨ad214, e214, hx214_0, hx214_1, hx214_2, hx214_3, hx214_4, hx214_5, hx214_6, hx214_7⟩ := at_T59 HR213_0.out x11_2 p214 q214
                              cases e214
                              replace hx214_0 := (HB.out.cell (World.block_lt_of_cell? w _ hx214_0)).trans hx214_0
                              replace hx214_1 := (HB.out.cell (World.block_lt_of_cell? w _ hx214_1)).trans hx214_1
                              replace hx214_2 := (HB.out.cell (World.block_lt_of_cell? w _ hx214_2)).trans hx214_2
                              replace hx214_3 := (HB.out.cell (World.block_lt_of_cell? w _ hx214_3)).trans hx214_3
                              replace hx214_4 := (HB.out.cell (World.block_lt_of_cell? w _ hx214_4)).trans hx214_4
                              replace hx214_5 := (HB.out.cell (World.block_lt_of_cell? w _ hx214_5)).trans hx214_5
                              replace hx214_6 := (HB.out.cell (World.block_lt_of_cell? w _ hx214_6)).trans hx214_6
                              replace hx214_7 := (HB.out.cell (World.block_lt_of_cell? w _ hx214_7)).trans hx214_7
                              replace p214 := eq_true p214
                              replace q214 := eq_true q214
                              have p215 : 0 ≤ (x10_1 : Int) := of_decide_eq_true (by first | (with_reducible assumption) | assumption)
                              have q215 : x10_1 < (l1.length : Int) := of_decide_eq_true (by first | (with_reducible assumption) | assumption)
                              obtain ⟨ad215, A215_0, c215_0, e215, hx215_0, hl215_0, hi215_0⟩ := at_L2 HR1.out x10_1 p215 q215
                              cases e215
                              replace hx215_0 := (HB.out.cell (World.block_lt_of_cell? w _ hx215_0)).trans hx215_0
                              have HR215_0 := Aside0.mk hi215_0
                              have HC215_0 := Aside0.mk hl215_0
                              clear hi215_0 hl215_0
                              replace p215 := eq_true p215
                              replace q215 := eq_true q215
                              have p216 : 0 ≤ (x11_2 : Int) := of_decide_eq_true (by first | (with_reducible assumption) | assumption)
                              have q216 : x11_2 < ((rd_L2 l1 x10_1).length : Int) := of_decide_eq_true (by first | (with_reducible assumption) | assumption)
                              obtain ⟨ad216, e216, hx216_0, hx216_1, hx216_2, hx216_3, hx216_4, hx216_5, hx216_6, hx216_7⟩ := at_T59 HR215_0.out x11_2 p216 q216
                              cases e216
                              replace hx216_0 := (HB.out.cell (World.block_lt_of_cell? w _ hx216_0)).trans hx216_0
                              replace hx216_1 := (HB.out.cell (World.block_lt_of_cell? w _ hx216_1)).trans hx216_1
                              replace hx216_2 := (HB.out.cell (World.block_lt_of_cell? w _ hx216_2)).trans hx216_2
                              replace hx216_3 := (HB.out.cell (World.block_lt_of_cell? w _ hx216_3)).trans hx216_3
                              replace hx216_4 := (HB.out.cell (World.block_lt_of_cell? w _ hx216_4)).trans hx216_4
                              replace hx216_5 := (HB.out.cell (World.block_lt_of_cell? w _ hx216_5)).trans hx216_5
                              replace hx216_6 := (HB.out.cell (World.block_lt_of_cell? w _ hx216_6)).trans hx216_6
                              replace hx216_7 := (HB.out.cell (World.block_lt_of_cell? w _ hx216_7)).trans hx216_7
                              replace p216 := eq_true p216
                              replace q216 := eq_true q216
                              have p217 : 0 ≤ (x10_1 : Int) := of_decide_eq_true (by first | (with_reducible assumption) | assumption)
                              have q217 : x10_1 < (l2.length : Int) := of_decide_eq_true (by first | (with_reducible assumption) | assumption)
                              obtain ⟨ad217, A217_0, c217_0, e217, hx217_0, hl217_0, hi217_0⟩ := at_L7 HR2.out x10_1 p217 q217
                              cases e217
                              replace hx217_0 := (HB.out.cell (World.block_lt_of_cell? w _ hx217_0)).trans hx217_0
                              have HR217_0 := Aside0.mk hi217_0
                              have HC217_0 := Aside0.mk hl217_0
                              clear hi217_0 hl217_0
                              replace p217 := eq_true p217
                              replace q217 := eq_true q217
                              go_wp2_with (first | (go_at_call 41; (with_reducible refine (extent_Contains.calls _ _ (rd_L7 l2 x10_1) x11_2 true _ ?side1 ?side2 A13.out).mono ?_); (case side1 => repeat (first | exact (Kd.C_below HR217_0.out HB.out) | (with_reducible refine Kd.C_alloc ?_ _) | (with_reducible refine Kd.C_drewN ?_ _) | (with_reducible refine Kd.C_drew ?_))); (case side2 => exact HC217_0.out); rintro e w15 ⟨rfl, hb⟩; have n0_ := Aside0.mk (below_step (by repeat (first | (with_reducible first | exact HB.out | apply below_alloc | apply pw_below_drewN | apply below_drew1) | exact HB.out)) hb); clear HB; have HB := n0_; clear n0_; (try clear hb); (try clear hb2); (try clear hk); (try clear hi)))
                              repeat (go_quiet (first | (go_at_call 41; (with_reducible refine (extent_Contains.calls _ _ (rd_L7 l2 x10_1) x11_2 true _ ?side1 ?side2 A13.out).mono ?_); (case side1 => repeat (first | exact (Kd.C_below HR217_0.out HB.out) | (with_reducible refine Kd.C_alloc ?_ _) | (with_reducible refine Kd.C_drewN ?_ _) | (with_reducible refine Kd.C_drew ?_))); (case side2 => exact HC217_0.out); rintro e w15 ⟨rfl, hb⟩; have n0_ := Aside0.mk (below_step (by repeat (first | (with_reducible first | exact HB.out | apply below_alloc | apply pw_below_drewN | apply below_drew1) | exact HB.out)) hb); clear HB; have HB := n0_; clear n0_; (try clear hb); (try clear hb2); (try clear hk); (try clear hi))); try go_wp2_with (first | (go_at_call 41; (with_reducible refine (extent_Contains.calls _ _ (rd_L7 l2 x10_1) x11_2 true _ ?side1 ?side2 A13.out).mono ?_); (case side1 => repeat (first | exact (Kd.C_below HR217_0.out HB.out) | (with_reducible refine Kd.C_alloc ?_ _) | (with_reducible refine Kd.C_drewN ?_ _) | (with_reducible refine Kd.C_drew ?_))); (case side2 => exact HC217_0.out); rintro e w15 ⟨rfl, hb⟩; have n0_ := Aside0.mk (below_step (by repeat (first | (with_reducible first | exact HB.out | apply below_alloc | apply pw_below_drewN | apply below_drew1) | exact HB.out)) hb); clear HB; have HB := n0_; clear n0_; (try clear hb); (try clear hb2); (try clear hk); (try clear hi))))
                              go_roundg k2
                              case measure => have := HK1.out; have := HK2.out; omega
                              case rel => exact ⟨(wrap64 (x8_2 + 1)), (x9_2), (wrap64 (x11_2 + 1)), (by first | rfl | (simp; done) | (simp [*]; done)), (by first | rfl | (simp; done) | (simp [*]; done)), (by first | rfl | (simp; done) | (simp [*]; done)), H', ⟨by have := HK1.out; have := HK2.out; omega⟩, ⟨by repeat (first | (with_reducible first | exact HB.out | apply below_alloc | apply pw_below_drewN | apply below_drew1) | exact HB.out)⟩⟩
                            · replace c14 := Bool.eq_false_iff.mpr c14
                              subst c14
                              have H1 : (standbylaw45_differing.l1 k2 l0 l1 l2 (wrap64 (x8_2 + 1)) (wrap64 (x9_2 + 1)) x10_1 (wrap64 (x11_2 + 1))) = some (r1, r2) := by rw [if_neg (show ¬ (false = true) by decide)] at H; exact H
                              clear H
                              have H := H1
                              clear H1
                              have H' := Aside0.mk H
                              clear H
                              have p212 : 0 ≤ (x10_1 : Int) := of_decide_eq_true (by first | (with_reducible assumption) | assumption)
                              have q212 : x10_1 < (l0.length : Int) := of_decide_eq_true (by first | (with_reducible assumption) | assumption)
                              obtain ⟨ad212, A212_0, c212_0, e212, hx212_0, hl212_0, hi212_0⟩ := at_L2 HR0.out x10_1 p212 q212
                              cases e212
                              replace hx212_0 := (HB.out.cell (World.block_lt_of_cell? w _ hx212_0)).trans hx212_0
                              have HR212_0 := Aside0.mk hi212_0
                              have HC212_0 := Aside0.mk hl212_0
                              clear hi212_0 hl212_0
                              replace p212 := eq_true p212
                              replace q212 := eq_true q212
                              have p213 : 0 ≤ (x10_1 : Int) := of_decide_eq_true (by first | (with_reducible assumption) | assumption)
                              have q213 : x10_1 < (l0.length : Int) := of_decide_eq_true (by first | (with_reducible assumption) | assumption)
                              obtain ⟨ad213, A213_0, c213_0, e213, hx213_0, hl213_0, hi213_0⟩ := at_L2 HR0.out x10_1 p213 q213
                              obtain rfl : ad212 = ad213 := (by injection e213)
                              replace hx213_0 := (HB.out.cell (World.block_lt_of_cell? w _ hx213_0)).trans hx213_0
                              have HR213_0 := Aside0.mk hi213_0
                              have HC213_0 := Aside0.mk hl213_0
                              clear hi213_0 hl213_0
                              replace p213 := eq_true p213
                              replace q213 := eq_true q213
                              have ea_ := Option.some.inj (hx212_0.symm.trans hx213_0)
                              injection ea_ with ea_ en_ ec_
                              subst ea_
                              subst ec_
                              clear en_
                              have p214 : 0 ≤ (x11_2 : Int) := of_decide_eq_true (by first | (with_reducible assumption) | assumption)
                              have q214 : x11_2 < ((rd_L2 l0 x10_1).length : Int) := of_decide_eq_true (by first | (with_reducible assumption) | assumption)
                              obtain ⟨ad214, e214, hx214_0, hx214_1, hx214_2, hx214_3, hx214_4, hx214_5, hx214_6, hx214_7⟩ := at_T59 HR213_0.out x11_2 p214 q214
                              cases e214
                              replace hx214_0 := (HB.out.cell (World.block_lt_of_cell? w _ hx214_0)).trans hx214_0
                              replace hx214_1 := (HB.out.cell (World.block_lt_of_cell? w _ hx214_1)).trans hx214_1
                              replace hx214_2 := (HB.out.cell (World.block_lt_of_cell? w _ hx214_2)).trans hx214_2
                              replace hx214_3 := (HB.out.cell (World.block_lt_of_cell? w _ hx214_3)).trans hx214_3
                              replace hx214_4 := (HB.out.cell (World.block_lt_of_cell? w _ hx214_4)).trans hx214_4
                              replace hx214_5 := (HB.out.cell (World.block_lt_of_cell? w _ hx214_5)).trans hx214_5
                              replace hx214_6 := (HB.out.cell (World.block_lt_of_cell? w _ hx214_6)).trans hx214_6
                              replace hx214_7 := (HB.out.cell (World.block_lt_of_cell? w _ hx214_7)).trans hx214_7
                              replace p214 := eq_true p214
                              replace q214 := eq_true q214
                              have p215 : 0 ≤ (x10_1 : Int) := of_decide_eq_true (by first | (with_reducible assumption) | assumption)
                              have q215 : x10_1 < (l1.length : Int) := of_decide_eq_true (by first | (with_reducible assumption) | assumption)
                              obtain ⟨ad215, A215_0, c215_0, e215, hx215_0, hl215_0, hi215_0⟩ := at_L2 HR1.out x10_1 p215 q215
                              cases e215
                              replace hx215_0 := (HB.out.cell (World.block_lt_of_cell? w _ hx215_0)).trans hx215_0
                              have HR215_0 := Aside0.mk hi215_0
                              have HC215_0 := Aside0.mk hl215_0
                              clear hi215_0 hl215_0
                              replace p215 := eq_true p215
                              replace q215 := eq_true q215
                              have p216 : 0 ≤ (x11_2 : Int) := of_decide_eq_true (by first | (with_reducible assumption) | assumption)
                              have q216 : x11_2 < ((rd_L2 l1 x10_1).length : Int) := of_decide_eq_true (by first | (with_reducible assumption) | assumption)
                              obtain ⟨ad216, e216, hx216_0, hx216_1, hx216_2, hx216_3, hx216_4, hx216_5, hx216_6, hx216_7⟩ := at_T59 HR215_0.out x11_2 p216 q216
                              cases e216
                              replace hx216_0 := (HB.out.cell (World.block_lt_of_cell? w _ hx216_0)).trans hx216_0
                              replace hx216_1 := (HB.out.cell (World.block_lt_of_cell? w _ hx216_1)).trans hx216_1
                              replace hx216_2 := (HB.out.cell (World.block_lt_of_cell? w _ hx216_2)).trans hx216_2
                              replace hx216_3 := (HB.out.cell (World.block_lt_of_cell? w _ hx216_3)).trans hx216_3
                              replace hx216_4 := (HB.out.cell (World.block_lt_of_cell? w _ hx216_4)).trans hx216_4
                              replace hx216_5 := (HB.out.cell (World.block_lt_of_cell? w _ hx216_5)).trans hx216_5
                              replace hx216_6 := (HB.out.cell (World.block_lt_of_cell? w _ hx216_6)).trans hx216_6
                              replace hx216_7 := (HB.out.cell (World.block_lt_of_cell? w _ hx216_7)).trans hx216_7
                              replace p216 := eq_true p216
                              replace q216 := eq_true q216
                              have p217 : 0 ≤ (x10_1 : Int) := of_decide_eq_true (by first | (with_reducible assumption) | assumption)
                              have q217 : x10_1 < (l2.length : Int) := of_decide_eq_true (by first | (with_reducible assumption) | assumption)
                              obtain ⟨ad217, A217_0, c217_0, e217, hx217_0, hl217_0, hi217_0⟩ := at_L7 HR2.out x10_1 p217 q217
                              cases e217
                              replace hx217_0 := (HB.out.cell (World.block_lt_of_cell? w _ hx217_0)).trans hx217_0
                              have HR217_0 := Aside0.mk hi217_0
                              have HC217_0 := Aside0.mk hl217_0
                              clear hi217_0 hl217_0
                              replace p217 := eq_true p217
                              replace q217 := eq_true q217
                              go_wp2_with (first | (go_at_call 41; (with_reducible refine (extent_Contains.calls _ _ (rd_L7 l2 x10_1) x11_2 false _ ?side1 ?side2 A13.out).mono ?_); (case side1 => repeat (first | exact (Kd.C_below HR217_0.out HB.out) | (with_reducible refine Kd.C_alloc ?_ _) | (with_reducible refine Kd.C_drewN ?_ _) | (with_reducible refine Kd.C_drew ?_))); (case side2 => exact HC217_0.out); rintro e w16 ⟨rfl, hb⟩; have n0_ := Aside0.mk (below_step (by repeat (first | (with_reducible first | exact HB.out | apply below_alloc | apply pw_below_drewN | apply below_drew1) | exact HB.out)) hb); clear HB; have HB := n0_; clear n0_; (try clear hb); (try clear hb2); (try clear hk); (try clear hi)))
                              repeat (go_quiet (first | (go_at_call 41; (with_reducible refine (extent_Contains.calls _ _ (rd_L7 l2 x10_1) x11_2 false _ ?side1 ?side2 A13.out).mono ?_); (case side1 => repeat (first | exact (Kd.C_below HR217_0.out HB.out) | (with_reducible refine Kd.C_alloc ?_ _) | (with_reducible refine Kd.C_drewN ?_ _) | (with_reducible refine Kd.C_drew ?_))); (case side2 => exact HC217_0.out); rintro e w16 ⟨rfl, hb⟩; have n0_ := Aside0.mk (below_step (by repeat (first | (with_reducible first | exact HB.out | apply below_alloc | apply pw_below_drewN | apply below_drew1) | exact HB.out)) hb); clear HB; have HB := n0_; clear n0_; (try clear hb); (try clear hb2); (try clear hk); (try clear hi))); try go_wp2_with (first | (go_at_call 41; (with_reducible refine (extent_Contains.calls _ _ (rd_L7 l2 x10_1) x11_2 false _ ?side1 ?side2 A13.out).mono ?_); (case side1 => repeat (first | exact (Kd.C_below HR217_0.out HB.out) | (with_reducible refine Kd.C_alloc ?_ _) | (with_reducible refine Kd.C_drewN ?_ _) | (with_reducible refine Kd.C_drew ?_))); (case side2 => exact HC217_0.out); rintro e w16 ⟨rfl, hb⟩; have n0_ := Aside0.mk (below_step (by repeat (first | (with_reducible first | exact HB.out | apply below_alloc | apply pw_below_drewN | apply below_drew1) | exact HB.out)) hb); clear HB; have HB := n0_; clear n0_; (try clear hb); (try clear hb2); (try clear hk); (try clear hi))))
                              go_roundg k2
                              case measure => have := HK1.out; have := HK2.out; omega
                              case rel => exact ⟨(wrap64 (x8_2 + 1)), (wrap64 (x9_2 + 1)), (wrap64 (x11_2 + 1)), (by first | rfl | (simp; done) | (simp [*]; done)), (by first | rfl | (simp; done) | (simp [*]; done)), (by first | rfl | (simp; done) | (simp [*]; done)), H', ⟨by have := HK1.out; have := HK2.out; omega⟩, ⟨by repeat (first | (with_reducible first | exact HB.out | apply below_alloc | apply pw_below_drewN | apply below_drew1) | exact HB.out)⟩⟩
                          · rw [if_neg c12] at H
                            exact absurd H (by simp)
                      · rw [if_neg c10] at H
                        exact absurd H (by simp)
                    · rw [if_neg c9] at H
                      exact absurd H (by simp)
                  · rw [if_neg c8] at H
                    exact absurd H (by simp)
                · rw [if_neg c7] at H
                  have c7b0 : decide (x11_2 < ((rd_L2 l0 x10_1).length : Int)) = false := decide_eq_false c7
                  clear c7
                  have H' := Aside0.mk H
                  clear H
                  have p212 : 0 ≤ (x10_1 : Int) := of_decide_eq_true (by first | (with_reducible assumption) | assumption)
                  have q212 : x10_1 < (l0.length : Int) := of_decide_eq_true (by first | (with_reducible assumption) | assumption)
                  obtain ⟨ad212, A212_0, c212_0, e212, hx212_0, hl212_0, hi212_0⟩ := at_L2 HR0.out x10_1 p212 q212
                  cases e212
                  replace hx212_0 := (HB.out.cell (World.block_lt_of_cell? w _ hx212_0)).trans hx212_0
                  have HR212_0 := Aside0.mk hi212_0
                  have HC212_0 := Aside0.mk hl212_0
                  clear hi212_0 hl212_0
                  replace p212 := eq_true p212
                  replace q212 := eq_true q212
                  go_wp2
                  repeat (go_quiet (fail); try go_wp2)
                  go_roundg k2
                  case measure => have := HK1.out; have := HK2.out; omega
                  case rel => exact ⟨(x8_2), (x9_2), (wrap64 (x10_1 + 1)), (by first | rfl | (simp; done) | (simp [*]; done)), (by first | rfl | (simp; done) | (simp [*]; done)), (by first | rfl | (simp; done) | (simp [*]; done)), H', ⟨by have := HK1.out; have := HK2.out; omega⟩, ⟨by repeat (first | (with_reducible first | exact HB.out | apply below_alloc | apply pw_below_drewN | apply below_drew1) | exact HB.out)⟩⟩
              · rw [if_neg c6] at H
                exact absurd H (by simp)
            · rw [if_neg c5] at H
              exact absurd H (by simp)
      · rw [if_neg c4] at H
        have c4b0 : decide (x10_1 < (l0.length : Int)) = false := decide_eq_false c4
        clear c4
        simp only [Option.some.injEq, Prod.mk.injEq] at H
        obtain ⟨rfl, rfl⟩ := H
        go_wp2
        repeat (go_quiet (fail); try go_wp2)
        go_ret2
        exact ⟨by first | rfl | (simp [errW_none, errW_some] <;> rfl) | (simp [*, errW_none, errW_some] <;> rfl), by repeat (first | (with_reducible first | exact HB.out | apply below_alloc | apply pw_below_drewN | apply below_drew1) | exact HB.out)⟩
def standbyref07_SameVolume.l0 : Nat → List (S59) → List (S59) → Int → Option (Bool)
  | 0, _, _, _ => none
  | k + 1, x0, x1, x5 => if x5 < (x0.length : Int) then (if 0 ≤ x5 then (if x5 < (x1.length : Int) then (if (!(((rd_T59 x0 x5).f0) == ((rd_T59 x1 x5).f0)) || (!(((rd_T59 x0 x5).f1) == ((rd_T59 x1 x5).f1)) || (!(((rd_T59 x0 x5).f2) == ((rd_T59 x1 x5).f2)) || (!(((rd_T59 x0 x5).f3) == ((rd_T59 x1 x5).f3)) || (!(((rd_T59 x0 x5).f4) == ((rd_T59 x1 x5).f4)) || (!(((rd_T59 x0 x5).f5) == ((rd_T59 x1 x5).f5)) || (!(((rd_T59 x0 x5).f6) == ((rd_T59 x1 x5).f6)) || (!(((rd_T59 x0 x5).f7) == ((rd_T59 x1 x5).f7)))))))))) = true then (some false) else (standbyref07_SameVolume.l0 k x0 x1 (wrap64 (x5 + 1)))) else (none)) else (none)) else (some true)
def standbyref07_SameVolume.f (k : Nat) (l0 : List (S59)) (l1 : List (S59)) : Option (Bool) := if (l0.length : Int) = (l1.length : Int) then (standbyref07_SameVolume.l0 k l0 l1 0) else (some false)
set_option maxHeartbeats 8000000 in
set_option maxRecDepth 100000 in
theorem standbyref07_SameVolume.calls (k : Nat) (A0 : Option Addr) (c0 : Nat) (l0 : List (S59)) (A1 : Option Addr) (c1 : Nat) (l1 : List (S59)) (r : Bool) (w : World) (hr0 : Kd.C k59 w A0 l0.length l0) (hc0 : l0.length ≤ c0) (hr1 : Kd.C k59 w A1 l1.length l1) (hc1 : l1.length ≤ c1) (h : standbyref07_SameVolume.f k l0 l1 = some r) :
    Calls Tryz.prog 42 #[.slice A0 l0.length c0, .slice A1 l1.length c1] w fun e w' => e = .returned (.bool r) ∧ Drawn0 w w' := by
  have hu59 := Tryz.underlying59
  have HR0 := Aside0.mk hr0
  have HC0 := Aside0.mk hc0
  clear hr0 hc0
  have HR1 := Aside0.mk hr1
  have HC1 := Aside0.mk hc1
  clear hr1 hc1
  have H : (if (l0.length : Int) = (l1.length : Int) then (standbyref07_SameVolume.l0 k l0 l1 0) else (some false)) = some r := h
  clear h
  by_cases c3 : (l0.length : Int) = (l1.length : Int)
  · rw [if_pos c3] at H
    have c3b0 : ((l0.length : Int) == (l1.length : Int)) = true := beq_iff_eq.mpr c3
    have c3b1 : ((l0.length : Int) != (l1.length : Int)) = false := bne_eq_false_iff_eq.mpr c3
    have c3b2 : (l0.length == l1.length) = true := by first | simpa using c3 | (simp at c3 ⊢; omega)
    clear c3
    have H' := Aside0.mk H
    clear H
    go_enter Tryz.func42, Tryz.ntmps42
    go_wp2
    repeat (go_quiet (fail); try go_wp2)
    go_loopg [5] k (fun kq v5 w' => ∃ (x5_1 : Int), v5 = .int .i64 x5_1 ∧ Aside0 (standbyref07_SameVolume.l0 kq l0 l1 x5_1 = some r) ∧ Aside0 (kq ≤ k) ∧ Drawn0 w w')
    case atStart => exact ⟨(0), (by first | rfl | (simp; done) | (simp [*]; done)), H', ⟨Nat.le_refl _⟩, by repeat (first | exact Drawn0.refl _ | apply Drawn0.step)⟩
    case round =>
      clear H'
      try clear c1
      try clear p2
      try clear c3
      try clear c3b0
      try clear c3b1
      try clear c3b2
      obtain ⟨x5_1, rfl, HA, HK1, ⟨m1, rfl⟩⟩ := hrel
      cases gk with
      | zero => exact absurd HA.out (by simp [standbyref07_SameVolume.l0])
      | succ k1 =>
        have H := HA.out
        clear HA
        simp only [standbyref07_SameVolume.l0] at H
        by_cases c4 : x5_1 < (l0.length : Int)
        · rw [if_pos c4] at H
          have c4b0 : decide (x5_1 < (l0.length : Int)) = true := decide_eq_true c4
          clear c4
          by_cases c5 : 0 ≤ x5_1
          · rw [if_pos c5] at H
            have c5b0 : decide (0 ≤ x5_1) = true := decide_eq_true c5
            clear c5
            by_cases c6 : x5_1 < (l1.length : Int)
            · rw [if_pos c6] at H
              have c6b0 : decide (x5_1 < (l1.length : Int)) = true := decide_eq_true c6
              clear c6
              by_cases c7 : (!(((rd_T59 l0 x5_1).f0) == ((rd_T59 l1 x5_1).f0)) || (!(((rd_T59 l0 x5_1).f1) == ((rd_T59 l1 x5_1).f1)) || (!(((rd_T59 l0 x5_1).f2) == ((rd_T59 l1 x5_1).f2)) || (!(((rd_T59 l0 x5_1).f3) == ((rd_T59 l1 x5_1).f3)) || (!(((rd_T59 l0 x5_1).f4) == ((rd_T59 l1 x5_1).f4)) || (!(((rd_T59 l0 x5_1).f5) == ((rd_T59 l1 x5_1).f5)) || (!(((rd_T59 l0 x5_1).f6) == ((rd_T59 l1 x5_1).f6)) || (!(((rd_T59 l0 x5_1).f7) == ((rd_T59 l1 x5_1).f7)))))))))) = true
              · rw [if_pos c7] at H
                have c7b0 : (!(((rd_T59 l0 x5_1).f0) == ((rd_T59 l1 x5_1).f0)) || (!(((rd_T59 l0 x5_1).f1) == ((rd_T59 l1 x5_1).f1)) || (!(((rd_T59 l0 x5_1).f2) == ((rd_T59 l1 x5_1).f2)) || (!(((rd_T59 l0 x5_1).f3) == ((rd_T59 l1 x5_1).f3)) || (!(((rd_T59 l0 x5_1).f4) == ((rd_T59 l1 x5_1).f4)) || (!(((rd_T59 l0 x5_1).f5) == ((rd_T59 l1 x5_1).f5)) || (!(((rd_T59 l0 x5_1).f6) == ((rd_T59 l1 x5_1).f6)) || (!(((rd_T59 l0 x5_1).f7) == ((rd_T59 l1 x5_1).f7)))))))))) = true := c7
                clear c7
                obtain rfl := Option.some.inj H
                have p219 : 0 ≤ (x5_1 : Int) := of_decide_eq_true (by first | (with_reducible assumption) | assumption)
                have q219 : x5_1 < (l0.length : Int) := of_decide_eq_true (by first | (with_reducible assumption) | assumption)
                obtain ⟨ad219, e219, hx219_0, hx219_1, hx219_2, hx219_3, hx219_4, hx219_5, hx219_6, hx219_7⟩ := at_T59 HR0.out x5_1 p219 q219
                cases e219
                replace p219 := eq_true p219
                replace q219 := eq_true q219
                have p220 : 0 ≤ (x5_1 : Int) := of_decide_eq_true (by first | (with_reducible assumption) | assumption)
                have q220 : x5_1 < (l1.length : Int) := of_decide_eq_true (by first | (with_reducible assumption) | assumption)
                obtain ⟨ad220, e220, hx220_0, hx220_1, hx220_2, hx220_3, hx220_4, hx220_5, hx220_6, hx220_7⟩ := at_T59 HR1.out x5_1 p220 q220
                cases e220
                replace p220 := eq_true p220
                replace q220 := eq_true q220
                go_wp2
                repeat (go_quiet (fail); try go_wp2)
                go_ret
                exact ⟨by first | rfl | (simp; done) | (simp [*]; done), by repeat (first | exact Drawn0.refl _ | apply Drawn0.step)⟩
              · rw [if_neg c7] at H
                have c7b0 : (!(((rd_T59 l0 x5_1).f0) == ((rd_T59 l1 x5_1).f0)) || (!(((rd_T59 l0 x5_1).f1) == ((rd_T59 l1 x5_1).f1)) || (!(((rd_T59 l0 x5_1).f2) == ((rd_T59 l1 x5_1).f2)) || (!(((rd_T59 l0 x5_1).f3) == ((rd_T59 l1 x5_1).f3)) || (!(((rd_T59 l0 x5_1).f4) == ((rd_T59 l1 x5_1).f4)) || (!(((rd_T59 l0 x5_1).f5) == ((rd_T59 l1 x5_1).f5)) || (!(((rd_T59 l0 x5_1).f6) == ((rd_T59 l1 x5_1).f6)) || (!(((rd_T59 l0 x5_1).f7) == ((rd_T59 l1 x5_1).f7)))))))))) = false := by simpa using c7
                clear c7
                have H' := Aside0.mk H
                clear H
                have p219 : 0 ≤ (x5_1 : Int) := of_decide_eq_true (by first | (with_reducible assumption) | assumption)
                have q219 : x5_1 < (l0.length : Int) := of_decide_eq_true (by first | (with_reducible assumption) | assumption)
                obtain ⟨ad219, e219, hx219_0, hx219_1, hx219_2, hx219_3, hx219_4, hx219_5, hx219_6, hx219_7⟩ := at_T59 HR0.out x5_1 p219 q219
                cases e219
                replace p219 := eq_true p219
                replace q219 := eq_true q219
                have p220 : 0 ≤ (x5_1 : Int) := of_decide_eq_true (by first | (with_reducible assumption) | assumption)
                have q220 : x5_1 < (l1.length : Int) := of_decide_eq_true (by first | (with_reducible assumption) | assumption)
                obtain ⟨ad220, e220, hx220_0, hx220_1, hx220_2, hx220_3, hx220_4, hx220_5, hx220_6, hx220_7⟩ := at_T59 HR1.out x5_1 p220 q220
                cases e220
                replace p220 := eq_true p220
                replace q220 := eq_true q220
                go_wp2
                repeat (go_quiet (fail); try go_wp2)
                go_roundg k1
                case measure => have := HK1.out; omega
                case rel => exact ⟨(wrap64 (x5_1 + 1)), (by first | rfl | (simp; done) | (simp [*]; done)), H', ⟨by have := HK1.out; omega⟩, by repeat (first | exact Drawn0.refl _ | apply Drawn0.step)⟩
            · rw [if_neg c6] at H
              exact absurd H (by simp)
          · rw [if_neg c5] at H
            exact absurd H (by simp)
        · rw [if_neg c4] at H
          have c4b0 : decide (x5_1 < (l0.length : Int)) = false := decide_eq_false c4
          clear c4
          obtain rfl := Option.some.inj H
          go_wp2
          repeat (go_quiet (fail); try go_wp2)
          go_ret
          exact ⟨by first | rfl | (simp; done) | (simp [*]; done), by repeat (first | exact Drawn0.refl _ | apply Drawn0.step)⟩
  · rw [if_neg c3] at H
    have c3b0 : ((l0.length : Int) == (l1.length : Int)) = false := beq_eq_false_iff_ne.mpr c3
    have c3b1 : ((l0.length : Int) != (l1.length : Int)) = true := bne_iff_ne.mpr c3
    have c3b2 : (l0.length == l1.length) = false := by first | simpa using c3 | (simp at c3 ⊢; omega)
    obtain rfl := Option.some.inj H
    go_enter Tryz.func42, Tryz.ntmps42
    go_wp2
    repeat (go_quiet (fail); try go_wp2)
    go_ret
    exact ⟨by first | rfl | (simp; done) | (simp [*]; done), by repeat (first | exact Drawn0.refl _ | apply Drawn0.step)⟩
end Go.Proofs.YtdplnbmioioniaaGreat.Pq
end
section
namespace Go.Proofs.YtdplnbmioioniaaGreat.Pq
open Go.RowKit Go.Shelf Go.Proofs.YtdplnbmioioniaaGreatW.PrintWords Go.Proofs.YtdplnbmioioniaaGreatW.PrintLast Go.Proofs.YtdplnbmioioniaaGreatW.PrintMore
set_option linter.unusedVariables false
set_option linter.unusedSimpArgs false
set_option maxHeartbeats 2000000
set_option maxRecDepth 100000
theorem eqNilI (w : World) (n c : Nat) : (binOp .eql 25 (.slice none n c) (.slice none 0 0)).run Tryz.prog w = .ok (.bool true) w := by kernel_rfl
theorem eqSomeI (w : World) (ad : Addr) (n c : Nat) : (binOp .eql 25 (.slice (some ad) n c) (.slice none 0 0)).run Tryz.prog w = .ok (.bool false) w := by kernel_rfl
attribute [local go_sem] eqNilI eqSomeI
theorem slices_Clone_int.calls (A : Option Addr) (c : Nat) (xs : List Int) (w : World) (hr : Kd.C (Kd.int .i64) w A xs.length xs) (hc : xs.length ≤ c) (hl : xs.length ≤ 1048576) :
    Calls Tryz.prog 30 #[.slice A xs.length c] w (RetR (Kd.int .i64) 3 xs w) := by
  cases A with
  | none =>
    have hx : xs = [] := by
      cases xs with
      | nil => rfl
      | cons x r => obtain ⟨_, _, h⟩ := hr; obtain ⟨ad, h, _⟩ := h (by simp); cases h
    subst hx
    go_enter Tryz.func30, Tryz.ntmps30
    go_wp2
    go_ret
    exact ⟨_, rfl, Kd.R_nil _ _ _ _ _, Below.refl _ _⟩
  | some ad =>
    have HR := Aside0.mk hr
    clear hr
    go_enter Tryz.func30, Tryz.ntmps30
    go_wp2_with ((with_reducible refine gate_builtin (b := .append) (xs := #[.tmp 5, .tmp 6]) rfl ?_); at_builtin; refine Kd.R_append_rows (Kd.int .i64) (Rr := (Kd.int .i64).K w) (w0 := w) w.heap.size rfl (.tmp 5) (.tmp 6) 25 3 (.int .i64 0) 8 rfl Tryz.underlying25 infoI rfl (by decide) (by decide) (.slice (some ⟨w.heap.size, 0, none⟩) 0 0) [] xs (some ad) xs.length c (fun _ => True) (fun _ => False) rfl rfl (R_made (Kd.int .i64) w w 3 #[] 0 (Nat.le_refl _) (by decide) rfl) (ReadsRow.imp_ HR.out (below_alloc (Below.refl _ _) _) (fun _ _ h => h)) (fun x cs h => h) (fun _ h => h.elim) (fun _ _ => trivial) (below_alloc (Below.refl _ _) _) (by simp) (by simp; omega) ?_; intro v1 w1 h1 h2 h3 h4; have n1 := Aside0.mk h1; have n2 := Aside0.mk h2; clear h1 h2 h3 h4)
    go_ret
    exact ⟨_, rfl, by simpa using n1.out, n2.out⟩
theorem each_seci.calls (g : Nat) (cb : Array Value) (F : Nat → List SS → Int) (A : Option Addr) (c : Nat) (ls : List (List SS)) (w : World)
    (eg : ∀ args w, (callFunc g args).run Tryz.prog w = .ok (.enter g args) w)
    (hr : Kd.C (Kd.slice 59 kSS) w A ls.length ls) (hc : ls.length ≤ c) (hl : ls.length ≤ 1048576)
    (hf : ∀ (i : Nat) (x : List SS) (A' : Option Addr) (c' : Nat) (W : World), Below w.heap.size w W → i < ls.length → x = ls.getD i [] → Kd.C kSS W A' x.length x → x.length ≤ c' → Calls Tryz.prog g (#[.int .i64 i, .slice A' x.length c'] ++ cb) W (Ret (.int .i64 (F i x)) W)) :
    Calls Tryz.prog 31 #[.slice A ls.length c, .func (.func g) #[] cb] w (RetR (Kd.int .i64) 3 (mp F 0 ls) w) := by
  have hmax := Kd.C_max hr
  go_enter Tryz.func31, Tryz.ntmps31
  go_wp2
  go_loopg [5, 10] ls.length (fun gg s5 s10 wr => ∃ (kk : Nat) (out : List Int), kk ≤ ls.length ∧ ls.length - kk ≤ gg ∧ s10 = .int .i64 kk ∧ out.length = kk ∧ Aside0 (Below w.heap.size w wr) ∧ Aside0 (Kd.R (Kd.int .i64) 3 wr w.heap.size (fun _ => True) s5 out) ∧ Aside0 (out ++ mp F kk (ls.drop kk) = mp F 0 ls))
  case atStart => exact ⟨0, [], Nat.zero_le _, by omega, rfl, rfl, ⟨Below.refl _ w⟩, ⟨Kd.R_nil _ _ _ _ _⟩, ⟨rfl⟩⟩
  case round =>
    obtain ⟨kk, out, hkk, hg, rfl, hol, BW, HO, HE⟩ := hrel
    by_cases hlt : kk < ls.length
    · obtain ⟨ad, A', c', rfl, hcell0, hc', hrow0⟩ := C_at_row hr kk hlt
      have hcell := pw_cell_below BW.out hcell0
      have hcall := hf kk (ls.getD kk []) A' c' wr BW.out hlt rfl (C_step hrow0 BW.out) hc'
      have HE' := Aside0.mk (show (out ++ [F kk (ls.getD kk [])]) ++ mp F (kk + 1) (ls.drop (kk + 1)) = mp F 0 ls by rw [List.append_assoc, List.singleton_append, ← mp_drop F ls [] kk hlt]; exact HE.out)
      clear hcell0 hrow0 HE hf hr
      generalize ls.getD kk [] = x at hcell hcall HE' hc'
      generalize F kk x = y at hcall HE'
      go_wp2_with (first | (go_at_fn g; refine hcall.mono ?_; rintro e w1 ⟨rfl, h2⟩; have n2 := Aside0.mk h2; clear h2) | ((with_reducible refine gate_builtin (b := .append) (xs := #[.tmp 15, .tmp 20]) rfl ?_); at_builtin; refine R_push (Kd.int .i64) 25 3 (.int .i64 0) 8 rfl rfl Tryz.underlying25 infoI rfl (by decide) (by decide) _ out y [.int .i64 y] rfl rfl rfl (xR_step HO.out n2.out) (below_then BW.out BW.out.size n2.out) (by omega) ?_; intro v1 w2 ho hb hgr hat; have n3 := Aside0.mk ho; have n4 := Aside0.mk hb; clear ho hb hgr hat))
      go_roundg (ls.length - (kk + 1))
      case measure => omega
      case rel => exact ⟨kk + 1, out ++ [y], by omega, by omega, by go_num, by simp [hol], n4, n3, HE'⟩
    · have hk : kk = ls.length := by omega
      have ho : out = mp F 0 ls := by have h := HE.out; rw [hk, List.drop_length] at h; simpa [mp] using h
      clear hf hr
      subst ho
      go_wp2
      go_ret
      exact ⟨_, rfl, HO.out, BW.out⟩
theorem resync_Cycle_1.calls (i : Int) (A : Option Addr) (n c : Nat) (w : World) : Calls Tryz.prog 32 #[.int .i64 i, .slice A n c] w (Ret (.int .i64 n) w) := by
  go_enter Tryz.func32, Tryz.ntmps32
  go_wp2
  go_ret
  exact ⟨rfl, Below.refl _ _⟩
theorem mp_lens : ∀ (im : Img) (k : Nat), mp (fun _ (x : List SS) => (x.length : Int)) k im = lens im
  | [], _ => rfl
  | x :: r, k => by rw [mp, mp_lens r (k + 1)]; rfl
def cycErr (b n t : Int) (pos : List Int) (ws : List WS) (sz : List Int) : Int :=
  if sizesErr sz = 0 then (if b < 0 ∨ n ≤ b ∨ 1073741824 < n then 2 else if 0 ≤ t ∧ t ≤ 1073741824 then (if posErr pos 0 = 0 then coalX ws sz else posErr pos 0) else 24) else sizesErr sz
theorem ev_cyccheck (b n t : Int) (pos : List Int) (ws : List WS) (sz : List Int) (hw : ∀ w ∈ ws, w.f2.length ≤ 1048576) : Ev (fun k => cycle_Check.f k b n t pos ws sz) (cycErr b n t pos ws sz) := by
  have e0 : image_New.f sz = some (newX sz) := rfl
  unfold cycErr
  by_cases hs : sizesErr sz = 0
  · rw [if_pos hs]
    have e1 : (newX sz).2 = 0 := by unfold newX; rw [if_pos hs]
    have two : Ev (fun k => cycle_Check.j0 k sz true b n t pos ws) 2 := Ev.step (f := fun _ => some 2) (fun k => by rw [cycle_Check.j0, if_pos rfl]) (Ev.now 2)
    by_cases h1 : b < 0
    · rw [if_pos (.inl h1)]
      exact Ev.congr (fun k => by unfold cycle_Check.f; rw [e0, Option.bind_some, if_pos e1, if_pos h1]) two
    · by_cases h2 : n ≤ b
      · rw [if_pos (.inr (.inl h2))]
        exact Ev.congr (fun k => by unfold cycle_Check.f; rw [e0, Option.bind_some, if_pos e1, if_neg h1, if_pos h2]) two
      · by_cases h3 : 1073741824 < n
        · rw [if_pos (.inr (.inr h3))]
          exact Ev.congr (fun k => by unfold cycle_Check.f; rw [e0, Option.bind_some, if_pos e1, if_neg h1, if_neg h2, decide_eq_true h3]) two
        · rw [if_neg (by omega)]
          refine Ev.congr (f := fun k => cycle_Check.j0 k sz false b n t pos ws) (fun k => by unfold cycle_Check.f; rw [e0, Option.bind_some, if_pos e1, if_neg h1, if_neg h2, decide_eq_false h3]) ?_
          have e2 : cycle_in.f t 0 1073741824 = some (decide (0 ≤ t ∧ t ≤ 1073741824)) := by
            unfold cycle_in.f
            by_cases a : t ≥ 0
            · rw [if_pos a]; exact congrArg some (decide_eq_decide.2 (by omega))
            · rw [if_neg a, decide_eq_false (by omega)]
          have e3 : cycle_positions.f pos 0 = some (posErr pos 0) := rfl
          have e4 : coalesce_Check.f ws sz = some (coalX ws sz) := by unfold coalesce_Check.f; rw [if_pos hw]
          refine Ev.step (f := fun _ => some _) (fun k => ?_) (Ev.now _)
          rw [cycle_Check.j0, if_neg (by simp), e2, Option.bind_some]
          by_cases h4 : 0 ≤ t ∧ t ≤ 1073741824
          · rw [decide_eq_true h4, if_pos rfl, if_pos h4, e3, Option.bind_some]
            by_cases h5 : posErr pos 0 = 0
            · rw [if_pos h5, if_pos h5, e4]; rfl
            · rw [if_neg h5, if_neg h5]
          · rw [decide_eq_false h4, if_neg (by simp), if_neg h4]
  · rw [if_neg hs]
    have e1 : (newX sz).2 = sizesErr sz := by unfold newX; rw [if_neg hs]
    exact Ev.congr (f := fun _ => some (sizesErr sz)) (fun k => by unfold cycle_Check.f; rw [e0, Option.bind_some, if_neg (by rw [e1]; exact hs), e1]) (Ev.now _)
def cycleX (im : Img) (l : List (List XE)) (b n t : Int) (pos : List Int) : Int × Int × Int × List Int × List WS × Int :=
  if (writesX im l).2 = 0 then (if cycErr b n t pos (writesX im l).1 (lens im) = 0 then (b, n, t, pos, (writesX im l).1, 0) else (0, 0, 0, [], [], cycErr b n t pos (writesX im l).1 (lens im))) else (0, 0, 0, [], [], (writesX im l).2)
def resync_Cycle.f (l0 : List (List SS)) (l1 : List (List XE)) (a2 a3 a4 : Int) (l5 : List Int) : Option (Int × Int × Int × List Int × List WS × Int) := if l0.length ≤ 1048576 ∧ okLs l1 ∧ l5.length ≤ 1048576 then some (cycleX l0 l1 a2 a3 a4 l5) else none
theorem writes_short (im : Img) (l : List (List XE)) : ∀ w ∈ (writesX im l).1, w.f2.length ≤ 1048576 := by
  intro w hw
  unfold writesX at hw
  by_cases hs : sizesErr (lens im) = 0
  · rw [if_pos hs] at hw
    by_cases hf : fitsX im l = 0
    · rw [if_pos hf] at hw
      obtain ⟨p, hp, rfl⟩ := List.mem_map.1 hw
      have hm := fits_mem hf p hp
      have := sizes_le hs p.1.toNat (by omega)
      show (((im.getD p.1.toNat []).take (p.2.f0 + p.2.f1).toNat).drop p.2.f0.toNat).length ≤ 1048576
      rw [List.length_drop, List.length_take]; omega
    · rw [if_neg hf] at hw; cases hw
  · rw [if_neg hs] at hw; cases hw
theorem resync_Cycle.calls (A0 : Option Addr) (c0 : Nat) (l0 : List (List SS)) (A1 : Option Addr) (c1 : Nat) (l1 : List (List XE)) (a2 : Int) (a3 : Int) (a4 : Int) (A5 : Option Addr) (c5 : Nat) (l5 : List Int) (r1 : Int) (r2 : Int) (r3 : Int) (r4 : List Int) (r5 : List WS) (r6 : Int) (w : World) (hr0 : Kd.C (Kd.slice 59 kSS) w A0 l0.length l0) (hc0 : l0.length ≤ c0) (hr1 : Kd.C (Kd.slice 61 kXE) w A1 l1.length l1) (hc1 : l1.length ≤ c1) (hr5 : Kd.C (Kd.int .i64) w A5 l5.length l5) (hc5 : l5.length ≤ c5) (h : resync_Cycle.f l0 l1 a2 a3 a4 l5 = some (r1, r2, r3, r4, r5, r6)) :
    Calls Tryz.prog 10 #[.slice A0 l0.length c0, .slice A1 l1.length c1, .int .i64 a2, .int .i64 a3, .int .i64 a4, .slice A5 l5.length c5] w fun e w' => ∃ v3_ v4_ : Value, e = .returned (.tuple #[.agg #[.int .i64 r1, .int .i64 r2, .int .i64 r3, v3_, v4_], .int .i64 r6]) ∧ Kd.R (Kd.int .i64) 3 w' w.heap.size (fun _ => True) v3_ r4 ∧ Kd.S kWS 66 w' w.heap.size (fun _ => True) v4_ r5 ∧ Below w.heap.size w w' := by
  unfold resync_Cycle.f at h
  by_cases hnk : ¬ (l0.length ≤ 1048576 ∧ okLs l1 ∧ l5.length ≤ 1048576)
  · rw [if_neg hnk] at h; cases h
  have hok := Decidable.not_not.1 hnk
  rw [if_pos hok] at h
  clear hnk
  simp only [Option.some.injEq] at h
  have hW := resync_Writes.calls A0 c0 l0 A1 c1 l1 (writesX l0 l1).1 (writesX l0 l1).2 (w.alloc (.cells #[.int .i64 0, .int .i64 0, .int .i64 0, .slice none 0 0, .slice none 0 0] 38)) (Kd.C_alloc hr0 _) hc0 (Kd.C_alloc hr1 _) hc1 (by unfold resync_Writes.f; rw [if_pos ⟨hok.1, hok.2.1⟩])
  have hshort := writes_short l0 l1
  unfold cycleX at h
  by_cases hw : (writesX l0 l1).2 = 0
  · rw [if_pos hw] at h
    rw [hw] at hW
    generalize (writesX l0 l1).1 = ws at hW h hshort
    obtain ⟨kf, hkf⟩ := (ev_cyccheck a2 a3 a4 l5 ws (lens l0) hshort).rounds
    have hCl := fun (W : World) (hW : Below w.heap.size w W) => slices_Clone_int.calls A5 c5 l5 W (C_step hr5 hW) hc5 hok.2.2
    have hEa := fun (W : World) (hW : Below w.heap.size w W) => each_seci.calls 32 #[] (fun _ x => (x.length : Int)) A0 c0 l0 W (enters_of Tryz.func32 (by kernel_rfl) rfl) (C_step hr0 hW) hc0 hok.1 (fun i x A' c' W2 _ _ _ _ _ => resync_Cycle_1.calls i A' x.length c' W2)
    have hCk := fun (Ap : Option Addr) (cp : Nat) (Aw : Option Addr) (cw : Nat) (As : Option Addr) (cs : Nat) (W : World) (h1 : Kd.C (Kd.int .i64) W Ap l5.length l5) (h2 : l5.length ≤ cp) (h3 : Kd.C kWS W Aw ws.length ws) (h4 : ws.length ≤ cw) (h5 : Kd.C (Kd.int .i64) W As (lens l0).length (lens l0)) (h6 : (lens l0).length ≤ cs) => cycle_Check.calls kf a2 a3 a4 Ap cp l5 Aw cw ws As cs (lens l0) _ W h1 h2 h3 h4 h5 h6 hkf
    simp only [mp_lens] at hEa
    clear hw hkf hshort hr0 hr1 hr5 hok
    by_cases hz : cycErr a2 a3 a4 l5 ws (lens l0) = 0
    · rw [if_pos hz] at h
      rw [hz] at hCk
      clear hz
      simp only [Prod.mk.injEq] at h
      obtain ⟨rfl, rfl, rfl, rfl, rfl, rfl⟩ := h
      generalize lens l0 = sz at hEa hCk
      go_enter Tryz.func10, Tryz.ntmps10
      go_wp2_with (first | (go_at_call 8; refine hW.mono ?_; rintro e w1 ⟨vw, rfl, h1, h2⟩; obtain ⟨Aw, cw, rfl⟩ := Kd.S_slice h1; have hk1 : w1.heap[w.heap.size]? = some (.cells #[.int .i64 0, .int .i64 0, .int .i64 0, .slice none 0 0, .slice none 0 0] 38 (0, 0)) := (h2.block _ (by simp)).trans (heap_alloc_new w _); have BK1 := Aside0.mk hk1; have n1 := Aside0.mk (below_then (below_alloc (Below.refl w.heap.size w) _) (by simp) h2); have o1 := Aside0.mk (Kd.S_lower h1 (show w.heap.size ≤ (w.alloc (.cells #[.int .i64 0, .int .i64 0, .int .i64 0, .slice none 0 0, .slice none 0 0] 38)).heap.size by simp)); have z0 : w1.cell? ⟨w.heap.size, 0, none⟩ = some (.int .i64 0) := (blk_cell hk1 0).trans rfl; have z1 : w1.cell? ⟨w.heap.size, 1, none⟩ = some (.int .i64 0) := (blk_cell hk1 1).trans rfl; have z2 : w1.cell? ⟨w.heap.size, 2, none⟩ = some (.int .i64 0) := (blk_cell hk1 2).trans rfl; have z3 : w1.cell? ⟨w.heap.size, 3, none⟩ = some (.slice none 0 0) := (blk_cell hk1 3).trans rfl; have z4 : w1.cell? ⟨w.heap.size, 4, none⟩ = some (.slice none 0 0) := (blk_cell hk1 4).trans rfl; have f0 := blk_frozen hk1 0; have f1 := blk_frozen hk1 1; have f2 := blk_frozen hk1 2; have f3 := blk_frozen hk1 3; have f4 := blk_frozen hk1 4; clear h1 h2 hk1) | (go_at_call 30; refine (hCl _ n1.out).mono ?_; rintro e w2 ⟨vp, rfl, h1, h2⟩; obtain ⟨Ap, cp, rfl⟩ := Kd.R_slice h1; have hk2 : w2.heap[w.heap.size]? = some (.cells #[.int .i64 0, .int .i64 0, .int .i64 0, .slice none 0 0, .slice none 0 0] 38 (0, 0)) := (h2.block _ (blk_lt BK1.out)).trans BK1.out; have BK2 := Aside0.mk hk2; have n2 := Aside0.mk (below_then n1.out n1.out.size h2); have o2 := Aside0.mk (Kd.S_below o1.out h2); have p2 := Aside0.mk (Kd.R_lower h1 n1.out.size); clear h1 h2 hk2) | (go_at_call 31; refine (hEa _ (below_alloc n2.out _)).mono ?_; rintro e w3 ⟨vs, rfl, h1, h2⟩; obtain ⟨As, cs, rfl, hcs, hCs⟩ := Kd.R_reads h1; have hk3 : w3.heap[w2.heap.size]? = some (.cells #[.int .i64 a2, .int .i64 a3, .int .i64 a4, .slice Ap l5.length cp, .slice Aw ws.length cw] 38 (0, 0)) := (h2.block _ (by simp)).trans (heap_alloc_new w2 _); have hb3 := below_then (below_alloc (Below.refl w2.heap.size w2) (.cells #[.int .i64 a2, .int .i64 a3, .int .i64 a4, .slice Ap l5.length cp, .slice Aw ws.length cw] 38)) (by simp) h2; have hk12 : w3.heap[w.heap.size]? = some (.cells #[.int .i64 0, .int .i64 0, .int .i64 0, .slice none 0 0, .slice none 0 0] 38 (0, 0)) := (hb3.block _ (blk_lt BK2.out)).trans BK2.out; have BK3 := Aside0.mk hk12; have BX3 := Aside0.mk hk3; have n3 := Aside0.mk (below_then n2.out n2.out.size hb3); have o3 := Aside0.mk (Kd.S_below o2.out hb3); have p3 := Aside0.mk (Kd.R_below p2.out hb3); have s3 := Aside0.mk hCs; have s4 := Aside0.mk hcs; have x0 : w3.cell? ⟨w2.heap.size, 0, none⟩ = some (.int .i64 a2) := (blk_cell hk3 0).trans rfl; have x1 : w3.cell? ⟨w2.heap.size, 1, none⟩ = some (.int .i64 a3) := (blk_cell hk3 1).trans rfl; have x2 : w3.cell? ⟨w2.heap.size, 2, none⟩ = some (.int .i64 a4) := (blk_cell hk3 2).trans rfl; have x3 : w3.cell? ⟨w2.heap.size, 3, none⟩ = some (.slice Ap l5.length cp) := (blk_cell hk3 3).trans rfl; have x4 : w3.cell? ⟨w2.heap.size, 4, none⟩ = some (.slice Aw ws.length cw) := (blk_cell hk3 4).trans rfl; clear h1 h2 hk3 hk12 hb3 hCs hcs) | (go_at_call 33; refine (hCk _ _ _ _ _ _ _ (Kd.R_reads' p3.out).2.2 (Kd.R_reads' p3.out).2.1 (Kd.S_reads' o3.out).2.2 (Kd.S_reads' o3.out).2.1 s3.out s4.out).mono ?_; rintro e w4 ⟨rfl, h2⟩; have hk4 : w4.heap[w2.heap.size]? = some (.cells #[.int .i64 a2, .int .i64 a3, .int .i64 a4, .slice Ap l5.length cp, .slice Aw ws.length cw] 38 (0, 0)) := (h2.block _ (blk_lt BX3.out)).trans BX3.out; have hk12 : w4.heap[w.heap.size]? = some (.cells #[.int .i64 0, .int .i64 0, .int .i64 0, .slice none 0 0, .slice none 0 0] 38 (0, 0)) := (h2.block _ (blk_lt BK3.out)).trans BK3.out; have BK4 := Aside0.mk hk12; have n4 := Aside0.mk (below_then n3.out n3.out.size h2); have o4 := Aside0.mk (Kd.S_below o3.out h2); have p4 := Aside0.mk (Kd.R_below p3.out h2); clear x0 x1 x2 x3 x4 z0 z1 z2 z3 z4 f0 f1 f2 f3 f4; have y0 : w4.cell? ⟨w2.heap.size, 0, none⟩ = some (.int .i64 a2) := (blk_cell hk4 0).trans rfl; have y1 : w4.cell? ⟨w2.heap.size, 1, none⟩ = some (.int .i64 a3) := (blk_cell hk4 1).trans rfl; have y2 : w4.cell? ⟨w2.heap.size, 2, none⟩ = some (.int .i64 a4) := (blk_cell hk4 2).trans rfl; have y3 : w4.cell? ⟨w2.heap.size, 3, none⟩ = some (.slice Ap l5.length cp) := (blk_cell hk4 3).trans rfl; have y4 : w4.cell? ⟨w2.heap.size, 4, none⟩ = some (.slice Aw ws.length cw) := (blk_cell hk4 4).trans rfl; have z0 : w4.cell? ⟨w.heap.size, 0, none⟩ = some (.int .i64 0) := (blk_cell hk12 0).trans rfl; have z1 : w4.cell? ⟨w.heap.size, 1, none⟩ = some (.int .i64 0) := (blk_cell hk12 1).trans rfl; have z2 : w4.cell? ⟨w.heap.size, 2, none⟩ = some (.int .i64 0) := (blk_cell hk12 2).trans rfl; have z3 : w4.cell? ⟨w.heap.size, 3, none⟩ = some (.slice none 0 0) := (blk_cell hk12 3).trans rfl; have z4 : w4.cell? ⟨w.heap.size, 4, none⟩ = some (.slice none 0 0) := (blk_cell hk12 4).trans rfl; have f0 := blk_frozen hk12 0; have f1 := blk_frozen hk12 1; have f2 := blk_frozen hk12 2; have f3 := blk_frozen hk12 3; have f4 := blk_frozen hk12 4; clear h2 hk4 hk12))
      refine bodyPost_ret (results_ct rfl _ _ w.heap.size 38 #[.int .i64 a2, .int .i64 a3, .int .i64 a4, .slice Ap l5.length cp, .slice Aw ws.length cw] (0, 0) _ rfl (by refine blk_put (cs := #[.int .i64 a2, .int .i64 a3, .int .i64 a4, .slice Ap l5.length cp, .slice none 0 0]) ?_ 4 _ rfl; refine blk_put (cs := #[.int .i64 a2, .int .i64 a3, .int .i64 a4, .slice none 0 0, .slice none 0 0]) ?_ 3 _ rfl; refine blk_put (cs := #[.int .i64 a2, .int .i64 a3, .int .i64 0, .slice none 0 0, .slice none 0 0]) ?_ 2 _ rfl; refine blk_put (cs := #[.int .i64 a2, .int .i64 0, .int .i64 0, .slice none 0 0, .slice none 0 0]) ?_ 1 _ rfl; refine blk_put (cs := #[.int .i64 0, .int .i64 0, .int .i64 0, .slice none 0 0, .slice none 0 0]) ?_ 0 _ rfl; exact BK4.out) Tryz.underlying38 rfl (by kernel_rfl)) rfl ?_
      exact ⟨_, _, rfl, (Kd.R_mono (Kd.R_far (p := ⟨w.heap.size, 4, none⟩) (Kd.R_far (p := ⟨w.heap.size, 3, none⟩) (Kd.R_far (p := ⟨w.heap.size, 2, none⟩) (Kd.R_far (p := ⟨w.heap.size, 1, none⟩) (Kd.R_far (p := ⟨w.heap.size, 0, none⟩) (Kd.R_types p4.out BK4.out (by decide)) (fun _ hk => hk.2) (.int .i64 a2)) (fun _ hk => hk.2) (.int .i64 a3)) (fun _ hk => hk.2) (.int .i64 a4)) (fun _ hk => hk.2) (.slice Ap l5.length cp)) (fun _ hk => hk.2) (.slice Aw ws.length cw)) (fun _ _ => trivial)), (Kd.S_mono (Kd.S_far (p := ⟨w.heap.size, 4, none⟩) (Kd.S_far (p := ⟨w.heap.size, 3, none⟩) (Kd.S_far (p := ⟨w.heap.size, 2, none⟩) (Kd.S_far (p := ⟨w.heap.size, 1, none⟩) (Kd.S_far (p := ⟨w.heap.size, 0, none⟩) (Kd.S_types o4.out BK4.out (by decide)) (fun _ hk => hk.2) (.int .i64 a2)) (fun _ hk => hk.2) (.int .i64 a3)) (fun _ hk => hk.2) (.int .i64 a4)) (fun _ hk => hk.2) (.slice Ap l5.length cp)) (fun _ hk => hk.2) (.slice Aw ws.length cw)) (fun _ _ => trivial)), (by repeat (first | (with_reducible first | exact n4.out | refine below_set ?_ (Nat.le_refl _)) | exact n4.out))⟩
    · rw [if_neg hz] at h
      simp only [Prod.mk.injEq] at h
      have q1 : (cycErr a2 a3 a4 l5 ws (lens l0) == 0) = false := by simpa using hz
      have q2 : (cycErr a2 a3 a4 l5 ws (lens l0) != 0) = true := by simpa using hz
      have q3 : decide (cycErr a2 a3 a4 l5 ws (lens l0) = 0) = false := by simpa using hz
      obtain ⟨rfl, rfl, rfl, rfl, rfl, rfl⟩ := h
      clear hz
      generalize cycErr a2 a3 a4 l5 ws (lens l0) = fx at hCk q1 q2 q3
      generalize lens l0 = sz at hEa hCk
      go_enter Tryz.func10, Tryz.ntmps10
      go_wp2_with (first | (go_at_call 8; refine hW.mono ?_; rintro e w1 ⟨vw, rfl, h1, h2⟩; obtain ⟨Aw, cw, rfl⟩ := Kd.S_slice h1; have hk1 : w1.heap[w.heap.size]? = some (.cells #[.int .i64 0, .int .i64 0, .int .i64 0, .slice none 0 0, .slice none 0 0] 38 (0, 0)) := (h2.block _ (by simp)).trans (heap_alloc_new w _); have BK1 := Aside0.mk hk1; have n1 := Aside0.mk (below_then (below_alloc (Below.refl w.heap.size w) _) (by simp) h2); have o1 := Aside0.mk (Kd.S_lower h1 (show w.heap.size ≤ (w.alloc (.cells #[.int .i64 0, .int .i64 0, .int .i64 0, .slice none 0 0, .slice none 0 0] 38)).heap.size by simp)); have z0 : w1.cell? ⟨w.heap.size, 0, none⟩ = some (.int .i64 0) := (blk_cell hk1 0).trans rfl; have z1 : w1.cell? ⟨w.heap.size, 1, none⟩ = some (.int .i64 0) := (blk_cell hk1 1).trans rfl; have z2 : w1.cell? ⟨w.heap.size, 2, none⟩ = some (.int .i64 0) := (blk_cell hk1 2).trans rfl; have z3 : w1.cell? ⟨w.heap.size, 3, none⟩ = some (.slice none 0 0) := (blk_cell hk1 3).trans rfl; have z4 : w1.cell? ⟨w.heap.size, 4, none⟩ = some (.slice none 0 0) := (blk_cell hk1 4).trans rfl; have f0 := blk_frozen hk1 0; have f1 := blk_frozen hk1 1; have f2 := blk_frozen hk1 2; have f3 := blk_frozen hk1 3; have f4 := blk_frozen hk1 4; clear h1 h2 hk1) | (go_at_call 30; refine (hCl _ n1.out).mono ?_; rintro e w2 ⟨vp, rfl, h1, h2⟩; obtain ⟨Ap, cp, rfl⟩ := Kd.R_slice h1; have hk2 : w2.heap[w.heap.size]? = some (.cells #[.int .i64 0, .int .i64 0, .int .i64 0, .slice none 0 0, .slice none 0 0] 38 (0, 0)) := (h2.block _ (blk_lt BK1.out)).trans BK1.out; have BK2 := Aside0.mk hk2; have n2 := Aside0.mk (below_then n1.out n1.out.size h2); have o2 := Aside0.mk (Kd.S_below o1.out h2); have p2 := Aside0.mk (Kd.R_lower h1 n1.out.size); clear h1 h2 hk2) | (go_at_call 31; refine (hEa _ (below_alloc n2.out _)).mono ?_; rintro e w3 ⟨vs, rfl, h1, h2⟩; obtain ⟨As, cs, rfl, hcs, hCs⟩ := Kd.R_reads h1; have hk3 : w3.heap[w2.heap.size]? = some (.cells #[.int .i64 a2, .int .i64 a3, .int .i64 a4, .slice Ap l5.length cp, .slice Aw ws.length cw] 38 (0, 0)) := (h2.block _ (by simp)).trans (heap_alloc_new w2 _); have hb3 := below_then (below_alloc (Below.refl w2.heap.size w2) (.cells #[.int .i64 a2, .int .i64 a3, .int .i64 a4, .slice Ap l5.length cp, .slice Aw ws.length cw] 38)) (by simp) h2; have hk12 : w3.heap[w.heap.size]? = some (.cells #[.int .i64 0, .int .i64 0, .int .i64 0, .slice none 0 0, .slice none 0 0] 38 (0, 0)) := (hb3.block _ (blk_lt BK2.out)).trans BK2.out; have BK3 := Aside0.mk hk12; have BX3 := Aside0.mk hk3; have n3 := Aside0.mk (below_then n2.out n2.out.size hb3); have o3 := Aside0.mk (Kd.S_below o2.out hb3); have p3 := Aside0.mk (Kd.R_below p2.out hb3); have s3 := Aside0.mk hCs; have s4 := Aside0.mk hcs; have x0 : w3.cell? ⟨w2.heap.size, 0, none⟩ = some (.int .i64 a2) := (blk_cell hk3 0).trans rfl; have x1 : w3.cell? ⟨w2.heap.size, 1, none⟩ = some (.int .i64 a3) := (blk_cell hk3 1).trans rfl; have x2 : w3.cell? ⟨w2.heap.size, 2, none⟩ = some (.int .i64 a4) := (blk_cell hk3 2).trans rfl; have x3 : w3.cell? ⟨w2.heap.size, 3, none⟩ = some (.slice Ap l5.length cp) := (blk_cell hk3 3).trans rfl; have x4 : w3.cell? ⟨w2.heap.size, 4, none⟩ = some (.slice Aw ws.length cw) := (blk_cell hk3 4).trans rfl; clear h1 h2 hk3 hk12 hb3 hCs hcs) | (go_at_call 33; refine (hCk _ _ _ _ _ _ _ (Kd.R_reads' p3.out).2.2 (Kd.R_reads' p3.out).2.1 (Kd.S_reads' o3.out).2.2 (Kd.S_reads' o3.out).2.1 s3.out s4.out).mono ?_; rintro e w4 ⟨rfl, h2⟩; have hk4 : w4.heap[w2.heap.size]? = some (.cells #[.int .i64 a2, .int .i64 a3, .int .i64 a4, .slice Ap l5.length cp, .slice Aw ws.length cw] 38 (0, 0)) := (h2.block _ (blk_lt BX3.out)).trans BX3.out; have hk12 : w4.heap[w.heap.size]? = some (.cells #[.int .i64 0, .int .i64 0, .int .i64 0, .slice none 0 0, .slice none 0 0] 38 (0, 0)) := (h2.block _ (blk_lt BK3.out)).trans BK3.out; have BK4 := Aside0.mk hk12; have n4 := Aside0.mk (below_then n3.out n3.out.size h2); have o4 := Aside0.mk (Kd.S_below o3.out h2); have p4 := Aside0.mk (Kd.R_below p3.out h2); clear x0 x1 x2 x3 x4 z0 z1 z2 z3 z4 f0 f1 f2 f3 f4; have y0 : w4.cell? ⟨w2.heap.size, 0, none⟩ = some (.int .i64 a2) := (blk_cell hk4 0).trans rfl; have y1 : w4.cell? ⟨w2.heap.size, 1, none⟩ = some (.int .i64 a3) := (blk_cell hk4 1).trans rfl; have y2 : w4.cell? ⟨w2.heap.size, 2, none⟩ = some (.int .i64 a4) := (blk_cell hk4 2).trans rfl; have y3 : w4.cell? ⟨w2.heap.size, 3, none⟩ = some (.slice Ap l5.length cp) := (blk_cell hk4 3).trans rfl; have y4 : w4.cell? ⟨w2.heap.size, 4, none⟩ = some (.slice Aw ws.length cw) := (blk_cell hk4 4).trans rfl; have z0 : w4.cell? ⟨w.heap.size, 0, none⟩ = some (.int .i64 0) := (blk_cell hk12 0).trans rfl; have z1 : w4.cell? ⟨w.heap.size, 1, none⟩ = some (.int .i64 0) := (blk_cell hk12 1).trans rfl; have z2 : w4.cell? ⟨w.heap.size, 2, none⟩ = some (.int .i64 0) := (blk_cell hk12 2).trans rfl; have z3 : w4.cell? ⟨w.heap.size, 3, none⟩ = some (.slice none 0 0) := (blk_cell hk12 3).trans rfl; have z4 : w4.cell? ⟨w.heap.size, 4, none⟩ = some (.slice none 0 0) := (blk_cell hk12 4).trans rfl; have f0 := blk_frozen hk12 0; have f1 := blk_frozen hk12 1; have f2 := blk_frozen hk12 2; have f3 := blk_frozen hk12 3; have f4 := blk_frozen hk12 4; clear h2 hk4 hk12))
      refine bodyPost_ret (results_ct rfl _ _ w.heap.size 38 #[.int .i64 0, .int .i64 0, .int .i64 0, .slice none 0 0, .slice none 0 0] (0, 0) _ rfl (by refine blk_put (cs := #[.int .i64 0, .int .i64 0, .int .i64 0, .slice none 0 0, .slice none 0 0]) ?_ 4 _ rfl; refine blk_put (cs := #[.int .i64 0, .int .i64 0, .int .i64 0, .slice none 0 0, .slice none 0 0]) ?_ 3 _ rfl; refine blk_put (cs := #[.int .i64 0, .int .i64 0, .int .i64 0, .slice none 0 0, .slice none 0 0]) ?_ 2 _ rfl; refine blk_put (cs := #[.int .i64 0, .int .i64 0, .int .i64 0, .slice none 0 0, .slice none 0 0]) ?_ 1 _ rfl; refine blk_put (cs := #[.int .i64 0, .int .i64 0, .int .i64 0, .slice none 0 0, .slice none 0 0]) ?_ 0 _ rfl; exact BK4.out) Tryz.underlying38 rfl (by kernel_rfl)) rfl ?_
      exact ⟨_, _, rfl, Kd.R_nil _ _ _ _ _, Kd.S_nil _ _ _ _ _, (by repeat (first | (with_reducible first | exact n4.out | refine below_set ?_ (Nat.le_refl _)) | exact n4.out))⟩
  · rw [if_neg hw] at h
    have q1 : ((writesX l0 l1).2 == 0) = false := by simpa using hw
    have q2 : ((writesX l0 l1).2 != 0) = true := by simpa using hw
    have q3 : decide ((writesX l0 l1).2 = 0) = false := by simpa using hw
    simp only [Prod.mk.injEq] at h
    obtain ⟨rfl, rfl, rfl, rfl, rfl, rfl⟩ := h
    generalize (writesX l0 l1).2 = fx at hW q1 q2 q3
    generalize (writesX l0 l1).1 = ws at hW
    clear hw hshort hr0 hr1 hr5 hok
    go_enter Tryz.func10, Tryz.ntmps10
    go_wp2_with (go_at_call 8; refine hW.mono ?_; rintro e w1 ⟨vw, rfl, h1, h2⟩; obtain ⟨Aw, cw, rfl⟩ := Kd.S_slice h1; have hk1 : w1.heap[w.heap.size]? = some (.cells #[.int .i64 0, .int .i64 0, .int .i64 0, .slice none 0 0, .slice none 0 0] 38 (0, 0)) := (h2.block _ (by simp)).trans (heap_alloc_new w _); have BK1 := Aside0.mk hk1; have n1 := Aside0.mk (below_then (below_alloc (Below.refl w.heap.size w) _) (by simp) h2); have o1 := Aside0.mk (Kd.S_lower h1 (show w.heap.size ≤ (w.alloc (.cells #[.int .i64 0, .int .i64 0, .int .i64 0, .slice none 0 0, .slice none 0 0] 38)).heap.size by simp)); have z0 : w1.cell? ⟨w.heap.size, 0, none⟩ = some (.int .i64 0) := (blk_cell hk1 0).trans rfl; have z1 : w1.cell? ⟨w.heap.size, 1, none⟩ = some (.int .i64 0) := (blk_cell hk1 1).trans rfl; have z2 : w1.cell? ⟨w.heap.size, 2, none⟩ = some (.int .i64 0) := (blk_cell hk1 2).trans rfl; have z3 : w1.cell? ⟨w.heap.size, 3, none⟩ = some (.slice none 0 0) := (blk_cell hk1 3).trans rfl; have z4 : w1.cell? ⟨w.heap.size, 4, none⟩ = some (.slice none 0 0) := (blk_cell hk1 4).trans rfl; have f0 := blk_frozen hk1 0; have f1 := blk_frozen hk1 1; have f2 := blk_frozen hk1 2; have f3 := blk_frozen hk1 3; have f4 := blk_frozen hk1 4; clear h1 h2 hk1)
    refine bodyPost_ret (results_ct rfl _ _ w.heap.size 38 #[.int .i64 0, .int .i64 0, .int .i64 0, .slice none 0 0, .slice none 0 0] (0, 0) _ rfl (by refine blk_put (cs := #[.int .i64 0, .int .i64 0, .int .i64 0, .slice none 0 0, .slice none 0 0]) ?_ 4 _ rfl; refine blk_put (cs := #[.int .i64 0, .int .i64 0, .int .i64 0, .slice none 0 0, .slice none 0 0]) ?_ 3 _ rfl; refine blk_put (cs := #[.int .i64 0, .int .i64 0, .int .i64 0, .slice none 0 0, .slice none 0 0]) ?_ 2 _ rfl; refine blk_put (cs := #[.int .i64 0, .int .i64 0, .int .i64 0, .slice none 0 0, .slice none 0 0]) ?_ 1 _ rfl; refine blk_put (cs := #[.int .i64 0, .int .i64 0, .int .i64 0, .slice none 0 0, .slice none 0 0]) ?_ 0 _ rfl; exact BK1.out) Tryz.underlying38 rfl (by kernel_rfl)) rfl ?_
    exact ⟨_, _, rfl, Kd.R_nil _ _ _ _ _, Kd.S_nil _ _ _ _ _, (by repeat (first | (with_reducible first | exact n1.out | refine below_set ?_ (Nat.le_refl _)) | exact n1.out))⟩
end Go.Proofs.YtdplnbmioioniaaGreat.Pq
end
section
namespace Go.Proofs.YtdplnbmioioniaaGreat.Pq
open Go.RowKit Go.Proofs.YtdplnbmioioniaaGreatW.PrintWords Go.Proofs.YtdplnbmioioniaaGreatW.PrintLast Go.Proofs.YtdplnbmioioniaaGreatW.PrintMore
attribute [local go_sem] max2_int min2_int max_two min_two max_three min_three max_four min_four
set_option linter.unusedVariables false
set_option linter.unusedSimpArgs false
def standbyref07_Same.l0 : Nat → List (List (S59)) → List (List (S59)) → Int → Option (Bool)
  | 0, _, _, _ => none
  | k + 1, x0, x1, x5 => if x5 < (x0.length : Int) then (if 0 ≤ x5 then (if x5 < (x1.length : Int) then ((standbyref07_SameVolume.f k (rd_L2 x0 x5) (rd_L2 x1 x5)).bind fun t223 => (if t223 = true then (standbyref07_Same.l0 k x0 x1 (wrap64 (x5 + 1))) else (some false))) else (none)) else (none)) else (some true)
def standbyref07_Same.f (k : Nat) (l0 : List (List (S59))) (l1 : List (List (S59))) : Option (Bool) := if (l0.length : Int) = (l1.length : Int) then (standbyref07_Same.l0 k l0 l1 0) else (some false)
set_option maxHeartbeats 8000000 in
set_option maxRecDepth 100000 in
theorem standbyref07_Same.calls (k : Nat) (A0 : Option Addr) (c0 : Nat) (l0 : List (List (S59))) (A1 : Option Addr) (c1 : Nat) (l1 : List (List (S59))) (r : Bool) (w : World) (hr0 : Kd.C (Kd.slice 59 k59) w A0 l0.length l0) (hc0 : l0.length ≤ c0) (hr1 : Kd.C (Kd.slice 59 k59) w A1 l1.length l1) (hc1 : l1.length ≤ c1) (h : standbyref07_Same.f k l0 l1 = some r) :
    Calls Tryz.prog 18 #[.slice A0 l0.length c0, .slice A1 l1.length c1] w fun e w' => e = .returned (.bool r) ∧ Drawn0 w w' := by
  have HR0 := Aside0.mk hr0
  have HC0 := Aside0.mk hc0
  clear hr0 hc0
  have HR1 := Aside0.mk hr1
  have HC1 := Aside0.mk hc1
  clear hr1 hc1
  have H : (if (l0.length : Int) = (l1.length : Int) then (standbyref07_Same.l0 k l0 l1 0) else (some false)) = some r := h
  clear h
  by_cases c3 : (l0.length : Int) = (l1.length : Int)
  · rw [if_pos c3] at H
    have c3b0 : ((l0.length : Int) == (l1.length : Int)) = true := beq_iff_eq.mpr c3
    have c3b1 : ((l0.length : Int) != (l1.length : Int)) = false := bne_eq_false_iff_eq.mpr c3
    have c3b2 : (l0.length == l1.length) = true := by first | simpa using c3 | (simp at c3 ⊢; omega)
    clear c3
    have H' := Aside0.mk H
    clear H
    go_enter Tryz.func18, Tryz.ntmps18
    go_wp2
    repeat (go_quiet (fail); try go_wp2)
    go_loopg [5] k (fun kq v5 w' => ∃ (x5_1 : Int), v5 = .int .i64 x5_1 ∧ Aside0 (standbyref07_Same.l0 kq l0 l1 x5_1 = some r) ∧ Aside0 (kq ≤ k) ∧ Drawn0 w w')
    case atStart => exact ⟨(0), (by first | rfl | (simp; done) | (simp [*]; done)), H', ⟨Nat.le_refl _⟩, by repeat (first | exact Drawn0.refl _ | apply Drawn0.step)⟩
    case round =>
      clear H'
      try clear c1
      try clear p2
      try clear c3
      try clear c3b0
      try clear c3b1
      try clear c3b2
      obtain ⟨x5_1, rfl, HA, HK1, ⟨m1, rfl⟩⟩ := hrel
      cases gk with
      | zero => exact absurd HA.out (by simp [standbyref07_Same.l0])
      | succ k1 =>
        have H := HA.out
        clear HA
        simp only [standbyref07_Same.l0] at H
        by_cases c4 : x5_1 < (l0.length : Int)
        · rw [if_pos c4] at H
          have c4b0 : decide (x5_1 < (l0.length : Int)) = true := decide_eq_true c4
          clear c4
          by_cases c5 : 0 ≤ x5_1
          · rw [if_pos c5] at H
            have c5b0 : decide (0 ≤ x5_1) = true := decide_eq_true c5
            clear c5
            by_cases c6 : x5_1 < (l1.length : Int)
            · rw [if_pos c6] at H
              have c6b0 : decide (x5_1 < (l1.length : Int)) = true := decide_eq_true c6
              clear c6
              replace H := Option.bind_eq_some_iff.mp H
              obtain ⟨t223, A70, H⟩ := H
              replace H : (if t223 = true then (standbyref07_Same.l0 k1 l0 l1 (wrap64 (x5_1 + 1))) else (some false)) = some r := H
              have A7 := Aside0.mk A70
              clear A70
              by_cases c8 : t223 = true
              · subst c8
                have H1 : (standbyref07_Same.l0 k1 l0 l1 (wrap64 (x5_1 + 1))) = some r := by rw [if_pos rfl] at H; exact H
                clear H
                have H := H1
                clear H1
                have H' := Aside0.mk H
                clear H
                have p221 : 0 ≤ (x5_1 : Int) := of_decide_eq_true (by first | (with_reducible assumption) | assumption)
                have q221 : x5_1 < (l0.length : Int) := of_decide_eq_true (by first | (with_reducible assumption) | assumption)
                obtain ⟨ad221, A221_0, c221_0, e221, hx221_0, hl221_0, hi221_0⟩ := at_L2 HR0.out x5_1 p221 q221
                cases e221
                have HR221_0 := Aside0.mk hi221_0
                have HC221_0 := Aside0.mk hl221_0
                clear hi221_0 hl221_0
                replace p221 := eq_true p221
                replace q221 := eq_true q221
                have p222 : 0 ≤ (x5_1 : Int) := of_decide_eq_true (by first | (with_reducible assumption) | assumption)
                have q222 : x5_1 < (l1.length : Int) := of_decide_eq_true (by first | (with_reducible assumption) | assumption)
                obtain ⟨ad222, A222_0, c222_0, e222, hx222_0, hl222_0, hi222_0⟩ := at_L2 HR1.out x5_1 p222 q222
                cases e222
                have HR222_0 := Aside0.mk hi222_0
                have HC222_0 := Aside0.mk hl222_0
                clear hi222_0 hl222_0
                replace p222 := eq_true p222
                replace q222 := eq_true q222
                go_wp2_with (first | (go_at_call 42; (with_reducible refine (standbyref07_SameVolume.calls k1 _ _ (rd_L2 l0 x5_1) _ _ (rd_L2 l1 x5_1) true _ ?side1 ?side2 ?side3 ?side4 A7.out).mono ?_); (case side1 => repeat (first | exact HR221_0.out | (with_reducible refine Kd.C_alloc ?_ _) | (with_reducible refine Kd.C_drewN ?_ _) | (with_reducible refine Kd.C_drew ?_))); (case side2 => exact HC221_0.out); (case side3 => repeat (first | exact HR222_0.out | (with_reducible refine Kd.C_alloc ?_ _) | (with_reducible refine Kd.C_drewN ?_ _) | (with_reducible refine Kd.C_drew ?_))); (case side4 => exact HC222_0.out); rintro e w' ⟨rfl, ⟨nd, rfl⟩⟩; (try first | exact ⟨rfl, _, World.drewN_drewN _ _ _⟩ | exact ⟨rfl, _, Eq.trans (World.drewN_drewN _ _ _) (congrArg (World.drewN _) (Nat.add_assoc _ _ _))⟩)))
                repeat (go_quiet (first | (go_at_call 42; (with_reducible refine (standbyref07_SameVolume.calls k1 _ _ (rd_L2 l0 x5_1) _ _ (rd_L2 l1 x5_1) true _ ?side1 ?side2 ?side3 ?side4 A7.out).mono ?_); (case side1 => repeat (first | exact HR221_0.out | (with_reducible refine Kd.C_alloc ?_ _) | (with_reducible refine Kd.C_drewN ?_ _) | (with_reducible refine Kd.C_drew ?_))); (case side2 => exact HC221_0.out); (case side3 => repeat (first | exact HR222_0.out | (with_reducible refine Kd.C_alloc ?_ _) | (with_reducible refine Kd.C_drewN ?_ _) | (with_reducible refine Kd.C_drew ?_))); (case side4 => exact HC222_0.out); rintro e w' ⟨rfl, ⟨nd, rfl⟩⟩; (try first | exact ⟨rfl, _, World.drewN_drewN _ _ _⟩ | exact ⟨rfl, _, Eq.trans (World.drewN_drewN _ _ _) (congrArg (World.drewN _) (Nat.add_assoc _ _ _))⟩))); try go_wp2_with (first | (go_at_call 42; (with_reducible refine (standbyref07_SameVolume.calls k1 _ _ (rd_L2 l0 x5_1) _ _ (rd_L2 l1 x5_1) true _ ?side1 ?side2 ?side3 ?side4 A7.out).mono ?_); (case side1 => repeat (first | exact HR221_0.out | (with_reducible refine Kd.C_alloc ?_ _) | (with_reducible refine Kd.C_drewN ?_ _) | (with_reducible refine Kd.C_drew ?_))); (case side2 => exact HC221_0.out); (case side3 => repeat (first | exact HR222_0.out | (with_reducible refine Kd.C_alloc ?_ _) | (with_reducible refine Kd.C_drewN ?_ _) | (with_reducible refine Kd.C_drew ?_))); (case side4 => exact HC222_0.out); rintro e w' ⟨rfl, ⟨nd, rfl⟩⟩; (try first | exact ⟨rfl, _, World.drewN_drewN _ _ _⟩ | exact ⟨rfl, _, Eq.trans (World.drewN_drewN _ _ _) (congrArg (World.drewN _) (Nat.add_assoc _ _ _))⟩))))
                go_roundg k1
                case measure => have := HK1.out; omega
                case rel => exact ⟨(wrap64 (x5_1 + 1)), (by first | rfl | (simp; done) | (simp [*]; done)), H', ⟨by have := HK1.out; omega⟩, by repeat (first | exact Drawn0.refl _ | apply Drawn0.step)⟩
              · replace c8 := Bool.eq_false_iff.mpr c8
                subst c8
                have H1 : (some false) = some r := by rw [if_neg (show ¬ (false = true) by decide)] at H; exact H
                clear H
                have H := H1
                clear H1
                obtain rfl := Option.some.inj H
                have p221 : 0 ≤ (x5_1 : Int) := of_decide_eq_true (by first | (with_reducible assumption) | assumption)
                have q221 : x5_1 < (l0.length : Int) := of_decide_eq_true (by first | (with_reducible assumption) | assumption)
                obtain ⟨ad221, A221_0, c221_0, e221, hx221_0, hl221_0, hi221_0⟩ := at_L2 HR0.out x5_1 p221 q221
                cases e221
                have HR221_0 := Aside0.mk hi221_0
                have HC221_0 := Aside0.mk hl221_0
                clear hi221_0 hl221_0
                replace p221 := eq_true p221
                replace q221 := eq_true q221
                have p222 : 0 ≤ (x5_1 : Int) := of_decide_eq_true (by first | (with_reducible assumption) | assumption)
                have q222 : x5_1 < (l1.length : Int) := of_decide_eq_true (by first | (with_reducible assumption) | assumption)
                obtain ⟨ad222, A222_0, c222_0, e222, hx222_0, hl222_0, hi222_0⟩ := at_L2 HR1.out x5_1 p222 q222
                cases e222
                have HR222_0 := Aside0.mk hi222_0
                have HC222_0 := Aside0.mk hl222_0
                clear hi222_0 hl222_0
                replace p222 := eq_true p222
                replace q222 := eq_true q222
                go_wp2_with (first | (go_at_call 42; (with_reducible refine (standbyref07_SameVolume.calls k1 _ _ (rd_L2 l0 x5_1) _ _ (rd_L2 l1 x5_1) false _ ?side1 ?side2 ?side3 ?side4 A7.out).mono ?_); (case side1 => repeat (first | exact HR221_0.out | (with_reducible refine Kd.C_alloc ?_ _) | (with_reducible refine Kd.C_drewN ?_ _) | (with_reducible refine Kd.C_drew ?_))); (case side2 => exact HC221_0.out); (case side3 => repeat (first | exact HR222_0.out | (with_reducible refine Kd.C_alloc ?_ _) | (with_reducible refine Kd.C_drewN ?_ _) | (with_reducible refine Kd.C_drew ?_))); (case side4 => exact HC222_0.out); rintro e w' ⟨rfl, ⟨nd, rfl⟩⟩; (try first | exact ⟨rfl, _, World.drewN_drewN _ _ _⟩ | exact ⟨rfl, _, Eq.trans (World.drewN_drewN _ _ _) (congrArg (World.drewN _) (Nat.add_assoc _ _ _))⟩)))
                repeat (go_quiet (first | (go_at_call 42; (with_reducible refine (standbyref07_SameVolume.calls k1 _ _ (rd_L2 l0 x5_1) _ _ (rd_L2 l1 x5_1) false _ ?side1 ?side2 ?side3 ?side4 A7.out).mono ?_); (case side1 => repeat (first | exact HR221_0.out | (with_reducible refine Kd.C_alloc ?_ _) | (with_reducible refine Kd.C_drewN ?_ _) | (with_reducible refine Kd.C_drew ?_))); (case side2 => exact HC221_0.out); (case side3 => repeat (first | exact HR222_0.out | (with_reducible refine Kd.C_alloc ?_ _) | (with_reducible refine Kd.C_drewN ?_ _) | (with_reducible refine Kd.C_drew ?_))); (case side4 => exact HC222_0.out); rintro e w' ⟨rfl, ⟨nd, rfl⟩⟩; (try first | exact ⟨rfl, _, World.drewN_drewN _ _ _⟩ | exact ⟨rfl, _, Eq.trans (World.drewN_drewN _ _ _) (congrArg (World.drewN _) (Nat.add_assoc _ _ _))⟩))); try go_wp2_with (first | (go_at_call 42; (with_reducible refine (standbyref07_SameVolume.calls k1 _ _ (rd_L2 l0 x5_1) _ _ (rd_L2 l1 x5_1) false _ ?side1 ?side2 ?side3 ?side4 A7.out).mono ?_); (case side1 => repeat (first | exact HR221_0.out | (with_reducible refine Kd.C_alloc ?_ _) | (with_reducible refine Kd.C_drewN ?_ _) | (with_reducible refine Kd.C_drew ?_))); (case side2 => exact HC221_0.out); (case side3 => repeat (first | exact HR222_0.out | (with_reducible refine Kd.C_alloc ?_ _) | (with_reducible refine Kd.C_drewN ?_ _) | (with_reducible refine Kd.C_drew ?_))); (case side4 => exact HC222_0.out); rintro e w' ⟨rfl, ⟨nd, rfl⟩⟩; (try first | exact ⟨rfl, _, World.drewN_drewN _ _ _⟩ | exact ⟨rfl, _, Eq.trans (World.drewN_drewN _ _ _) (congrArg (World.drewN _) (Nat.add_assoc _ _ _))⟩))))
                go_ret
                exact ⟨by first | rfl | (simp; done) | (simp [*]; done), by repeat (first | exact Drawn0.refl _ | apply Drawn0.step)⟩
            · rw [if_neg c6] at H
              exact absurd H (by simp)
          · rw [if_neg c5] at H
            exact absurd H (by simp)
        · rw [if_neg c4] at H
          have c4b0 : decide (x5_1 < (l0.length : Int)) = false := decide_eq_false c4
          clear c4
          obtain rfl := Option.some.inj H
          go_wp2
          repeat (go_quiet (fail); try go_wp2)
          go_ret
          exact ⟨by first | rfl | (simp; done) | (simp [*]; done), by repeat (first | exact Drawn0.refl _ | apply Drawn0.step)⟩
  · rw [if_neg c3] at H
    have c3b0 : ((l0.length : Int) == (l1.length : Int)) = false := beq_eq_false_iff_ne.mpr c3
    have c3b1 : ((l0.length : Int) != (l1.length : Int)) = true := bne_iff_ne.mpr c3
    have c3b2 : (l0.length == l1.length) = false := by first | simpa using c3 | (simp at c3 ⊢; omega)
    obtain rfl := Option.some.inj H
    go_enter Tryz.func18, Tryz.ntmps18
    go_wp2
    repeat (go_quiet (fail); try go_wp2)
    go_ret
    exact ⟨by first | rfl | (simp; done) | (simp [*]; done), by repeat (first | exact Drawn0.refl _ | apply Drawn0.step)⟩
def standbyref22_Sectors.l0 : Nat → List (S66) → Int → Int → Option (Int)
  | 0, _, _, _ => none
  | k + 1, x0, x3, x4 => if x4 < (x0.length : Int) then (if 0 ≤ x4 then (standbyref22_Sectors.l0 k x0 (wrap64 (x3 + (((rd_T66 x0 x4).f2).length : Int))) (wrap64 (x4 + 1))) else (none)) else (some x3)
def standbyref22_Sectors.f (k : Nat) (l0 : List (S66)) : Option (Int) := standbyref22_Sectors.l0 k l0 0 0
set_option maxHeartbeats 8000000 in
set_option maxRecDepth 100000 in
theorem standbyref22_Sectors.calls (k : Nat) (A0 : Option Addr) (c0 : Nat) (l0 : List (S66)) (r : Int) (w : World) (hr0 : Kd.C k66 w A0 l0.length l0) (hc0 : l0.length ≤ c0) (h : standbyref22_Sectors.f k l0 = some r) :
    Calls Tryz.prog 19 #[.slice A0 l0.length c0] w fun e w' => e = .returned (.int .i64 r) ∧ Drawn0 w w' := by
  have HR0 := Aside0.mk hr0
  have HC0 := Aside0.mk hc0
  clear hr0 hc0
  have H : (standbyref22_Sectors.l0 k l0 0 0) = some r := h
  clear h
  have H' := Aside0.mk H
  clear H
  go_enter Tryz.func19, Tryz.ntmps19
  go_wp2
  go_loopg [3, 4] k (fun kq v3 v4 w' => ∃ (x3_1 : Int) (x4_1 : Int), v3 = .int .i64 x3_1 ∧ v4 = .int .i64 x4_1 ∧ Aside0 (standbyref22_Sectors.l0 kq l0 x3_1 x4_1 = some r) ∧ Aside0 (kq ≤ k) ∧ Drawn0 w w')
  case atStart => exact ⟨(0), (0), (by first | rfl | (simp; done) | (simp [*]; done)), (by first | rfl | (simp; done) | (simp [*]; done)), H', ⟨Nat.le_refl _⟩, by repeat (first | exact Drawn0.refl _ | apply Drawn0.step)⟩
  case round =>
    clear H'
    try clear c1
    obtain ⟨x3_1, x4_1, rfl, rfl, HA, HK1, ⟨m1, rfl⟩⟩ := hrel
    cases gk with
    | zero => exact absurd HA.out (by simp [standbyref22_Sectors.l0])
    | succ k1 =>
      have H := HA.out
      clear HA
      simp only [standbyref22_Sectors.l0] at H
      by_cases c2 : x4_1 < (l0.length : Int)
      · rw [if_pos c2] at H
        have c2b0 : decide (x4_1 < (l0.length : Int)) = true := decide_eq_true c2
        clear c2
        by_cases c3 : 0 ≤ x4_1
        · rw [if_pos c3] at H
          have c3b0 : decide (0 ≤ x4_1) = true := decide_eq_true c3
          clear c3
          have H' := Aside0.mk H
          clear H
          have p224 : 0 ≤ (x4_1 : Int) := of_decide_eq_true (by first | (with_reducible assumption) | assumption)
          have q224 : x4_1 < (l0.length : Int) := of_decide_eq_true (by first | (with_reducible assumption) | assumption)
          obtain ⟨ad224, A224_2, c224_2, e224, hx224_0, hx224_1, hx224_2, hl224_2, hi224_2⟩ := at_T66 HR0.out x4_1 p224 q224
          cases e224
          have HR224_2 := Aside0.mk hi224_2
          have HC224_2 := Aside0.mk hl224_2
          clear hi224_2 hl224_2
          replace p224 := eq_true p224
          replace q224 := eq_true q224
          go_wp2
          go_roundg k1
          case measure => have := HK1.out; omega
          case rel => exact ⟨(wrap64 (x3_1 + (((rd_T66 l0 x4_1).f2).length : Int))), (wrap64 (x4_1 + 1)), (by first | rfl | (simp; done) | (simp [*]; done)), (by first | rfl | (simp; done) | (simp [*]; done)), H', ⟨by have := HK1.out; omega⟩, by repeat (first | exact Drawn0.refl _ | apply Drawn0.step)⟩
        · rw [if_neg c3] at H
          exact absurd H (by simp)
      · rw [if_neg c2] at H
        have c2b0 : decide (x4_1 < (l0.length : Int)) = false := decide_eq_false c2
        clear c2
        obtain rfl := Option.some.inj H
        go_wp2
        go_ret
        exact ⟨by first | rfl | (simp; done) | (simp [*]; done), by repeat (first | exact Drawn0.refl _ | apply Drawn0.step)⟩
mutual
def standbylaw45_ResyncApplies.j0 : Nat → List (List (S59)) → List (List (S59)) → Int → Bool → Option (Bool)
  | 0, _, _, _, _ => none
  | k + 1, x0, x1, x2, x23 => if x23 = true then ((standbylaw45_awake.f k).bind fun t227 => (some t227)) else ((image_Differ.f k x0 x1).bind fun bt228 => (if bt228.2 = 0 then ((resync_Cycle.f x0 bt228.1 (wrap64 (x2)) (wrap64 ((wrap64 (x2)) + 1)) 5 (([1, 2] : List Int))).bind fun bt236 => (if bt236.2.2.2.2.2 = 0 then (if bt236.1 = (wrap64 (x2)) then (if bt236.2.1 = (wrap64 ((wrap64 (x2)) + 1)) then (if bt236.2.2.1 = 5 then ((standbyref23_SameInts.f k bt236.2.2.2.1 (([1, 2] : List Int))).bind fun t250 => (standbylaw45_ResyncApplies.j1 k x0 x1 bt228.1 (!t250) bt236.1 bt236.2.1 bt236.2.2.1 bt236.2.2.2.1 bt236.2.2.2.2.1)) else (standbylaw45_ResyncApplies.j1 k x0 x1 bt228.1 true bt236.1 bt236.2.1 bt236.2.2.1 bt236.2.2.2.1 bt236.2.2.2.2.1)) else (standbylaw45_ResyncApplies.j1 k x0 x1 bt228.1 true bt236.1 bt236.2.1 bt236.2.2.1 bt236.2.2.2.1 bt236.2.2.2.2.1)) else (standbylaw45_ResyncApplies.j1 k x0 x1 bt228.1 true bt236.1 bt236.2.1 bt236.2.2.1 bt236.2.2.2.1 bt236.2.2.2.2.1)) else (standbylaw45_ResyncApplies.j1 k x0 x1 bt228.1 true bt236.1 bt236.2.1 bt236.2.2.1 bt236.2.2.2.1 bt236.2.2.2.2.1))) else ((standbylaw45_awake.f k).bind fun t232 => (some t232))))
def standbylaw45_ResyncApplies.j1 : Nat → List (List (S59)) → List (List (S59)) → List (List (S61)) → Bool → Int → Int → Int → List Int → List (S66) → Option (Bool)
  | 0, _, _, _, _, _, _, _, _, _ => none
  | k + 1, x0, x1, x7, x74, x247000, x247001, x247002, x247003, x247004 => if x74 = true then (some false) else ((image_Apply.f x1 x247004).bind fun bt251 => ((standbylaw45_differing.f k x0 x1 x7).bind fun bt256 => ((standbylaw45_awake.f k).bind fun t258 => (if t258 = true then (if bt251.2.2 = 0 then ((standbyref07_Same.f k bt251.1 x0).bind fun t259 => (if t259 = true then ((standbyref22_Sectors.f k x247004).bind fun t260 => (some (t260 == bt256.1))) else (some false))) else (some false)) else (some false)))))
end
def standbylaw45_ResyncApplies.f (k : Nat) (l0 : List (List (S59))) (l1 : List (List (S59))) (a2 : Int) : Option (Bool) := (standbyref07_Few.f k l0).bind fun t225 => (if t225 = true then ((standbyref07_Few.f k l1).bind fun t226 => (standbylaw45_ResyncApplies.j0 k l0 l1 a2 (!t226))) else (standbylaw45_ResyncApplies.j0 k l0 l1 a2 true))
set_option maxHeartbeats 8000000 in
set_option maxRecDepth 100000 in
theorem standbylaw45_ResyncApplies.calls (k : Nat) (A0 : Option Addr) (c0 : Nat) (l0 : List (List (S59))) (A1 : Option Addr) (c1 : Nat) (l1 : List (List (S59))) (a2 : Int) (r : Bool) (w : World) (hr0 : Kd.C (Kd.slice 59 k59) w A0 l0.length l0) (hc0 : l0.length ≤ c0) (hr1 : Kd.C (Kd.slice 59 k59) w A1 l1.length l1) (hc1 : l1.length ≤ c1) (h : standbylaw45_ResyncApplies.f k l0 l1 a2 = some r) :
    Calls Tryz.prog 4 #[.slice A0 l0.length c0, .slice A1 l1.length c1, .int .u8 a2] w fun e w' => e = .returned (.bool r) ∧ Below w.heap.size w w' := by
  have hu38 := Tryz.underlying38
  have HR0 := Aside0.mk hr0
  have HC0 := Aside0.mk hc0
  clear hr0 hc0
  have HR1 := Aside0.mk hr1
  have HC1 := Aside0.mk hc1
  clear hr1 hc1
  have HB := Aside0.mk (Below.refl w.heap.size w)
  have H : ((standbyref07_Few.f k l0).bind fun t225 => (if t225 = true then ((standbyref07_Few.f k l1).bind fun t226 => (standbylaw45_ResyncApplies.j0 k l0 l1 a2 (!t226))) else (standbylaw45_ResyncApplies.j0 k l0 l1 a2 true))) = some r := h
  clear h
  have HC4 := Aside0.mk H
  clear H
  go_enter Tryz.func4, Tryz.ntmps4
  go_upto_region 1 with (fail)
  go_cut [23] (fun v23 wc => ∃ (kq : Nat) (x23_3 : Bool), v23 = .bool x23_3 ∧ Aside0 (standbylaw45_ResyncApplies.j0 kq l0 l1 a2 x23_3 = some r) ∧ Aside0 (kq ≤ k) ∧ Aside0 (Below w.heap.size w wc))
  case first =>
    have H := HC4.out
    clear HC4
    replace H := Option.bind_eq_some_iff.mp H
    obtain ⟨t225, A50, H⟩ := H
    replace H : (if t225 = true then ((standbyref07_Few.f k l1).bind fun t226 => (standbylaw45_ResyncApplies.j0 k l0 l1 a2 (!t226))) else (standbylaw45_ResyncApplies.j0 k l0 l1 a2 true)) = some r := H
    have A5 := Aside0.mk A50
    clear A50
    by_cases c6 : t225 = true
    · subst c6
      have H1 : ((standbyref07_Few.f k l1).bind fun t226 => (standbylaw45_ResyncApplies.j0 k l0 l1 a2 (!t226))) = some r := by rw [if_pos rfl] at H; exact H
      clear H
      have H := H1
      clear H1
      replace H := Option.bind_eq_some_iff.mp H
      obtain ⟨t226, A70, H⟩ := H
      replace H : (standbylaw45_ResyncApplies.j0 k l0 l1 a2 (!t226)) = some r := H
      have A7 := Aside0.mk A70
      clear A70
      have H' := Aside0.mk H
      clear H
      go_wp2_with (first | ((with_reducible refine gate_callee (f := 5) rfl ?_); refine goesL_ (some 17) rfl rfl Tryz.func5 (by kernel_rfl) rfl #[.slice A0 l0.length c0] rfl (by (try simp only [List.map_toArray, List.map_cons, List.map_nil]); first | done | rfl | (simp only [List.length_drop, List.length_take]; rfl)) ?_; (with_reducible refine (standbyref07_Few.calls k _ _ l0 true _ ?side1 ?side2 A5.out).mono ?_); (case side1 => repeat (first | exact (Kd.C_below HR0.out HB.out) | (with_reducible refine Kd.C_alloc ?_ _) | (with_reducible refine Kd.C_drewN ?_ _) | (with_reducible refine Kd.C_drew ?_))); (case side2 => exact HC0.out); rintro e w' ⟨rfl, ⟨nd, rfl⟩⟩; refine ⟨_, rfl, ?_⟩) | (go_at_call 5; (with_reducible refine (standbyref07_Few.calls k _ _ l1 t226 _ ?side1 ?side2 A7.out).mono ?_); (case side1 => repeat (first | exact (Kd.C_below HR1.out (by repeat (first | (with_reducible first | exact HB.out | apply below_alloc | apply pw_below_drewN | apply below_drew1) | exact HB.out))) | (with_reducible refine Kd.C_alloc ?_ _) | (with_reducible refine Kd.C_drewN ?_ _) | (with_reducible refine Kd.C_drew ?_))); (case side2 => exact HC1.out); rintro e w' ⟨rfl, ⟨nd, rfl⟩⟩))
      go_meet
      case rel => exact ⟨_, (!t226), (by first | rfl | (simp; done) | (simp [*]; done)), H', ⟨by first | omega | exact Nat.le_refl _⟩, ⟨by repeat (first | (with_reducible first | exact HB.out | apply below_alloc | apply pw_below_drewN | apply below_drew1) | exact HB.out)⟩⟩
    · replace c6 := Bool.eq_false_iff.mpr c6
      subst c6
      have H1 : (standbylaw45_ResyncApplies.j0 k l0 l1 a2 true) = some r := by rw [if_neg (show ¬ (false = true) by decide)] at H; exact H
      clear H
      have H := H1
      clear H1
      have H' := Aside0.mk H
      clear H
      go_wp2_with (first | ((with_reducible refine gate_callee (f := 5) rfl ?_); refine goesL_ (some 17) rfl rfl Tryz.func5 (by kernel_rfl) rfl #[.slice A0 l0.length c0] rfl (by (try simp only [List.map_toArray, List.map_cons, List.map_nil]); first | done | rfl | (simp only [List.length_drop, List.length_take]; rfl)) ?_; (with_reducible refine (standbyref07_Few.calls k _ _ l0 false _ ?side1 ?side2 A5.out).mono ?_); (case side1 => repeat (first | exact (Kd.C_below HR0.out HB.out) | (with_reducible refine Kd.C_alloc ?_ _) | (with_reducible refine Kd.C_drewN ?_ _) | (with_reducible refine Kd.C_drew ?_))); (case side2 => exact HC0.out); rintro e w' ⟨rfl, ⟨nd, rfl⟩⟩; refine ⟨_, rfl, ?_⟩))
      go_meet
      case rel => exact ⟨_, (true), (by first | rfl | (simp; done) | (simp [*]; done)), H', ⟨by first | omega | exact Nat.le_refl _⟩, ⟨by repeat (first | (with_reducible first | exact HB.out | apply below_alloc | apply pw_below_drewN | apply below_drew1) | exact HB.out)⟩⟩
  case rest =>
    clear HC4
    try clear c1
    try clear p2
    try clear c4
    try clear c5
    try clear c6
    obtain ⟨kq, x23_3, rfl, HA, HJ3, HB⟩ := hcut
    cases kq with
    | zero => exact absurd HA.out (by simp [standbylaw45_ResyncApplies.j0])
    | succ kj3 =>
      have H := HA.out
      clear HA
      simp only [standbylaw45_ResyncApplies.j0] at H
      by_cases c8 : x23_3 = true
      · subst c8
        have H1 : ((standbylaw45_awake.f kj3).bind fun t227 => (some t227)) = some r := by rw [if_pos rfl] at H; exact H
        clear H
        have H := H1
        clear H1
        replace H := Option.bind_eq_some_iff.mp H
        obtain ⟨t227, A90, H⟩ := H
        replace H : (some t227) = some r := H
        have A9 := Aside0.mk A90
        clear A90
        obtain rfl := Option.some.inj H
        go_wp2_with (first | ((with_reducible refine gate_callee (f := 7) rfl ?_); refine goesL_ (some 24) rfl rfl Tryz.func7 (by kernel_rfl) rfl #[] rfl (by (try simp only [List.map_toArray, List.map_cons, List.map_nil]); first | done | rfl | (simp only [List.length_drop, List.length_take]; rfl)) ?_; (with_reducible refine (standbylaw45_awake.calls kj3  t227 _ A9.out).mono ?_); rintro e w10 ⟨rfl, hb⟩; refine ⟨_, rfl, ?_⟩; have n0_ := Aside0.mk (below_step (by repeat (first | (with_reducible first | exact HB.out | apply below_alloc | apply pw_below_drewN | apply below_drew1) | exact HB.out)) hb); clear HB; have HB := n0_; clear n0_; (try clear hb); (try clear hb2); (try clear hk); (try clear hi)))
        go_ret
        exact ⟨by first | rfl | (simp [errW_none, errW_some] <;> rfl) | (simp [*, errW_none, errW_some] <;> rfl), by repeat (first | (with_reducible first | exact HB.out | apply below_alloc | apply pw_below_drewN | apply below_drew1) | exact HB.out)⟩
      · replace c8 := Bool.eq_false_iff.mpr c8
        subst c8
        have H1 : ((image_Differ.f kj3 l0 l1).bind fun bt228 => (if bt228.2 = 0 then ((resync_Cycle.f l0 bt228.1 (wrap64 (a2)) (wrap64 ((wrap64 (a2)) + 1)) 5 (([1, 2] : List Int))).bind fun bt236 => (if bt236.2.2.2.2.2 = 0 then (if bt236.1 = (wrap64 (a2)) then (if bt236.2.1 = (wrap64 ((wrap64 (a2)) + 1)) then (if bt236.2.2.1 = 5 then ((standbyref23_SameInts.f kj3 bt236.2.2.2.1 (([1, 2] : List Int))).bind fun t250 => (standbylaw45_ResyncApplies.j1 kj3 l0 l1 bt228.1 (!t250) bt236.1 bt236.2.1 bt236.2.2.1 bt236.2.2.2.1 bt236.2.2.2.2.1)) else (standbylaw45_ResyncApplies.j1 kj3 l0 l1 bt228.1 true bt236.1 bt236.2.1 bt236.2.2.1 bt236.2.2.2.1 bt236.2.2.2.2.1)) else (standbylaw45_ResyncApplies.j1 kj3 l0 l1 bt228.1 true bt236.1 bt236.2.1 bt236.2.2.1 bt236.2.2.2.1 bt236.2.2.2.2.1)) else (standbylaw45_ResyncApplies.j1 kj3 l0 l1 bt228.1 true bt236.1 bt236.2.1 bt236.2.2.1 bt236.2.2.2.1 bt236.2.2.2.2.1)) else (standbylaw45_ResyncApplies.j1 kj3 l0 l1 bt228.1 true bt236.1 bt236.2.1 bt236.2.2.1 bt236.2.2.2.1 bt236.2.2.2.2.1))) else ((standbylaw45_awake.f kj3).bind fun t232 => (some t232)))) = some r := by rw [if_neg (show ¬ (false = true) by decide)] at H; exact H
        clear H
        have H := H1
        clear H1
        replace H := Option.bind_eq_some_iff.mp H
        obtain ⟨⟨t228, t229⟩, A110, H⟩ := H
        replace H : (if t229 = 0 then ((resync_Cycle.f l0 t228 (wrap64 (a2)) (wrap64 ((wrap64 (a2)) + 1)) 5 (([1, 2] : List Int))).bind fun bt236 => (if bt236.2.2.2.2.2 = 0 then (if bt236.1 = (wrap64 (a2)) then (if bt236.2.1 = (wrap64 ((wrap64 (a2)) + 1)) then (if bt236.2.2.1 = 5 then ((standbyref23_SameInts.f kj3 bt236.2.2.2.1 (([1, 2] : List Int))).bind fun t250 => (standbylaw45_ResyncApplies.j1 kj3 l0 l1 t228 (!t250) bt236.1 bt236.2.1 bt236.2.2.1 bt236.2.2.2.1 bt236.2.2.2.2.1)) else (standbylaw45_ResyncApplies.j1 kj3 l0 l1 t228 true bt236.1 bt236.2.1 bt236.2.2.1 bt236.2.2.2.1 bt236.2.2.2.2.1)) else (standbylaw45_ResyncApplies.j1 kj3 l0 l1 t228 true bt236.1 bt236.2.1 bt236.2.2.1 bt236.2.2.2.1 bt236.2.2.2.2.1)) else (standbylaw45_ResyncApplies.j1 kj3 l0 l1 t228 true bt236.1 bt236.2.1 bt236.2.2.1 bt236.2.2.2.1 bt236.2.2.2.2.1)) else (standbylaw45_ResyncApplies.j1 kj3 l0 l1 t228 true bt236.1 bt236.2.1 bt236.2.2.1 bt236.2.2.2.1 bt236.2.2.2.2.1))) else ((standbylaw45_awake.f kj3).bind fun t232 => (some t232))) = some r := H
        have A11 := Aside0.mk A110
        clear A110
        by_cases c12 : t229 = 0
        · rw [if_pos c12] at H
          have c12b0 : (t229 == 0) = true := beq_iff_eq.mpr c12
          have c12b1 : (t229 != 0) = false := bne_eq_false_iff_eq.mpr c12
          clear c12
          obtain ⟨y233, hy233⟩ : ∃ y_ : List Int, y_ = (([1, 2] : List Int)) := ⟨_, rfl⟩
          replace H : ((resync_Cycle.f l0 t228 (wrap64 (a2)) (wrap64 ((wrap64 (a2)) + 1)) 5 y233).bind fun bt236 => (if bt236.2.2.2.2.2 = 0 then (if bt236.1 = (wrap64 (a2)) then (if bt236.2.1 = (wrap64 ((wrap64 (a2)) + 1)) then (if bt236.2.2.1 = 5 then ((standbyref23_SameInts.f kj3 bt236.2.2.2.1 (([1, 2] : List Int))).bind fun t250 => (standbylaw45_ResyncApplies.j1 kj3 l0 l1 t228 (!t250) bt236.1 bt236.2.1 bt236.2.2.1 bt236.2.2.2.1 bt236.2.2.2.2.1)) else (standbylaw45_ResyncApplies.j1 kj3 l0 l1 t228 true bt236.1 bt236.2.1 bt236.2.2.1 bt236.2.2.2.1 bt236.2.2.2.2.1)) else (standbylaw45_ResyncApplies.j1 kj3 l0 l1 t228 true bt236.1 bt236.2.1 bt236.2.2.1 bt236.2.2.2.1 bt236.2.2.2.2.1)) else (standbylaw45_ResyncApplies.j1 kj3 l0 l1 t228 true bt236.1 bt236.2.1 bt236.2.2.1 bt236.2.2.2.1 bt236.2.2.2.2.1)) else (standbylaw45_ResyncApplies.j1 kj3 l0 l1 t228 true bt236.1 bt236.2.1 bt236.2.2.1 bt236.2.2.2.1 bt236.2.2.2.2.1))) = some r := by first | (rw [hy233]; with_reducible exact H) | (have H2_ := (Option.bind_some _ _).symm.trans H; rw [hy233]; with_reducible exact H2_) | (have H2_ := (Option.bind_some _ _).symm.trans H; with_reducible exact H2_) | with_reducible exact H | (rw [hy233]; exact H) | exact H
          have Ny233 := Aside0.mk hy233
          clear hy233
          replace H := Option.bind_eq_some_iff.mp H
          obtain ⟨⟨t236, t237, t238, t239, t242, t245⟩, A130, H⟩ := H
          replace H : (if t245 = 0 then (if t236 = (wrap64 (a2)) then (if t237 = (wrap64 ((wrap64 (a2)) + 1)) then (if t238 = 5 then ((standbyref23_SameInts.f kj3 t239 (([1, 2] : List Int))).bind fun t250 => (standbylaw45_ResyncApplies.j1 kj3 l0 l1 t228 (!t250) t236 t237 t238 t239 t242)) else (standbylaw45_ResyncApplies.j1 kj3 l0 l1 t228 true t236 t237 t238 t239 t242)) else (standbylaw45_ResyncApplies.j1 kj3 l0 l1 t228 true t236 t237 t238 t239 t242)) else (standbylaw45_ResyncApplies.j1 kj3 l0 l1 t228 true t236 t237 t238 t239 t242)) else (standbylaw45_ResyncApplies.j1 kj3 l0 l1 t228 true t236 t237 t238 t239 t242)) = some r := H
          have A13 := Aside0.mk A130
          clear A130
          have HC14 := Aside0.mk H
          clear H
          go_upto_region 7 with (first | ((with_reducible refine gate_callee (f := 14) rfl ?_); refine goesL_ (some 28) rfl rfl Tryz.func14 (by kernel_rfl) rfl #[.slice A0 l0.length c0, .slice A1 l1.length c1] rfl (by (try simp only [List.map_toArray, List.map_cons, List.map_nil]); first | done | rfl | (simp only [List.length_drop, List.length_take]; rfl)) ?_; (with_reducible refine (image_Differ.calls kj3 _ _ l0 _ _ l1 t228 t229 _ ?side1 ?side2 ?side3 ?side4 A11.out).mono ?_); (case side1 => repeat (first | exact (Kd.C_below HR0.out HB.out) | (with_reducible refine Kd.C_alloc ?_ _) | (with_reducible refine Kd.C_drewN ?_ _) | (with_reducible refine Kd.C_drew ?_))); (case side2 => exact HC0.out); (case side3 => repeat (first | exact (Kd.C_below HR1.out HB.out) | (with_reducible refine Kd.C_alloc ?_ _) | (with_reducible refine Kd.C_drewN ?_ _) | (with_reducible refine Kd.C_drew ?_))); (case side4 => exact HC1.out); rintro e w15 ⟨v230, rfl, ho0, hb⟩; refine ⟨_, rfl, ?_⟩; have n0_ := Aside0.mk (Kd.S_lower ho0 (below_size (by repeat (first | (with_reducible first | exact HB.out | apply below_alloc | apply pw_below_drewN | apply below_drew1) | exact HB.out)))); have n1_ := Aside0.mk (below_step (by repeat (first | (with_reducible first | exact HB.out | apply below_alloc | apply pw_below_drewN | apply below_drew1) | exact HB.out)) hb); clear HB; have HO231 := n0_; have HB := n1_; clear n0_ n1_; (try clear hb); (try clear hb2); (try clear hk); (try clear hi); (try clear ho0)) | ((with_reducible refine gate_dst (N := 42) rfl ?_); (try (refine gate_guard (by rfl) ?_; dsimp only)); refine Kd.R_lit (Kd.int .i64) _ 3 ?hg (N := 42) ?hd (xs := ([1, 2] : List Int)) (inner := [.int .i64 1, .int .i64 2]) (ok := fun _ => True) (okp := fun _ => True) ?hr ?hp (fun _ hk => hk) trivial (Below.refl _ _) (Nat.le_refl _) (by simp) ?_; (case hd => rfl); (case hg => rfl); (case hr => first | (go_simp; done) | (go_simp; rfl)); (case hp => exact (Reps.one (show Kd.M (Kd.int .i64) _ _ _ 1 [.int .i64 1] from rfl) (Reps.one (show Kd.M (Kd.int .i64) _ _ _ 2 [.int .i64 2] from rfl) (Reps.none _ _)))); intro v234 w16 ho17 hb hg_ hnew_; clear hg_ hnew_; (first | rw [← Ny233.out] at ho17 | (simp only [Int.reduceToNat] at ho17; rw [← Ny233.out] at ho17)); have n0_ := Aside0.mk (Kd.S_below (by (with_reducible repeat (first | apply Kd.S_alloc | apply Kd.S_drewN | apply Kd.S_drew)); exact HO231.out) hb); have n1_ := Aside0.mk (Kd.R_lower ho17 (below_size (by repeat (first | (with_reducible first | exact HB.out | apply below_alloc | apply pw_below_drewN | apply below_drew1) | exact HB.out)))); have n2_ := Aside0.mk (below_step (by repeat (first | (with_reducible first | exact HB.out | apply below_alloc | apply pw_below_drewN | apply below_drew1) | exact HB.out)) hb); clear HO231; clear HB; have HO231 := n0_; have HO235 := n1_; have HB := n2_; clear n0_ n1_ n2_; clear hb ho17; obtain ⟨Ao18, co18, eo18⟩ := Kd.S_slice HO231.out; subst eo18; obtain ⟨Ao19, co19, eo19⟩ := Kd.R_slice HO235.out; subst eo19) | ((with_reducible refine gate_callee (f := 10) rfl ?_); refine goesL_ (some 43) rfl rfl Tryz.func10 (by kernel_rfl) rfl #[.slice A0 l0.length c0, .slice Ao18 t228.length co18, .int .i64 (wrap64 (a2)), .int .i64 (wrap64 ((wrap64 (a2)) + 1)), .int .i64 5, .slice Ao19 y233.length co19] rfl (by (try simp only [List.map_toArray, List.map_cons, List.map_nil]); first | done | rfl | (simp only [List.length_drop, List.length_take]; rfl)) ?_; (with_reducible refine (resync_Cycle.calls _ _ l0 _ _ t228 (wrap64 (a2)) (wrap64 ((wrap64 (a2)) + 1)) 5 _ _ y233 t236 t237 t238 t239 t242 t245 _ ?side1 ?side2 ?side3 ?side4 ?side5 ?side6 A13.out).mono ?_); (case side1 => repeat (first | exact (Kd.C_below HR0.out HB.out) | (with_reducible refine Kd.C_alloc ?_ _) | (with_reducible refine Kd.C_drewN ?_ _) | (with_reducible refine Kd.C_drew ?_))); (case side2 => exact HC0.out); (case side3 => repeat (first | exact (Kd.S_reads' HO231.out).2.2 | (with_reducible refine Kd.C_alloc ?_ _) | (with_reducible refine Kd.C_drewN ?_ _) | (with_reducible refine Kd.C_drew ?_))); (case side4 => exact (Kd.S_reads' HO231.out).2.1); (case side5 => repeat (first | exact (Kd.R_reads' HO235.out).2.2 | (with_reducible refine Kd.C_alloc ?_ _) | (with_reducible refine Kd.C_drewN ?_ _) | (with_reducible refine Kd.C_drew ?_))); (case side6 => exact (Kd.R_reads' HO235.out).2.1); rintro e w20 ⟨v240, v243, rfl, ho0, ho1, hb⟩; refine ⟨_, rfl, ?_⟩; have n0_ := Aside0.mk (Kd.S_below (by (with_reducible repeat (first | apply Kd.S_alloc | apply Kd.S_drewN | apply Kd.S_drew)); exact HO231.out) hb); have n1_ := Aside0.mk (Kd.R_elder' (by (with_reducible repeat (first | apply Kd.R_alloc | apply Kd.R_drewN | apply Kd.R_drew)); exact HO235.out) (Kd.R_base ho0) hb); have n2_ := Aside0.mk (Kd.R_lower (Kd.R_new' ho0 (Kd.R_lt (by (with_reducible repeat (first | apply Kd.R_alloc | apply Kd.R_drewN | apply Kd.R_drew)); exact HO235.out))) (below_size (by repeat (first | (with_reducible first | exact HB.out | apply below_alloc | apply pw_below_drewN | apply below_drew1) | exact HB.out)))); have n3_ := Aside0.mk (Kd.S_lower ho1 (below_size (by repeat (first | (with_reducible first | exact HB.out | apply below_alloc | apply pw_below_drewN | apply below_drew1) | exact HB.out)))); have n4_ := Aside0.mk (below_step (by repeat (first | (with_reducible first | exact HB.out | apply below_alloc | apply pw_below_drewN | apply below_drew1) | exact HB.out)) hb); clear HO231; clear HO235; clear HB; have HO231 := n0_; have HO235 := n1_; have HO241 := n2_; have HO244 := n3_; have HB := n4_; clear n0_ n1_ n2_ n3_ n4_; (try clear hb); (try clear hb2); (try clear hk); (try clear hi); (try clear ho0); (try clear ho1)) | ((with_reducible refine gate_dst (N := 9) rfl ?_); (try (refine gate_guard (by rfl) ?_; dsimp only)); refine box_event ?hg (N := 9) ?hd (cs := #[.int .i64 0, .int .i64 0, .int .i64 0, .slice none 0 0, .slice none 0 0]) (t := 38) ?hr ?_; (case hd => rfl); (case hg => rfl); (case hr => first | (go_simp; done) | (go_simp; rfl)); intro gb246 hg w21 hbox hb; have n0_ := Aside0.mk (Kd.S_below (by (with_reducible repeat (first | apply Kd.S_alloc | apply Kd.S_drewN | apply Kd.S_drew)); exact HO231.out) hb); have n1_ := Aside0.mk (Kd.R_below (by (with_reducible repeat (first | apply Kd.R_alloc | apply Kd.R_drewN | apply Kd.R_drew)); exact HO235.out) hb); have n2_ := Aside0.mk (Kd.R_below (by (with_reducible repeat (first | apply Kd.R_alloc | apply Kd.R_drewN | apply Kd.R_drew)); exact HO241.out) hb); have n3_ := Aside0.mk (Kd.S_below (by (with_reducible repeat (first | apply Kd.S_alloc | apply Kd.S_drewN | apply Kd.S_drew)); exact HO244.out) hb); have n4_ := Aside0.mk (below_step (by repeat (first | (with_reducible first | exact HB.out | apply below_alloc | apply pw_below_drewN | apply below_drew1) | exact HB.out)) hb); have n5_ := Aside0.mk (hbox); have n6_ := Aside0.mk ((by rw [hg]; exact (below_size (by repeat (first | (with_reducible first | exact HB.out | apply below_alloc | apply pw_below_drewN | apply below_drew1) | exact HB.out))) : w.heap.size ≤ gb246)); have n7_ := Aside0.mk ((by rw [hg]; exact (below_size (by repeat (first | (with_reducible first | exact HB.out | apply below_alloc | apply pw_below_drewN | apply below_drew1) | exact HB.out))) : w.heap.size ≤ gb246)); clear HO231; clear HO235; clear HO241; clear HO244; clear HB; have HO231 := n0_; have HO235 := n1_; have HO241 := n2_; have HO244 := n3_; have HB := n4_; have BK246 := n5_; have GW246 := n6_; have GE246 := n7_; clear n0_ n1_ n2_ n3_ n4_ n5_ n6_ n7_; clear hb hbox hg; have hcz22_0 : w21.cell? ⟨gb246, 0, none⟩ = some (.int .i64 0) := (blk_cell BK246.out 0).trans rfl; have hcz22_1 : w21.cell? ⟨gb246, 1, none⟩ = some (.int .i64 0) := (blk_cell BK246.out 1).trans rfl; have hcz22_2 : w21.cell? ⟨gb246, 2, none⟩ = some (.int .i64 0) := (blk_cell BK246.out 2).trans rfl; have hcz22_3 : w21.cell? ⟨gb246, 3, none⟩ = some (.slice none 0 0) := (blk_cell BK246.out 3).trans rfl; have hcz22_4 : w21.cell? ⟨gb246, 4, none⟩ = some (.slice none 0 0) := (blk_cell BK246.out 4).trans rfl; have hfz22_0 := blk_frozen BK246.out 0; have hfz22_1 := blk_frozen BK246.out 1; have hfz22_2 := blk_frozen BK246.out 2; have hfz22_3 := blk_frozen BK246.out 3; have hfz22_4 := blk_frozen BK246.out 4; obtain ⟨Ao23, co23, eo23⟩ := Kd.R_slice HO241.out; subst eo23; obtain ⟨Ao24, co24, eo24⟩ := Kd.S_slice HO244.out; subst eo24))
          (try simp only [Act.put, List.setIfInBounds_toArray, List.set_cons_zero, List.set_cons_succ])
          go_cut [74] (fun v74 wc => ∃ (kq : Nat) (x74_13 : Bool), v74 = .bool x74_13 ∧ Aside0 (standbylaw45_ResyncApplies.j1 kq l0 l1 t228 x74_13 t236 t237 t238 t239 t242 = some r) ∧ Aside0 (kq ≤ kj3) ∧ Aside0 (Kd.S (Kd.slice 61 k61) 57 wc w.heap.size (fun _ => True) (.slice Ao18 t228.length co18) t228) ∧ Aside0 (Kd.R (Kd.int .i64) 3 wc w.heap.size (fun _ => True) (.slice Ao23 t239.length co23) t239) ∧ Aside0 (Kd.S k66 66 wc w.heap.size (fun _ => True) (.slice Ao24 t242.length co24) t242) ∧ Aside0 (wc.heap[gb246]? = some (.cells #[.int .i64 t236, .int .i64 t237, .int .i64 t238, (.slice Ao23 t239.length co23), (.slice Ao24 t242.length co24)] 38 (0, 0))) ∧ Aside0 (Below w.heap.size w wc))
          case first =>
            have H := HC14.out
            clear HC14
            by_cases c25 : t245 = 0
            · rw [if_pos c25] at H
              have c25b0 : (t245 == 0) = true := beq_iff_eq.mpr c25
              have c25b1 : (t245 != 0) = false := bne_eq_false_iff_eq.mpr c25
              clear c25
              (first | rw [c25b0] | (simp only [i64_w, i32_w]; rw [c25b0]) | skip)
              by_cases c26 : t236 = (wrap64 (a2))
              · rw [if_pos c26] at H
                have c26b0 : (t236 == (wrap64 (a2))) = true := beq_iff_eq.mpr c26
                have c26b1 : (t236 != (wrap64 (a2))) = false := bne_eq_false_iff_eq.mpr c26
                clear c26
                by_cases c27 : t237 = (wrap64 ((wrap64 (a2)) + 1))
                · rw [if_pos c27] at H
                  have c27b0 : (t237 == (wrap64 ((wrap64 (a2)) + 1))) = true := beq_iff_eq.mpr c27
                  have c27b1 : (t237 != (wrap64 ((wrap64 (a2)) + 1))) = false := bne_eq_false_iff_eq.mpr c27
                  clear c27
                  by_cases c28 : t238 = 5
                  · rw [if_pos c28] at H
                    have c28b0 : (t238 == 5) = true := beq_iff_eq.mpr c28
                    have c28b1 : (t238 != 5) = false := bne_eq_false_iff_eq.mpr c28
                    clear c28
                    obtain ⟨y247, hy247⟩ : ∃ y_ : List Int, y_ = (([1, 2] : List Int)) := ⟨_, rfl⟩
                    replace H : ((standbyref23_SameInts.f kj3 t239 y247).bind fun t250 => (standbylaw45_ResyncApplies.j1 kj3 l0 l1 t228 (!t250) t236 t237 t238 t239 t242)) = some r := by first | (rw [hy247]; with_reducible exact H) | (have H2_ := (Option.bind_some _ _).symm.trans H; rw [hy247]; with_reducible exact H2_) | (have H2_ := (Option.bind_some _ _).symm.trans H; with_reducible exact H2_) | with_reducible exact H | (rw [hy247]; exact H) | exact H
                    have Ny247 := Aside0.mk hy247
                    clear hy247
                    replace H := Option.bind_eq_some_iff.mp H
                    obtain ⟨t250, A290, H⟩ := H
                    replace H : (standbylaw45_ResyncApplies.j1 kj3 l0 l1 t228 (!t250) t236 t237 t238 t239 t242) = some r := H
                    have A29 := Aside0.mk A290
                    clear A290
                    have H' := Aside0.mk H
                    clear H
                    have hcz30_0 : w21.cell? ⟨gb246, 0, none⟩ = some (.int .i64 0) := (blk_cell BK246.out 0).trans rfl
                    have hcz30_1 : w21.cell? ⟨gb246, 1, none⟩ = some (.int .i64 0) := (blk_cell BK246.out 1).trans rfl
                    have hcz30_2 : w21.cell? ⟨gb246, 2, none⟩ = some (.int .i64 0) := (blk_cell BK246.out 2).trans rfl
                    have hcz30_3 : w21.cell? ⟨gb246, 3, none⟩ = some (.slice none 0 0) := (blk_cell BK246.out 3).trans rfl
                    have hcz30_4 : w21.cell? ⟨gb246, 4, none⟩ = some (.slice none 0 0) := (blk_cell BK246.out 4).trans rfl
                    have hfz30_0 := blk_frozen BK246.out 0
                    have hfz30_1 := blk_frozen BK246.out 1
                    have hfz30_2 := blk_frozen BK246.out 2
                    have hfz30_3 := blk_frozen BK246.out 3
                    have hfz30_4 := blk_frozen BK246.out 4
                    go_wp2_with (first | ((with_reducible refine gate_dst (N := 71) rfl ?_); (try (refine gate_guard (by rfl) ?_; dsimp only)); refine Kd.R_lit (Kd.int .i64) _ 3 ?hg (N := 71) ?hd (xs := ([1, 2] : List Int)) (inner := [.int .i64 1, .int .i64 2]) (ok := fun _ => True) (okp := fun _ => True) ?hr ?hp (fun _ hk => hk) trivial (Below.refl _ _) (Nat.le_refl _) (by simp) ?_; (case hd => rfl); (case hg => rfl); (case hr => first | (go_simp; done) | (go_simp; rfl)); (case hp => exact (Reps.one (show Kd.M (Kd.int .i64) _ _ _ 1 [.int .i64 1] from rfl) (Reps.one (show Kd.M (Kd.int .i64) _ _ _ 2 [.int .i64 2] from rfl) (Reps.none _ _)))); intro v248 w31 ho32 hb hg_ hnew_; clear hg_ hnew_; (first | rw [← Ny247.out] at ho32 | (simp only [Int.reduceToNat] at ho32; rw [← Ny247.out] at ho32)); have n0_ := Aside0.mk (Kd.S_below (by (with_reducible repeat (first | apply Kd.S_alloc | apply Kd.S_drewN | apply Kd.S_drew)); exact (Kd.S_mono (Kd.S_far (p := ⟨gb246, 4, none⟩) (Kd.S_far (p := ⟨gb246, 3, none⟩) (Kd.S_far (p := ⟨gb246, 2, none⟩) (Kd.S_far (p := ⟨gb246, 1, none⟩) (Kd.S_far (p := ⟨gb246, 0, none⟩) (Kd.S_types HO231.out BK246.out (by decide)) (fun _ hk => hk.2) (.int .i64 t236)) (fun _ hk => hk.2) (.int .i64 t237)) (fun _ hk => hk.2) (.int .i64 t238)) (fun _ hk => hk.2) (.slice Ao23 t239.length co23)) (fun _ hk => hk.2) (.slice Ao24 t242.length co24)) (fun _ h_ => h_.1))) hb); have n1_ := Aside0.mk (Kd.R_elder' (by (with_reducible repeat (first | apply Kd.R_alloc | apply Kd.R_drewN | apply Kd.R_drew)); exact (Kd.R_mono (Kd.R_far (p := ⟨gb246, 4, none⟩) (Kd.R_far (p := ⟨gb246, 3, none⟩) (Kd.R_far (p := ⟨gb246, 2, none⟩) (Kd.R_far (p := ⟨gb246, 1, none⟩) (Kd.R_far (p := ⟨gb246, 0, none⟩) (Kd.R_types HO235.out BK246.out (by decide)) (fun _ hk => hk.2) (.int .i64 t236)) (fun _ hk => hk.2) (.int .i64 t237)) (fun _ hk => hk.2) (.int .i64 t238)) (fun _ hk => hk.2) (.slice Ao23 t239.length co23)) (fun _ hk => hk.2) (.slice Ao24 t242.length co24)) (fun _ h_ => h_.1))) (Kd.R_base ho32) hb); have n2_ := Aside0.mk (Kd.R_elder' (by (with_reducible repeat (first | apply Kd.R_alloc | apply Kd.R_drewN | apply Kd.R_drew)); exact (Kd.R_mono (Kd.R_far (p := ⟨gb246, 4, none⟩) (Kd.R_far (p := ⟨gb246, 3, none⟩) (Kd.R_far (p := ⟨gb246, 2, none⟩) (Kd.R_far (p := ⟨gb246, 1, none⟩) (Kd.R_far (p := ⟨gb246, 0, none⟩) (Kd.R_types HO241.out BK246.out (by decide)) (fun _ hk => hk.2) (.int .i64 t236)) (fun _ hk => hk.2) (.int .i64 t237)) (fun _ hk => hk.2) (.int .i64 t238)) (fun _ hk => hk.2) (.slice Ao23 t239.length co23)) (fun _ hk => hk.2) (.slice Ao24 t242.length co24)) (fun _ h_ => h_.1))) (Kd.R_base ho32) hb); have n3_ := Aside0.mk (Kd.S_below (by (with_reducible repeat (first | apply Kd.S_alloc | apply Kd.S_drewN | apply Kd.S_drew)); exact (Kd.S_mono (Kd.S_far (p := ⟨gb246, 4, none⟩) (Kd.S_far (p := ⟨gb246, 3, none⟩) (Kd.S_far (p := ⟨gb246, 2, none⟩) (Kd.S_far (p := ⟨gb246, 1, none⟩) (Kd.S_far (p := ⟨gb246, 0, none⟩) (Kd.S_types HO244.out BK246.out (by decide)) (fun _ hk => hk.2) (.int .i64 t236)) (fun _ hk => hk.2) (.int .i64 t237)) (fun _ hk => hk.2) (.int .i64 t238)) (fun _ hk => hk.2) (.slice Ao23 t239.length co23)) (fun _ hk => hk.2) (.slice Ao24 t242.length co24)) (fun _ h_ => h_.1))) hb); have n4_ := Aside0.mk (Kd.R_lower (Kd.R_new' (Kd.R_new' ho32 (Kd.R_lt (by (with_reducible repeat (first | apply Kd.R_alloc | apply Kd.R_drewN | apply Kd.R_drew)); exact (Kd.R_mono (Kd.R_far (p := ⟨gb246, 4, none⟩) (Kd.R_far (p := ⟨gb246, 3, none⟩) (Kd.R_far (p := ⟨gb246, 2, none⟩) (Kd.R_far (p := ⟨gb246, 1, none⟩) (Kd.R_far (p := ⟨gb246, 0, none⟩) (Kd.R_types HO235.out BK246.out (by decide)) (fun _ hk => hk.2) (.int .i64 t236)) (fun _ hk => hk.2) (.int .i64 t237)) (fun _ hk => hk.2) (.int .i64 t238)) (fun _ hk => hk.2) (.slice Ao23 t239.length co23)) (fun _ hk => hk.2) (.slice Ao24 t242.length co24)) (fun _ h_ => h_.1))))) (Kd.R_lt (by (with_reducible repeat (first | apply Kd.R_alloc | apply Kd.R_drewN | apply Kd.R_drew)); exact (Kd.R_mono (Kd.R_far (p := ⟨gb246, 4, none⟩) (Kd.R_far (p := ⟨gb246, 3, none⟩) (Kd.R_far (p := ⟨gb246, 2, none⟩) (Kd.R_far (p := ⟨gb246, 1, none⟩) (Kd.R_far (p := ⟨gb246, 0, none⟩) (Kd.R_types HO241.out BK246.out (by decide)) (fun _ hk => hk.2) (.int .i64 t236)) (fun _ hk => hk.2) (.int .i64 t237)) (fun _ hk => hk.2) (.int .i64 t238)) (fun _ hk => hk.2) (.slice Ao23 t239.length co23)) (fun _ hk => hk.2) (.slice Ao24 t242.length co24)) (fun _ h_ => h_.1))))) (below_size (by repeat (first | (with_reducible first | exact HB.out | apply below_alloc | apply pw_below_drewN | apply below_drew1 | refine below_set ?_ GE246.out) | exact HB.out)))); have n5_ := Aside0.mk (blk_below (g := gb246) (o := .cells #[.int .i64 t236, .int .i64 t237, .int .i64 t238, .slice Ao23 t239.length co23, .slice Ao24 t242.length co24] 38 (0, 0)) (by (with_reducible repeat (first | refine blk_drewN ?_ _ | refine blk_drew ?_ | refine blk_alloc ?_ _)); refine blk_put (cs := #[.int .i64 t236, .int .i64 t237, .int .i64 t238, .slice Ao23 t239.length co23, .slice none 0 0]) ?_ 4 _ rfl; (with_reducible repeat (first | refine blk_drewN ?_ _ | refine blk_drew ?_ | refine blk_alloc ?_ _)); refine blk_put (cs := #[.int .i64 t236, .int .i64 t237, .int .i64 t238, .slice none 0 0, .slice none 0 0]) ?_ 3 _ rfl; (with_reducible repeat (first | refine blk_drewN ?_ _ | refine blk_drew ?_ | refine blk_alloc ?_ _)); refine blk_put (cs := #[.int .i64 t236, .int .i64 t237, .int .i64 0, .slice none 0 0, .slice none 0 0]) ?_ 2 _ rfl; (with_reducible repeat (first | refine blk_drewN ?_ _ | refine blk_drew ?_ | refine blk_alloc ?_ _)); refine blk_put (cs := #[.int .i64 t236, .int .i64 0, .int .i64 0, .slice none 0 0, .slice none 0 0]) ?_ 1 _ rfl; (with_reducible repeat (first | refine blk_drewN ?_ _ | refine blk_drew ?_ | refine blk_alloc ?_ _)); refine blk_put (cs := #[.int .i64 0, .int .i64 0, .int .i64 0, .slice none 0 0, .slice none 0 0]) ?_ 0 _ rfl; (with_reducible repeat (first | refine blk_drewN ?_ _ | refine blk_drew ?_ | refine blk_alloc ?_ _)); exact BK246.out) hb); have n6_ := Aside0.mk (below_step (by repeat (first | (with_reducible first | exact HB.out | apply below_alloc | apply pw_below_drewN | apply below_drew1 | refine below_set ?_ GE246.out) | exact HB.out)) hb); clear HO231; clear HO235; clear HO241; clear HO244; clear BK246; clear HB; have HO231 := n0_; have HO235 := n1_; have HO241 := n2_; have HO244 := n3_; have HO249 := n4_; have BK246 := n5_; have HB := n6_; clear n0_ n1_ n2_ n3_ n4_ n5_ n6_; clear hb ho32; obtain ⟨Ao33, co33, eo33⟩ := Kd.R_slice HO249.out; subst eo33) | (go_at_call 15; (with_reducible refine (standbyref23_SameInts.calls kj3 _ _ t239 _ _ y247 t250 _ ?side1 ?side2 ?side3 ?side4 A29.out).mono ?_); (case side1 => repeat (first | exact (Kd.R_reads' HO241.out).2.2 | (with_reducible refine Kd.C_alloc ?_ _) | (with_reducible refine Kd.C_drewN ?_ _) | (with_reducible refine Kd.C_drew ?_))); (case side2 => exact (Kd.R_reads' HO241.out).2.1); (case side3 => repeat (first | exact (Kd.R_reads' HO249.out).2.2 | (with_reducible refine Kd.C_alloc ?_ _) | (with_reducible refine Kd.C_drewN ?_ _) | (with_reducible refine Kd.C_drew ?_))); (case side4 => exact (Kd.R_reads' HO249.out).2.1); rintro e w' ⟨rfl, ⟨nd, rfl⟩⟩))
                    go_meet
                    case rel => exact ⟨_, (!t250), (by first | rfl | (simp; done) | (simp [*]; done)), H', ⟨by have := HJ3.out; first | omega | exact Nat.le_refl _⟩, ⟨by (with_reducible repeat (first | apply Kd.S_alloc | apply Kd.S_drewN | apply Kd.S_drew)); exact HO231.out⟩, ⟨by (with_reducible repeat (first | apply Kd.R_alloc | apply Kd.R_drewN | apply Kd.R_drew)); exact Kd.R_mono HO241.out (fun _ hk => trivial)⟩, ⟨by (with_reducible repeat (first | apply Kd.S_alloc | apply Kd.S_drewN | apply Kd.S_drew)); exact HO244.out⟩, ⟨by (with_reducible repeat (first | refine blk_drewN ?_ _ | refine blk_drew ?_ | refine blk_alloc ?_ _)); exact BK246.out⟩, ⟨by repeat (first | (with_reducible first | exact HB.out | apply below_alloc | apply pw_below_drewN | apply below_drew1 | refine below_set ?_ GE246.out) | exact HB.out)⟩⟩
                  · rw [if_neg c28] at H
                    have c28b0 : (t238 == 5) = false := beq_eq_false_iff_ne.mpr c28
                    have c28b1 : (t238 != 5) = true := bne_iff_ne.mpr c28
                    have H' := Aside0.mk H
                    clear H
                    have hcz34_0 : w21.cell? ⟨gb246, 0, none⟩ = some (.int .i64 0) := (blk_cell BK246.out 0).trans rfl
                    have hcz34_1 : w21.cell? ⟨gb246, 1, none⟩ = some (.int .i64 0) := (blk_cell BK246.out 1).trans rfl
                    have hcz34_2 : w21.cell? ⟨gb246, 2, none⟩ = some (.int .i64 0) := (blk_cell BK246.out 2).trans rfl
                    have hcz34_3 : w21.cell? ⟨gb246, 3, none⟩ = some (.slice none 0 0) := (blk_cell BK246.out 3).trans rfl
                    have hcz34_4 : w21.cell? ⟨gb246, 4, none⟩ = some (.slice none 0 0) := (blk_cell BK246.out 4).trans rfl
                    have hfz34_0 := blk_frozen BK246.out 0
                    have hfz34_1 := blk_frozen BK246.out 1
                    have hfz34_2 := blk_frozen BK246.out 2
                    have hfz34_3 := blk_frozen BK246.out 3
                    have hfz34_4 := blk_frozen BK246.out 4
                    go_wp2
                    go_meet
                    case rel => exact ⟨_, (true), (by first | rfl | (simp; done) | (simp [*]; done)), H', ⟨by have := HJ3.out; first | omega | exact Nat.le_refl _⟩, ⟨by (with_reducible repeat (first | apply Kd.S_alloc | apply Kd.S_drewN | apply Kd.S_drew)); exact Kd.S_mono (Kd.S_far (p := ⟨gb246, 4, none⟩) (Kd.S_far (p := ⟨gb246, 3, none⟩) (Kd.S_far (p := ⟨gb246, 2, none⟩) (Kd.S_far (p := ⟨gb246, 1, none⟩) (Kd.S_far (p := ⟨gb246, 0, none⟩) (Kd.S_types HO231.out BK246.out (by decide)) (fun _ hk => hk.2) (.int .i64 t236)) (fun _ hk => hk.2) (.int .i64 t237)) (fun _ hk => hk.2) (.int .i64 t238)) (fun _ hk => hk.2) (.slice Ao23 t239.length co23)) (fun _ hk => hk.2) (.slice Ao24 t242.length co24)) (fun _ hk => trivial)⟩, ⟨by (with_reducible repeat (first | apply Kd.R_alloc | apply Kd.R_drewN | apply Kd.R_drew)); exact Kd.R_mono (Kd.R_far (p := ⟨gb246, 4, none⟩) (Kd.R_far (p := ⟨gb246, 3, none⟩) (Kd.R_far (p := ⟨gb246, 2, none⟩) (Kd.R_far (p := ⟨gb246, 1, none⟩) (Kd.R_far (p := ⟨gb246, 0, none⟩) (Kd.R_types HO241.out BK246.out (by decide)) (fun _ hk => hk.2) (.int .i64 t236)) (fun _ hk => hk.2) (.int .i64 t237)) (fun _ hk => hk.2) (.int .i64 t238)) (fun _ hk => hk.2) (.slice Ao23 t239.length co23)) (fun _ hk => hk.2) (.slice Ao24 t242.length co24)) (fun _ hk => trivial)⟩, ⟨by (with_reducible repeat (first | apply Kd.S_alloc | apply Kd.S_drewN | apply Kd.S_drew)); exact Kd.S_mono (Kd.S_far (p := ⟨gb246, 4, none⟩) (Kd.S_far (p := ⟨gb246, 3, none⟩) (Kd.S_far (p := ⟨gb246, 2, none⟩) (Kd.S_far (p := ⟨gb246, 1, none⟩) (Kd.S_far (p := ⟨gb246, 0, none⟩) (Kd.S_types HO244.out BK246.out (by decide)) (fun _ hk => hk.2) (.int .i64 t236)) (fun _ hk => hk.2) (.int .i64 t237)) (fun _ hk => hk.2) (.int .i64 t238)) (fun _ hk => hk.2) (.slice Ao23 t239.length co23)) (fun _ hk => hk.2) (.slice Ao24 t242.length co24)) (fun _ hk => trivial)⟩, ⟨by (with_reducible repeat (first | refine blk_drewN ?_ _ | refine blk_drew ?_ | refine blk_alloc ?_ _)); refine blk_put (cs := #[.int .i64 t236, .int .i64 t237, .int .i64 t238, .slice Ao23 t239.length co23, .slice none 0 0]) ?_ 4 _ rfl; (with_reducible repeat (first | refine blk_drewN ?_ _ | refine blk_drew ?_ | refine blk_alloc ?_ _)); refine blk_put (cs := #[.int .i64 t236, .int .i64 t237, .int .i64 t238, .slice none 0 0, .slice none 0 0]) ?_ 3 _ rfl; (with_reducible repeat (first | refine blk_drewN ?_ _ | refine blk_drew ?_ | refine blk_alloc ?_ _)); refine blk_put (cs := #[.int .i64 t236, .int .i64 t237, .int .i64 0, .slice none 0 0, .slice none 0 0]) ?_ 2 _ rfl; (with_reducible repeat (first | refine blk_drewN ?_ _ | refine blk_drew ?_ | refine blk_alloc ?_ _)); refine blk_put (cs := #[.int .i64 t236, .int .i64 0, .int .i64 0, .slice none 0 0, .slice none 0 0]) ?_ 1 _ rfl; (with_reducible repeat (first | refine blk_drewN ?_ _ | refine blk_drew ?_ | refine blk_alloc ?_ _)); refine blk_put (cs := #[.int .i64 0, .int .i64 0, .int .i64 0, .slice none 0 0, .slice none 0 0]) ?_ 0 _ rfl; (with_reducible repeat (first | refine blk_drewN ?_ _ | refine blk_drew ?_ | refine blk_alloc ?_ _)); exact BK246.out⟩, ⟨by repeat (first | (with_reducible first | exact HB.out | apply below_alloc | apply pw_below_drewN | apply below_drew1 | refine below_set ?_ GE246.out) | exact HB.out)⟩⟩
                · rw [if_neg c27] at H
                  have c27b0 : (t237 == (wrap64 ((wrap64 (a2)) + 1))) = false := beq_eq_false_iff_ne.mpr c27
                  have c27b1 : (t237 != (wrap64 ((wrap64 (a2)) + 1))) = true := bne_iff_ne.mpr c27
                  have H' := Aside0.mk H
                  clear H
                  have hcz35_0 : w21.cell? ⟨gb246, 0, none⟩ = some (.int .i64 0) := (blk_cell BK246.out 0).trans rfl
                  have hcz35_1 : w21.cell? ⟨gb246, 1, none⟩ = some (.int .i64 0) := (blk_cell BK246.out 1).trans rfl
                  have hcz35_2 : w21.cell? ⟨gb246, 2, none⟩ = some (.int .i64 0) := (blk_cell BK246.out 2).trans rfl
                  have hcz35_3 : w21.cell? ⟨gb246, 3, none⟩ = some (.slice none 0 0) := (blk_cell BK246.out 3).trans rfl
                  have hcz35_4 : w21.cell? ⟨gb246, 4, none⟩ = some (.slice none 0 0) := (blk_cell BK246.out 4).trans rfl
                  have hfz35_0 := blk_frozen BK246.out 0
                  have hfz35_1 := blk_frozen BK246.out 1
                  have hfz35_2 := blk_frozen BK246.out 2
                  have hfz35_3 := blk_frozen BK246.out 3
                  have hfz35_4 := blk_frozen BK246.out 4
                  go_wp2
                  go_meet
                  case rel => exact ⟨_, (true), (by first | rfl | (simp; done) | (simp [*]; done)), H', ⟨by have := HJ3.out; first | omega | exact Nat.le_refl _⟩, ⟨by (with_reducible repeat (first | apply Kd.S_alloc | apply Kd.S_drewN | apply Kd.S_drew)); exact Kd.S_mono (Kd.S_far (p := ⟨gb246, 4, none⟩) (Kd.S_far (p := ⟨gb246, 3, none⟩) (Kd.S_far (p := ⟨gb246, 2, none⟩) (Kd.S_far (p := ⟨gb246, 1, none⟩) (Kd.S_far (p := ⟨gb246, 0, none⟩) (Kd.S_types HO231.out BK246.out (by decide)) (fun _ hk => hk.2) (.int .i64 t236)) (fun _ hk => hk.2) (.int .i64 t237)) (fun _ hk => hk.2) (.int .i64 t238)) (fun _ hk => hk.2) (.slice Ao23 t239.length co23)) (fun _ hk => hk.2) (.slice Ao24 t242.length co24)) (fun _ hk => trivial)⟩, ⟨by (with_reducible repeat (first | apply Kd.R_alloc | apply Kd.R_drewN | apply Kd.R_drew)); exact Kd.R_mono (Kd.R_far (p := ⟨gb246, 4, none⟩) (Kd.R_far (p := ⟨gb246, 3, none⟩) (Kd.R_far (p := ⟨gb246, 2, none⟩) (Kd.R_far (p := ⟨gb246, 1, none⟩) (Kd.R_far (p := ⟨gb246, 0, none⟩) (Kd.R_types HO241.out BK246.out (by decide)) (fun _ hk => hk.2) (.int .i64 t236)) (fun _ hk => hk.2) (.int .i64 t237)) (fun _ hk => hk.2) (.int .i64 t238)) (fun _ hk => hk.2) (.slice Ao23 t239.length co23)) (fun _ hk => hk.2) (.slice Ao24 t242.length co24)) (fun _ hk => trivial)⟩, ⟨by (with_reducible repeat (first | apply Kd.S_alloc | apply Kd.S_drewN | apply Kd.S_drew)); exact Kd.S_mono (Kd.S_far (p := ⟨gb246, 4, none⟩) (Kd.S_far (p := ⟨gb246, 3, none⟩) (Kd.S_far (p := ⟨gb246, 2, none⟩) (Kd.S_far (p := ⟨gb246, 1, none⟩) (Kd.S_far (p := ⟨gb246, 0, none⟩) (Kd.S_types HO244.out BK246.out (by decide)) (fun _ hk => hk.2) (.int .i64 t236)) (fun _ hk => hk.2) (.int .i64 t237)) (fun _ hk => hk.2) (.int .i64 t238)) (fun _ hk => hk.2) (.slice Ao23 t239.length co23)) (fun _ hk => hk.2) (.slice Ao24 t242.length co24)) (fun _ hk => trivial)⟩, ⟨by (with_reducible repeat (first | refine blk_drewN ?_ _ | refine blk_drew ?_ | refine blk_alloc ?_ _)); refine blk_put (cs := #[.int .i64 t236, .int .i64 t237, .int .i64 t238, .slice Ao23 t239.length co23, .slice none 0 0]) ?_ 4 _ rfl; (with_reducible repeat (first | refine blk_drewN ?_ _ | refine blk_drew ?_ | refine blk_alloc ?_ _)); refine blk_put (cs := #[.int .i64 t236, .int .i64 t237, .int .i64 t238, .slice none 0 0, .slice none 0 0]) ?_ 3 _ rfl; (with_reducible repeat (first | refine blk_drewN ?_ _ | refine blk_drew ?_ | refine blk_alloc ?_ _)); refine blk_put (cs := #[.int .i64 t236, .int .i64 t237, .int .i64 0, .slice none 0 0, .slice none 0 0]) ?_ 2 _ rfl; (with_reducible repeat (first | refine blk_drewN ?_ _ | refine blk_drew ?_ | refine blk_alloc ?_ _)); refine blk_put (cs := #[.int .i64 t236, .int .i64 0, .int .i64 0, .slice none 0 0, .slice none 0 0]) ?_ 1 _ rfl; (with_reducible repeat (first | refine blk_drewN ?_ _ | refine blk_drew ?_ | refine blk_alloc ?_ _)); refine blk_put (cs := #[.int .i64 0, .int .i64 0, .int .i64 0, .slice none 0 0, .slice none 0 0]) ?_ 0 _ rfl; (with_reducible repeat (first | refine blk_drewN ?_ _ | refine blk_drew ?_ | refine blk_alloc ?_ _)); exact BK246.out⟩, ⟨by repeat (first | (with_reducible first | exact HB.out | apply below_alloc | apply pw_below_drewN | apply below_drew1 | refine below_set ?_ GE246.out) | exact HB.out)⟩⟩
              · rw [if_neg c26] at H
                have c26b0 : (t236 == (wrap64 (a2))) = false := beq_eq_false_iff_ne.mpr c26
                have c26b1 : (t236 != (wrap64 (a2))) = true := bne_iff_ne.mpr c26
                have H' := Aside0.mk H
                clear H
                have hcz36_0 : w21.cell? ⟨gb246, 0, none⟩ = some (.int .i64 0) := (blk_cell BK246.out 0).trans rfl
                have hcz36_1 : w21.cell? ⟨gb246, 1, none⟩ = some (.int .i64 0) := (blk_cell BK246.out 1).trans rfl
                have hcz36_2 : w21.cell? ⟨gb246, 2, none⟩ = some (.int .i64 0) := (blk_cell BK246.out 2).trans rfl
                have hcz36_3 : w21.cell? ⟨gb246, 3, none⟩ = some (.slice none 0 0) := (blk_cell BK246.out 3).trans rfl
                have hcz36_4 : w21.cell? ⟨gb246, 4, none⟩ = some (.slice none 0 0) := (blk_cell BK246.out 4).trans rfl
                have hfz36_0 := blk_frozen BK246.out 0
                have hfz36_1 := blk_frozen BK246.out 1
                have hfz36_2 := blk_frozen BK246.out 2
                have hfz36_3 := blk_frozen BK246.out 3
                have hfz36_4 := blk_frozen BK246.out 4
                go_wp2
                go_meet
                case rel => exact ⟨_, (true), (by first | rfl | (simp; done) | (simp [*]; done)), H', ⟨by have := HJ3.out; first | omega | exact Nat.le_refl _⟩, ⟨by (with_reducible repeat (first | apply Kd.S_alloc | apply Kd.S_drewN | apply Kd.S_drew)); exact Kd.S_mono (Kd.S_far (p := ⟨gb246, 4, none⟩) (Kd.S_far (p := ⟨gb246, 3, none⟩) (Kd.S_far (p := ⟨gb246, 2, none⟩) (Kd.S_far (p := ⟨gb246, 1, none⟩) (Kd.S_far (p := ⟨gb246, 0, none⟩) (Kd.S_types HO231.out BK246.out (by decide)) (fun _ hk => hk.2) (.int .i64 t236)) (fun _ hk => hk.2) (.int .i64 t237)) (fun _ hk => hk.2) (.int .i64 t238)) (fun _ hk => hk.2) (.slice Ao23 t239.length co23)) (fun _ hk => hk.2) (.slice Ao24 t242.length co24)) (fun _ hk => trivial)⟩, ⟨by (with_reducible repeat (first | apply Kd.R_alloc | apply Kd.R_drewN | apply Kd.R_drew)); exact Kd.R_mono (Kd.R_far (p := ⟨gb246, 4, none⟩) (Kd.R_far (p := ⟨gb246, 3, none⟩) (Kd.R_far (p := ⟨gb246, 2, none⟩) (Kd.R_far (p := ⟨gb246, 1, none⟩) (Kd.R_far (p := ⟨gb246, 0, none⟩) (Kd.R_types HO241.out BK246.out (by decide)) (fun _ hk => hk.2) (.int .i64 t236)) (fun _ hk => hk.2) (.int .i64 t237)) (fun _ hk => hk.2) (.int .i64 t238)) (fun _ hk => hk.2) (.slice Ao23 t239.length co23)) (fun _ hk => hk.2) (.slice Ao24 t242.length co24)) (fun _ hk => trivial)⟩, ⟨by (with_reducible repeat (first | apply Kd.S_alloc | apply Kd.S_drewN | apply Kd.S_drew)); exact Kd.S_mono (Kd.S_far (p := ⟨gb246, 4, none⟩) (Kd.S_far (p := ⟨gb246, 3, none⟩) (Kd.S_far (p := ⟨gb246, 2, none⟩) (Kd.S_far (p := ⟨gb246, 1, none⟩) (Kd.S_far (p := ⟨gb246, 0, none⟩) (Kd.S_types HO244.out BK246.out (by decide)) (fun _ hk => hk.2) (.int .i64 t236)) (fun _ hk => hk.2) (.int .i64 t237)) (fun _ hk => hk.2) (.int .i64 t238)) (fun _ hk => hk.2) (.slice Ao23 t239.length co23)) (fun _ hk => hk.2) (.slice Ao24 t242.length co24)) (fun _ hk => trivial)⟩, ⟨by (with_reducible repeat (first | refine blk_drewN ?_ _ | refine blk_drew ?_ | refine blk_alloc ?_ _)); refine blk_put (cs := #[.int .i64 t236, .int .i64 t237, .int .i64 t238, .slice Ao23 t239.length co23, .slice none 0 0]) ?_ 4 _ rfl; (with_reducible repeat (first | refine blk_drewN ?_ _ | refine blk_drew ?_ | refine blk_alloc ?_ _)); refine blk_put (cs := #[.int .i64 t236, .int .i64 t237, .int .i64 t238, .slice none 0 0, .slice none 0 0]) ?_ 3 _ rfl; (with_reducible repeat (first | refine blk_drewN ?_ _ | refine blk_drew ?_ | refine blk_alloc ?_ _)); refine blk_put (cs := #[.int .i64 t236, .int .i64 t237, .int .i64 0, .slice none 0 0, .slice none 0 0]) ?_ 2 _ rfl; (with_reducible repeat (first | refine blk_drewN ?_ _ | refine blk_drew ?_ | refine blk_alloc ?_ _)); refine blk_put (cs := #[.int .i64 t236, .int .i64 0, .int .i64 0, .slice none 0 0, .slice none 0 0]) ?_ 1 _ rfl; (with_reducible repeat (first | refine blk_drewN ?_ _ | refine blk_drew ?_ | refine blk_alloc ?_ _)); refine blk_put (cs := #[.int .i64 0, .int .i64 0, .int .i64 0, .slice none 0 0, .slice none 0 0]) ?_ 0 _ rfl; (with_reducible repeat (first | refine blk_drewN ?_ _ | refine blk_drew ?_ | refine blk_alloc ?_ _)); exact BK246.out⟩, ⟨by repeat (first | (with_reducible first | exact HB.out | apply below_alloc | apply pw_below_drewN | apply below_drew1 | refine below_set ?_ GE246.out) | exact HB.out)⟩⟩
            · rw [if_neg c25] at H
              have c25b0 : (t245 == 0) = false := beq_eq_false_iff_ne.mpr c25
              have c25b1 : (t245 != 0) = true := bne_iff_ne.mpr c25
              (first | rw [c25b0] | (simp only [i64_w, i32_w]; rw [c25b0]) | skip)
              have H' := Aside0.mk H
              clear H
              go_wp2
              go_meet
              case rel => exact ⟨_, (true), (by first | rfl | (simp; done) | (simp [*]; done)), H', ⟨by have := HJ3.out; first | omega | exact Nat.le_refl _⟩, ⟨by (with_reducible repeat (first | apply Kd.S_alloc | apply Kd.S_drewN | apply Kd.S_drew)); exact Kd.S_mono (Kd.S_far (p := ⟨gb246, 4, none⟩) (Kd.S_far (p := ⟨gb246, 3, none⟩) (Kd.S_far (p := ⟨gb246, 2, none⟩) (Kd.S_far (p := ⟨gb246, 1, none⟩) (Kd.S_far (p := ⟨gb246, 0, none⟩) (Kd.S_types HO231.out BK246.out (by decide)) (fun _ hk => hk.2) (.int .i64 t236)) (fun _ hk => hk.2) (.int .i64 t237)) (fun _ hk => hk.2) (.int .i64 t238)) (fun _ hk => hk.2) (.slice Ao23 t239.length co23)) (fun _ hk => hk.2) (.slice Ao24 t242.length co24)) (fun _ hk => trivial)⟩, ⟨by (with_reducible repeat (first | apply Kd.R_alloc | apply Kd.R_drewN | apply Kd.R_drew)); exact Kd.R_mono (Kd.R_far (p := ⟨gb246, 4, none⟩) (Kd.R_far (p := ⟨gb246, 3, none⟩) (Kd.R_far (p := ⟨gb246, 2, none⟩) (Kd.R_far (p := ⟨gb246, 1, none⟩) (Kd.R_far (p := ⟨gb246, 0, none⟩) (Kd.R_types HO241.out BK246.out (by decide)) (fun _ hk => hk.2) (.int .i64 t236)) (fun _ hk => hk.2) (.int .i64 t237)) (fun _ hk => hk.2) (.int .i64 t238)) (fun _ hk => hk.2) (.slice Ao23 t239.length co23)) (fun _ hk => hk.2) (.slice Ao24 t242.length co24)) (fun _ hk => trivial)⟩, ⟨by (with_reducible repeat (first | apply Kd.S_alloc | apply Kd.S_drewN | apply Kd.S_drew)); exact Kd.S_mono (Kd.S_far (p := ⟨gb246, 4, none⟩) (Kd.S_far (p := ⟨gb246, 3, none⟩) (Kd.S_far (p := ⟨gb246, 2, none⟩) (Kd.S_far (p := ⟨gb246, 1, none⟩) (Kd.S_far (p := ⟨gb246, 0, none⟩) (Kd.S_types HO244.out BK246.out (by decide)) (fun _ hk => hk.2) (.int .i64 t236)) (fun _ hk => hk.2) (.int .i64 t237)) (fun _ hk => hk.2) (.int .i64 t238)) (fun _ hk => hk.2) (.slice Ao23 t239.length co23)) (fun _ hk => hk.2) (.slice Ao24 t242.length co24)) (fun _ hk => trivial)⟩, ⟨by (with_reducible repeat (first | refine blk_drewN ?_ _ | refine blk_drew ?_ | refine blk_alloc ?_ _)); refine blk_put (cs := #[.int .i64 t236, .int .i64 t237, .int .i64 t238, .slice Ao23 t239.length co23, .slice none 0 0]) ?_ 4 _ rfl; (with_reducible repeat (first | refine blk_drewN ?_ _ | refine blk_drew ?_ | refine blk_alloc ?_ _)); refine blk_put (cs := #[.int .i64 t236, .int .i64 t237, .int .i64 t238, .slice none 0 0, .slice none 0 0]) ?_ 3 _ rfl; (with_reducible repeat (first | refine blk_drewN ?_ _ | refine blk_drew ?_ | refine blk_alloc ?_ _)); refine blk_put (cs := #[.int .i64 t236, .int .i64 t237, .int .i64 0, .slice none 0 0, .slice none 0 0]) ?_ 2 _ rfl; (with_reducible repeat (first | refine blk_drewN ?_ _ | refine blk_drew ?_ | refine blk_alloc ?_ _)); refine blk_put (cs := #[.int .i64 t236, .int .i64 0, .int .i64 0, .slice none 0 0, .slice none 0 0]) ?_ 1 _ rfl; (with_reducible repeat (first | refine blk_drewN ?_ _ | refine blk_drew ?_ | refine blk_alloc ?_ _)); refine blk_put (cs := #[.int .i64 0, .int .i64 0, .int .i64 0, .slice none 0 0, .slice none 0 0]) ?_ 0 _ rfl; (with_reducible repeat (first | refine blk_drewN ?_ _ | refine blk_drew ?_ | refine blk_alloc ?_ _)); exact BK246.out⟩, ⟨by repeat (first | (with_reducible first | exact HB.out | apply below_alloc | apply pw_below_drewN | apply below_drew1 | refine below_set ?_ GE246.out) | exact HB.out)⟩⟩
          case rest =>
            clear HC14
            try clear c1
            try clear c2
            try clear p2
            try clear c4
            try clear c5
            try clear c6
            try clear p6
            try clear c7
            try clear c8
            try clear c10
            try clear c12
            try clear c12b0
            try clear c12b1
            try clear c14
            try clear c25
            try clear c25b0
            try clear c25b1
            try clear c26
            try clear c26b0
            try clear c26b1
            try clear c27
            try clear c27b0
            try clear c27b1
            try clear c28
            try clear c28b0
            try clear c28b1
            try clear hcz22_0
            try clear hcz22_1
            try clear hcz22_2
            try clear hcz22_3
            try clear hcz22_4
            try clear hcz30_0
            try clear hcz30_1
            try clear hcz30_2
            try clear hcz30_3
            try clear hcz30_4
            try clear hcz34_0
            try clear hcz34_1
            try clear hcz34_2
            try clear hcz34_3
            try clear hcz34_4
            try clear hcz35_0
            try clear hcz35_1
            try clear hcz35_2
            try clear hcz35_3
            try clear hcz35_4
            try clear hcz36_0
            try clear hcz36_1
            try clear hcz36_2
            try clear hcz36_3
            try clear hcz36_4
            try clear hfz22_0
            try clear hfz22_1
            try clear hfz22_2
            try clear hfz22_3
            try clear hfz22_4
            try clear hfz30_0
            try clear hfz30_1
            try clear hfz30_2
            try clear hfz30_3
            try clear hfz30_4
            try clear hfz34_0
            try clear hfz34_1
            try clear hfz34_2
            try clear hfz34_3
            try clear hfz34_4
            try clear hfz35_0
            try clear hfz35_1
            try clear hfz35_2
            try clear hfz35_3
            try clear hfz35_4
            try clear hfz36_0
            try clear hfz36_1
            try clear hfz36_2
            try clear hfz36_3
            try clear hfz36_4
            try clear p2
            obtain ⟨kq, x74_13, rfl, HA, HJ13, HO_7, HO_247003, HO_247004, BK246, HB⟩ := hcut
            cases kq with
            | zero => exact absurd HA.out (by simp [standbylaw45_ResyncApplies.j1])
            | succ kj13 =>
              have H := HA.out
              clear HA
              simp only [standbylaw45_ResyncApplies.j1] at H
              by_cases c37 : x74_13 = true
              · subst c37
                have H1 : (some false) = some r := by rw [if_pos rfl] at H; exact H
                clear H
                have H := H1
                clear H1
                obtain rfl := Option.some.inj H
                go_wp2
                go_ret
                exact ⟨by first | rfl | (simp [errW_none, errW_some] <;> rfl) | (simp [*, errW_none, errW_some] <;> rfl), by repeat (first | (with_reducible first | exact HB.out | apply below_alloc | apply pw_below_drewN | apply below_drew1 | refine below_set ?_ GE246.out) | exact HB.out)⟩
              · replace c37 := Bool.eq_false_iff.mpr c37
                subst c37
                have H1 : ((image_Apply.f l1 t242).bind fun bt251 => ((standbylaw45_differing.f kj13 l0 l1 t228).bind fun bt256 => ((standbylaw45_awake.f kj13).bind fun t258 => (if t258 = true then (if bt251.2.2 = 0 then ((standbyref07_Same.f kj13 bt251.1 l0).bind fun t259 => (if t259 = true then ((standbyref22_Sectors.f kj13 t242).bind fun t260 => (some (t260 == bt256.1))) else (some false))) else (some false)) else (some false))))) = some r := by rw [if_neg (show ¬ (false = true) by decide)] at H; exact H
                clear H
                have H := H1
                clear H1
                replace H := Option.bind_eq_some_iff.mp H
                obtain ⟨⟨t251, t252, t253⟩, A380, H⟩ := H
                replace H : ((standbylaw45_differing.f kj13 l0 l1 t228).bind fun bt256 => ((standbylaw45_awake.f kj13).bind fun t258 => (if t258 = true then (if t253 = 0 then ((standbyref07_Same.f kj13 t251 l0).bind fun t259 => (if t259 = true then ((standbyref22_Sectors.f kj13 t242).bind fun t260 => (some (t260 == bt256.1))) else (some false))) else (some false)) else (some false)))) = some r := H
                have A38 := Aside0.mk A380
                clear A380
                replace H := Option.bind_eq_some_iff.mp H
                obtain ⟨⟨t256, t257⟩, A390, H⟩ := H
                replace H : ((standbylaw45_awake.f kj13).bind fun t258 => (if t258 = true then (if t253 = 0 then ((standbyref07_Same.f kj13 t251 l0).bind fun t259 => (if t259 = true then ((standbyref22_Sectors.f kj13 t242).bind fun t260 => (some (t260 == t256))) else (some false))) else (some false)) else (some false))) = some r := H
                have A39 := Aside0.mk A390
                clear A390
                replace H := Option.bind_eq_some_iff.mp H
                obtain ⟨t258, A400, H⟩ := H
                replace H : (if t258 = true then (if t253 = 0 then ((standbyref07_Same.f kj13 t251 l0).bind fun t259 => (if t259 = true then ((standbyref22_Sectors.f kj13 t242).bind fun t260 => (some (t260 == t256))) else (some false))) else (some false)) else (some false)) = some r := H
                have A40 := Aside0.mk A400
                clear A400
                by_cases c41 : t258 = true
                · subst c41
                  have H1 : (if t253 = 0 then ((standbyref07_Same.f kj13 t251 l0).bind fun t259 => (if t259 = true then ((standbyref22_Sectors.f kj13 t242).bind fun t260 => (some (t260 == t256))) else (some false))) else (some false)) = some r := by rw [if_pos rfl] at H; exact H
                  clear H
                  have H := H1
                  clear H1
                  by_cases c42 : t253 = 0
                  · rw [if_pos c42] at H
                    have c42b0 : (t253 == 0) = true := beq_iff_eq.mpr c42
                    have c42b1 : (t253 != 0) = false := bne_eq_false_iff_eq.mpr c42
                    clear c42
                    replace H := Option.bind_eq_some_iff.mp H
                    obtain ⟨t259, A430, H⟩ := H
                    replace H : (if t259 = true then ((standbyref22_Sectors.f kj13 t242).bind fun t260 => (some (t260 == t256))) else (some false)) = some r := H
                    have A43 := Aside0.mk A430
                    clear A430
                    by_cases c44 : t259 = true
                    · subst c44
                      have H1 : ((standbyref22_Sectors.f kj13 t242).bind fun t260 => (some (t260 == t256))) = some r := by rw [if_pos rfl] at H; exact H
                      clear H
                      have H := H1
                      clear H1
                      replace H := Option.bind_eq_some_iff.mp H
                      obtain ⟨t260, A450, H⟩ := H
                      replace H : (some (t260 == t256)) = some r := H
                      have A45 := Aside0.mk A450
                      clear A450
                      obtain rfl := Option.some.inj H
                      have hcz46_0 : wc.cell? ⟨gb246, 0, none⟩ = some (.int .i64 t236) := (blk_cell BK246.out 0).trans rfl
                      have hcz46_1 : wc.cell? ⟨gb246, 1, none⟩ = some (.int .i64 t237) := (blk_cell BK246.out 1).trans rfl
                      have hcz46_2 : wc.cell? ⟨gb246, 2, none⟩ = some (.int .i64 t238) := (blk_cell BK246.out 2).trans rfl
                      have hcz46_3 : wc.cell? ⟨gb246, 3, none⟩ = some (.slice Ao23 t239.length co23) := (blk_cell BK246.out 3).trans rfl
                      have hcz46_4 : wc.cell? ⟨gb246, 4, none⟩ = some (.slice Ao24 t242.length co24) := (blk_cell BK246.out 4).trans rfl
                      have hfz46_0 := blk_frozen BK246.out 0
                      have hfz46_1 := blk_frozen BK246.out 1
                      have hfz46_2 := blk_frozen BK246.out 2
                      have hfz46_3 := blk_frozen BK246.out 3
                      have hfz46_4 := blk_frozen BK246.out 4
                      go_wp2_with (first | ((with_reducible refine gate_callee (f := 16) rfl ?_); refine goesL_ (some 79) rfl rfl Tryz.func16 (by kernel_rfl) rfl #[.slice A1 l1.length c1, .slice Ao24 t242.length co24] rfl (by (try simp only [List.map_toArray, List.map_cons, List.map_nil]); first | done | rfl | (simp only [List.length_drop, List.length_take]; rfl)) ?_; (with_reducible refine (image_Apply.calls _ _ l1 _ _ t242 t251 t252 t253 _ ?side1 ?side2 ?side3 ?side4 A38.out).mono ?_); (case side1 => repeat (first | exact (Kd.C_below HR1.out HB.out) | (with_reducible refine Kd.C_alloc ?_ _) | (with_reducible refine Kd.C_drewN ?_ _) | (with_reducible refine Kd.C_drew ?_))); (case side2 => exact HC1.out); (case side3 => repeat (first | exact (Kd.S_reads' HO_247004.out).2.2 | (with_reducible refine Kd.C_alloc ?_ _) | (with_reducible refine Kd.C_drewN ?_ _) | (with_reducible refine Kd.C_drew ?_))); (case side4 => exact (Kd.S_reads' HO_247004.out).2.1); rintro e w47 ⟨v254, rfl, ho0, hb⟩; refine ⟨_, rfl, ?_⟩; have n0_ := Aside0.mk (Kd.S_below (by (with_reducible repeat (first | apply Kd.S_alloc | apply Kd.S_drewN | apply Kd.S_drew)); exact HO_7.out) hb); have n1_ := Aside0.mk (Kd.R_below (by (with_reducible repeat (first | apply Kd.R_alloc | apply Kd.R_drewN | apply Kd.R_drew)); exact HO_247003.out) hb); have n2_ := Aside0.mk (Kd.S_below (by (with_reducible repeat (first | apply Kd.S_alloc | apply Kd.S_drewN | apply Kd.S_drew)); exact HO_247004.out) hb); have n3_ := Aside0.mk (Kd.S_lower ho0 (below_size (by repeat (first | (with_reducible first | exact HB.out | apply below_alloc | apply pw_below_drewN | apply below_drew1 | refine below_set ?_ GE246.out) | exact HB.out)))); have n4_ := Aside0.mk (blk_below (g := gb246) (o := .cells #[.int .i64 t236, .int .i64 t237, .int .i64 t238, .slice Ao23 t239.length co23, .slice Ao24 t242.length co24] 38 (0, 0)) (by (with_reducible repeat (first | refine blk_drewN ?_ _ | refine blk_drew ?_ | refine blk_alloc ?_ _)); exact BK246.out) hb); have n5_ := Aside0.mk (below_step (by repeat (first | (with_reducible first | exact HB.out | apply below_alloc | apply pw_below_drewN | apply below_drew1 | refine below_set ?_ GE246.out) | exact HB.out)) hb); clear HO_7; clear HO_247003; clear HO_247004; clear BK246; clear HB; have HO_7 := n0_; have HO_247003 := n1_; have HO_247004 := n2_; have HO255 := n3_; have BK246 := n4_; have HB := n5_; clear n0_ n1_ n2_ n3_ n4_ n5_; (try clear hb); (try clear hb2); (try clear hk); (try clear hi); (try clear ho0)) | ((with_reducible refine gate_callee (f := 17) rfl ?_); refine goesL_ (some 87) rfl rfl Tryz.func17 (by kernel_rfl) rfl #[.slice A0 l0.length c0, .slice A1 l1.length c1, .slice Ao18 t228.length co18] rfl (by (try simp only [List.map_toArray, List.map_cons, List.map_nil]); first | done | rfl | (simp only [List.length_drop, List.length_take]; rfl)) ?_; (with_reducible refine (standbylaw45_differing.calls kj13 _ _ l0 _ _ l1 _ _ t228 t256 t257 _ ?side1 ?side2 ?side3 ?side4 ?side5 ?side6 A39.out).mono ?_); (case side1 => repeat (first | exact (Kd.C_below HR0.out HB.out) | (with_reducible refine Kd.C_alloc ?_ _) | (with_reducible refine Kd.C_drewN ?_ _) | (with_reducible refine Kd.C_drew ?_))); (case side2 => exact HC0.out); (case side3 => repeat (first | exact (Kd.C_below HR1.out HB.out) | (with_reducible refine Kd.C_alloc ?_ _) | (with_reducible refine Kd.C_drewN ?_ _) | (with_reducible refine Kd.C_drew ?_))); (case side4 => exact HC1.out); (case side5 => repeat (first | exact (Kd.S_reads' HO_7.out).2.2 | (with_reducible refine Kd.C_alloc ?_ _) | (with_reducible refine Kd.C_drewN ?_ _) | (with_reducible refine Kd.C_drew ?_))); (case side6 => exact (Kd.S_reads' HO_7.out).2.1); rintro e w48 ⟨rfl, hb⟩; refine ⟨_, rfl, ?_⟩; have n0_ := Aside0.mk (Kd.S_below (by (with_reducible repeat (first | apply Kd.S_alloc | apply Kd.S_drewN | apply Kd.S_drew)); exact HO_7.out) hb); have n1_ := Aside0.mk (Kd.R_below (by (with_reducible repeat (first | apply Kd.R_alloc | apply Kd.R_drewN | apply Kd.R_drew)); exact HO_247003.out) hb); have n2_ := Aside0.mk (Kd.S_below (by (with_reducible repeat (first | apply Kd.S_alloc | apply Kd.S_drewN | apply Kd.S_drew)); exact HO_247004.out) hb); have n3_ := Aside0.mk (Kd.S_below (by (with_reducible repeat (first | apply Kd.S_alloc | apply Kd.S_drewN | apply Kd.S_drew)); exact HO255.out) hb); have n4_ := Aside0.mk (blk_below (g := gb246) (o := .cells #[.int .i64 t236, .int .i64 t237, .int .i64 t238, .slice Ao23 t239.length co23, .slice Ao24 t242.length co24] 38 (0, 0)) (by (with_reducible repeat (first | refine blk_drewN ?_ _ | refine blk_drew ?_ | refine blk_alloc ?_ _)); exact BK246.out) hb); have n5_ := Aside0.mk (below_step (by repeat (first | (with_reducible first | exact HB.out | apply below_alloc | apply pw_below_drewN | apply below_drew1 | refine below_set ?_ GE246.out) | exact HB.out)) hb); clear HO_7; clear HO_247003; clear HO_247004; clear HO255; clear BK246; clear HB; have HO_7 := n0_; have HO_247003 := n1_; have HO_247004 := n2_; have HO255 := n3_; have BK246 := n4_; have HB := n5_; clear n0_ n1_ n2_ n3_ n4_ n5_; (try clear hb); (try clear hb2); (try clear hk); (try clear hi)) | ((with_reducible refine gate_callee (f := 7) rfl ?_); refine goesL_ (some 90) rfl rfl Tryz.func7 (by kernel_rfl) rfl #[] rfl (by (try simp only [List.map_toArray, List.map_cons, List.map_nil]); first | done | rfl | (simp only [List.length_drop, List.length_take]; rfl)) ?_; (with_reducible refine (standbylaw45_awake.calls kj13  true _ A40.out).mono ?_); rintro e w49 ⟨rfl, hb⟩; refine ⟨_, rfl, ?_⟩; have n0_ := Aside0.mk (Kd.S_below (by (with_reducible repeat (first | apply Kd.S_alloc | apply Kd.S_drewN | apply Kd.S_drew)); exact HO_7.out) hb); have n1_ := Aside0.mk (Kd.R_below (by (with_reducible repeat (first | apply Kd.R_alloc | apply Kd.R_drewN | apply Kd.R_drew)); exact HO_247003.out) hb); have n2_ := Aside0.mk (Kd.S_below (by (with_reducible repeat (first | apply Kd.S_alloc | apply Kd.S_drewN | apply Kd.S_drew)); exact HO_247004.out) hb); have n3_ := Aside0.mk (Kd.S_below (by (with_reducible repeat (first | apply Kd.S_alloc | apply Kd.S_drewN | apply Kd.S_drew)); exact HO255.out) hb); have n4_ := Aside0.mk (blk_below (g := gb246) (o := .cells #[.int .i64 t236, .int .i64 t237, .int .i64 t238, .slice Ao23 t239.length co23, .slice Ao24 t242.length co24] 38 (0, 0)) (by (with_reducible repeat (first | refine blk_drewN ?_ _ | refine blk_drew ?_ | refine blk_alloc ?_ _)); exact BK246.out) hb); have n5_ := Aside0.mk (below_step (by repeat (first | (with_reducible first | exact HB.out | apply below_alloc | apply pw_below_drewN | apply below_drew1 | refine below_set ?_ GE246.out) | exact HB.out)) hb); clear HO_7; clear HO_247003; clear HO_247004; clear HO255; clear BK246; clear HB; have HO_7 := n0_; have HO_247003 := n1_; have HO_247004 := n2_; have HO255 := n3_; have BK246 := n4_; have HB := n5_; clear n0_ n1_ n2_ n3_ n4_ n5_; (try clear hb); (try clear hb2); (try clear hk); (try clear hi); obtain ⟨Ao50, co50, eo50⟩ := Kd.S_slice HO255.out; subst eo50) | (go_at_call 18; (with_reducible refine (standbyref07_Same.calls kj13 _ _ t251 _ _ l0 true _ ?side1 ?side2 ?side3 ?side4 A43.out).mono ?_); (case side1 => repeat (first | exact (Kd.S_reads' HO255.out).2.2 | (with_reducible refine Kd.C_alloc ?_ _) | (with_reducible refine Kd.C_drewN ?_ _) | (with_reducible refine Kd.C_drew ?_))); (case side2 => exact (Kd.S_reads' HO255.out).2.1); (case side3 => repeat (first | exact (Kd.C_below HR0.out HB.out) | (with_reducible refine Kd.C_alloc ?_ _) | (with_reducible refine Kd.C_drewN ?_ _) | (with_reducible refine Kd.C_drew ?_))); (case side4 => exact HC0.out); rintro e w' ⟨rfl, ⟨nd, rfl⟩⟩; have hcz51_0 : w49.cell? ⟨gb246, 0, none⟩ = some (.int .i64 t236) := (blk_cell BK246.out 0).trans rfl; have hcz51_1 : w49.cell? ⟨gb246, 1, none⟩ = some (.int .i64 t237) := (blk_cell BK246.out 1).trans rfl; have hcz51_2 : w49.cell? ⟨gb246, 2, none⟩ = some (.int .i64 t238) := (blk_cell BK246.out 2).trans rfl; have hcz51_3 : w49.cell? ⟨gb246, 3, none⟩ = some (.slice Ao23 t239.length co23) := (blk_cell BK246.out 3).trans rfl; have hcz51_4 : w49.cell? ⟨gb246, 4, none⟩ = some (.slice Ao24 t242.length co24) := (blk_cell BK246.out 4).trans rfl; have hfz51_0 := blk_frozen BK246.out 0; have hfz51_1 := blk_frozen BK246.out 1; have hfz51_2 := blk_frozen BK246.out 2; have hfz51_3 := blk_frozen BK246.out 3; have hfz51_4 := blk_frozen BK246.out 4) | (go_at_call 19; (with_reducible refine (standbyref22_Sectors.calls kj13 _ _ t242 t260 _ ?side1 ?side2 A45.out).mono ?_); (case side1 => repeat (first | exact (Kd.S_reads' HO_247004.out).2.2 | (with_reducible refine Kd.C_alloc ?_ _) | (with_reducible refine Kd.C_drewN ?_ _) | (with_reducible refine Kd.C_drew ?_))); (case side2 => exact (Kd.S_reads' HO_247004.out).2.1); rintro e w' ⟨rfl, ⟨nd, rfl⟩⟩))
                      go_ret
                      exact ⟨by first | rfl | (simp [errW_none, errW_some] <;> rfl) | (simp [*, errW_none, errW_some] <;> rfl), by repeat (first | (with_reducible first | exact HB.out | apply below_alloc | apply pw_below_drewN | apply below_drew1 | refine below_set ?_ GE246.out) | exact HB.out)⟩
                    · replace c44 := Bool.eq_false_iff.mpr c44
                      subst c44
                      have H1 : (some false) = some r := by rw [if_neg (show ¬ (false = true) by decide)] at H; exact H
                      clear H
                      have H := H1
                      clear H1
                      obtain rfl := Option.some.inj H
                      have hcz52_0 : wc.cell? ⟨gb246, 0, none⟩ = some (.int .i64 t236) := (blk_cell BK246.out 0).trans rfl
                      have hcz52_1 : wc.cell? ⟨gb246, 1, none⟩ = some (.int .i64 t237) := (blk_cell BK246.out 1).trans rfl
                      have hcz52_2 : wc.cell? ⟨gb246, 2, none⟩ = some (.int .i64 t238) := (blk_cell BK246.out 2).trans rfl
                      have hcz52_3 : wc.cell? ⟨gb246, 3, none⟩ = some (.slice Ao23 t239.length co23) := (blk_cell BK246.out 3).trans rfl
                      have hcz52_4 : wc.cell? ⟨gb246, 4, none⟩ = some (.slice Ao24 t242.length co24) := (blk_cell BK246.out 4).trans rfl
                      have hfz52_0 := blk_frozen BK246.out 0
                      have hfz52_1 := blk_frozen BK246.out 1
                      have hfz52_2 := blk_frozen BK246.out 2
                      have hfz52_3 := blk_frozen BK246.out 3
                      have hfz52_4 := blk_frozen BK246.out 4
                      go_wp2_with (first | ((with_reducible refine gate_callee (f := 16) rfl ?_); refine goesL_ (some 79) rfl rfl Tryz.func16 (by kernel_rfl) rfl #[.slice A1 l1.length c1, .slice Ao24 t242.length co24] rfl (by (try simp only [List.map_toArray, List.map_cons, List.map_nil]); first | done | rfl | (simp only [List.length_drop, List.length_take]; rfl)) ?_; (with_reducible refine (image_Apply.calls _ _ l1 _ _ t242 t251 t252 t253 _ ?side1 ?side2 ?side3 ?side4 A38.out).mono ?_); (case side1 => repeat (first | exact (Kd.C_below HR1.out HB.out) | (with_reducible refine Kd.C_alloc ?_ _) | (with_reducible refine Kd.C_drewN ?_ _) | (with_reducible refine Kd.C_drew ?_))); (case side2 => exact HC1.out); (case side3 => repeat (first | exact (Kd.S_reads' HO_247004.out).2.2 | (with_reducible refine Kd.C_alloc ?_ _) | (with_reducible refine Kd.C_drewN ?_ _) | (with_reducible refine Kd.C_drew ?_))); (case side4 => exact (Kd.S_reads' HO_247004.out).2.1); rintro e w53 ⟨v254, rfl, ho0, hb⟩; refine ⟨_, rfl, ?_⟩; have n0_ := Aside0.mk (Kd.S_below (by (with_reducible repeat (first | apply Kd.S_alloc | apply Kd.S_drewN | apply Kd.S_drew)); exact HO_7.out) hb); have n1_ := Aside0.mk (Kd.R_below (by (with_reducible repeat (first | apply Kd.R_alloc | apply Kd.R_drewN | apply Kd.R_drew)); exact HO_247003.out) hb); have n2_ := Aside0.mk (Kd.S_below (by (with_reducible repeat (first | apply Kd.S_alloc | apply Kd.S_drewN | apply Kd.S_drew)); exact HO_247004.out) hb); have n3_ := Aside0.mk (Kd.S_lower ho0 (below_size (by repeat (first | (with_reducible first | exact HB.out | apply below_alloc | apply pw_below_drewN | apply below_drew1 | refine below_set ?_ GE246.out) | exact HB.out)))); have n4_ := Aside0.mk (blk_below (g := gb246) (o := .cells #[.int .i64 t236, .int .i64 t237, .int .i64 t238, .slice Ao23 t239.length co23, .slice Ao24 t242.length co24] 38 (0, 0)) (by (with_reducible repeat (first | refine blk_drewN ?_ _ | refine blk_drew ?_ | refine blk_alloc ?_ _)); exact BK246.out) hb); have n5_ := Aside0.mk (below_step (by repeat (first | (with_reducible first | exact HB.out | apply below_alloc | apply pw_below_drewN | apply below_drew1 | refine below_set ?_ GE246.out) | exact HB.out)) hb); clear HO_7; clear HO_247003; clear HO_247004; clear BK246; clear HB; have HO_7 := n0_; have HO_247003 := n1_; have HO_247004 := n2_; have HO255 := n3_; have BK246 := n4_; have HB := n5_; clear n0_ n1_ n2_ n3_ n4_ n5_; (try clear hb); (try clear hb2); (try clear hk); (try clear hi); (try clear ho0)) | ((with_reducible refine gate_callee (f := 17) rfl ?_); refine goesL_ (some 87) rfl rfl Tryz.func17 (by kernel_rfl) rfl #[.slice A0 l0.length c0, .slice A1 l1.length c1, .slice Ao18 t228.length co18] rfl (by (try simp only [List.map_toArray, List.map_cons, List.map_nil]); first | done | rfl | (simp only [List.length_drop, List.length_take]; rfl)) ?_; (with_reducible refine (standbylaw45_differing.calls kj13 _ _ l0 _ _ l1 _ _ t228 t256 t257 _ ?side1 ?side2 ?side3 ?side4 ?side5 ?side6 A39.out).mono ?_); (case side1 => repeat (first | exact (Kd.C_below HR0.out HB.out) | (with_reducible refine Kd.C_alloc ?_ _) | (with_reducible refine Kd.C_drewN ?_ _) | (with_reducible refine Kd.C_drew ?_))); (case side2 => exact HC0.out); (case side3 => repeat (first | exact (Kd.C_below HR1.out HB.out) | (with_reducible refine Kd.C_alloc ?_ _) | (with_reducible refine Kd.C_drewN ?_ _) | (with_reducible refine Kd.C_drew ?_))); (case side4 => exact HC1.out); (case side5 => repeat (first | exact (Kd.S_reads' HO_7.out).2.2 | (with_reducible refine Kd.C_alloc ?_ _) | (with_reducible refine Kd.C_drewN ?_ _) | (with_reducible refine Kd.C_drew ?_))); (case side6 => exact (Kd.S_reads' HO_7.out).2.1); rintro e w54 ⟨rfl, hb⟩; refine ⟨_, rfl, ?_⟩; have n0_ := Aside0.mk (Kd.S_below (by (with_reducible repeat (first | apply Kd.S_alloc | apply Kd.S_drewN | apply Kd.S_drew)); exact HO_7.out) hb); have n1_ := Aside0.mk (Kd.R_below (by (with_reducible repeat (first | apply Kd.R_alloc | apply Kd.R_drewN | apply Kd.R_drew)); exact HO_247003.out) hb); have n2_ := Aside0.mk (Kd.S_below (by (with_reducible repeat (first | apply Kd.S_alloc | apply Kd.S_drewN | apply Kd.S_drew)); exact HO_247004.out) hb); have n3_ := Aside0.mk (Kd.S_below (by (with_reducible repeat (first | apply Kd.S_alloc | apply Kd.S_drewN | apply Kd.S_drew)); exact HO255.out) hb); have n4_ := Aside0.mk (blk_below (g := gb246) (o := .cells #[.int .i64 t236, .int .i64 t237, .int .i64 t238, .slice Ao23 t239.length co23, .slice Ao24 t242.length co24] 38 (0, 0)) (by (with_reducible repeat (first | refine blk_drewN ?_ _ | refine blk_drew ?_ | refine blk_alloc ?_ _)); exact BK246.out) hb); have n5_ := Aside0.mk (below_step (by repeat (first | (with_reducible first | exact HB.out | apply below_alloc | apply pw_below_drewN | apply below_drew1 | refine below_set ?_ GE246.out) | exact HB.out)) hb); clear HO_7; clear HO_247003; clear HO_247004; clear HO255; clear BK246; clear HB; have HO_7 := n0_; have HO_247003 := n1_; have HO_247004 := n2_; have HO255 := n3_; have BK246 := n4_; have HB := n5_; clear n0_ n1_ n2_ n3_ n4_ n5_; (try clear hb); (try clear hb2); (try clear hk); (try clear hi)) | ((with_reducible refine gate_callee (f := 7) rfl ?_); refine goesL_ (some 90) rfl rfl Tryz.func7 (by kernel_rfl) rfl #[] rfl (by (try simp only [List.map_toArray, List.map_cons, List.map_nil]); first | done | rfl | (simp only [List.length_drop, List.length_take]; rfl)) ?_; (with_reducible refine (standbylaw45_awake.calls kj13  true _ A40.out).mono ?_); rintro e w55 ⟨rfl, hb⟩; refine ⟨_, rfl, ?_⟩; have n0_ := Aside0.mk (Kd.S_below (by (with_reducible repeat (first | apply Kd.S_alloc | apply Kd.S_drewN | apply Kd.S_drew)); exact HO_7.out) hb); have n1_ := Aside0.mk (Kd.R_below (by (with_reducible repeat (first | apply Kd.R_alloc | apply Kd.R_drewN | apply Kd.R_drew)); exact HO_247003.out) hb); have n2_ := Aside0.mk (Kd.S_below (by (with_reducible repeat (first | apply Kd.S_alloc | apply Kd.S_drewN | apply Kd.S_drew)); exact HO_247004.out) hb); have n3_ := Aside0.mk (Kd.S_below (by (with_reducible repeat (first | apply Kd.S_alloc | apply Kd.S_drewN | apply Kd.S_drew)); exact HO255.out) hb); have n4_ := Aside0.mk (blk_below (g := gb246) (o := .cells #[.int .i64 t236, .int .i64 t237, .int .i64 t238, .slice Ao23 t239.length co23, .slice Ao24 t242.length co24] 38 (0, 0)) (by (with_reducible repeat (first | refine blk_drewN ?_ _ | refine blk_drew ?_ | refine blk_alloc ?_ _)); exact BK246.out) hb); have n5_ := Aside0.mk (below_step (by repeat (first | (with_reducible first | exact HB.out | apply below_alloc | apply pw_below_drewN | apply below_drew1 | refine below_set ?_ GE246.out) | exact HB.out)) hb); clear HO_7; clear HO_247003; clear HO_247004; clear HO255; clear BK246; clear HB; have HO_7 := n0_; have HO_247003 := n1_; have HO_247004 := n2_; have HO255 := n3_; have BK246 := n4_; have HB := n5_; clear n0_ n1_ n2_ n3_ n4_ n5_; (try clear hb); (try clear hb2); (try clear hk); (try clear hi); obtain ⟨Ao56, co56, eo56⟩ := Kd.S_slice HO255.out; subst eo56) | (go_at_call 18; (with_reducible refine (standbyref07_Same.calls kj13 _ _ t251 _ _ l0 false _ ?side1 ?side2 ?side3 ?side4 A43.out).mono ?_); (case side1 => repeat (first | exact (Kd.S_reads' HO255.out).2.2 | (with_reducible refine Kd.C_alloc ?_ _) | (with_reducible refine Kd.C_drewN ?_ _) | (with_reducible refine Kd.C_drew ?_))); (case side2 => exact (Kd.S_reads' HO255.out).2.1); (case side3 => repeat (first | exact (Kd.C_below HR0.out HB.out) | (with_reducible refine Kd.C_alloc ?_ _) | (with_reducible refine Kd.C_drewN ?_ _) | (with_reducible refine Kd.C_drew ?_))); (case side4 => exact HC0.out); rintro e w' ⟨rfl, ⟨nd, rfl⟩⟩))
                      go_ret
                      exact ⟨by first | rfl | (simp [errW_none, errW_some] <;> rfl) | (simp [*, errW_none, errW_some] <;> rfl), by repeat (first | (with_reducible first | exact HB.out | apply below_alloc | apply pw_below_drewN | apply below_drew1 | refine below_set ?_ GE246.out) | exact HB.out)⟩
                  · rw [if_neg c42] at H
                    have c42b0 : (t253 == 0) = false := beq_eq_false_iff_ne.mpr c42
                    have c42b1 : (t253 != 0) = true := bne_iff_ne.mpr c42
                    obtain rfl := Option.some.inj H
                    have hcz57_0 : wc.cell? ⟨gb246, 0, none⟩ = some (.int .i64 t236) := (blk_cell BK246.out 0).trans rfl
                    have hcz57_1 : wc.cell? ⟨gb246, 1, none⟩ = some (.int .i64 t237) := (blk_cell BK246.out 1).trans rfl
                    have hcz57_2 : wc.cell? ⟨gb246, 2, none⟩ = some (.int .i64 t238) := (blk_cell BK246.out 2).trans rfl
                    have hcz57_3 : wc.cell? ⟨gb246, 3, none⟩ = some (.slice Ao23 t239.length co23) := (blk_cell BK246.out 3).trans rfl
                    have hcz57_4 : wc.cell? ⟨gb246, 4, none⟩ = some (.slice Ao24 t242.length co24) := (blk_cell BK246.out 4).trans rfl
                    have hfz57_0 := blk_frozen BK246.out 0
                    have hfz57_1 := blk_frozen BK246.out 1
                    have hfz57_2 := blk_frozen BK246.out 2
                    have hfz57_3 := blk_frozen BK246.out 3
                    have hfz57_4 := blk_frozen BK246.out 4
                    go_wp2_with (first | ((with_reducible refine gate_callee (f := 16) rfl ?_); refine goesL_ (some 79) rfl rfl Tryz.func16 (by kernel_rfl) rfl #[.slice A1 l1.length c1, .slice Ao24 t242.length co24] rfl (by (try simp only [List.map_toArray, List.map_cons, List.map_nil]); first | done | rfl | (simp only [List.length_drop, List.length_take]; rfl)) ?_; (with_reducible refine (image_Apply.calls _ _ l1 _ _ t242 t251 t252 t253 _ ?side1 ?side2 ?side3 ?side4 A38.out).mono ?_); (case side1 => repeat (first | exact (Kd.C_below HR1.out HB.out) | (with_reducible refine Kd.C_alloc ?_ _) | (with_reducible refine Kd.C_drewN ?_ _) | (with_reducible refine Kd.C_drew ?_))); (case side2 => exact HC1.out); (case side3 => repeat (first | exact (Kd.S_reads' HO_247004.out).2.2 | (with_reducible refine Kd.C_alloc ?_ _) | (with_reducible refine Kd.C_drewN ?_ _) | (with_reducible refine Kd.C_drew ?_))); (case side4 => exact (Kd.S_reads' HO_247004.out).2.1); rintro e w58 ⟨v254, rfl, ho0, hb⟩; refine ⟨_, rfl, ?_⟩; have n0_ := Aside0.mk (Kd.S_below (by (with_reducible repeat (first | apply Kd.S_alloc | apply Kd.S_drewN | apply Kd.S_drew)); exact HO_7.out) hb); have n1_ := Aside0.mk (Kd.R_below (by (with_reducible repeat (first | apply Kd.R_alloc | apply Kd.R_drewN | apply Kd.R_drew)); exact HO_247003.out) hb); have n2_ := Aside0.mk (Kd.S_below (by (with_reducible repeat (first | apply Kd.S_alloc | apply Kd.S_drewN | apply Kd.S_drew)); exact HO_247004.out) hb); have n3_ := Aside0.mk (Kd.S_lower ho0 (below_size (by repeat (first | (with_reducible first | exact HB.out | apply below_alloc | apply pw_below_drewN | apply below_drew1 | refine below_set ?_ GE246.out) | exact HB.out)))); have n4_ := Aside0.mk (blk_below (g := gb246) (o := .cells #[.int .i64 t236, .int .i64 t237, .int .i64 t238, .slice Ao23 t239.length co23, .slice Ao24 t242.length co24] 38 (0, 0)) (by (with_reducible repeat (first | refine blk_drewN ?_ _ | refine blk_drew ?_ | refine blk_alloc ?_ _)); exact BK246.out) hb); have n5_ := Aside0.mk (below_step (by repeat (first | (with_reducible first | exact HB.out | apply below_alloc | apply pw_below_drewN | apply below_drew1 | refine below_set ?_ GE246.out) | exact HB.out)) hb); clear HO_7; clear HO_247003; clear HO_247004; clear BK246; clear HB; have HO_7 := n0_; have HO_247003 := n1_; have HO_247004 := n2_; have HO255 := n3_; have BK246 := n4_; have HB := n5_; clear n0_ n1_ n2_ n3_ n4_ n5_; (try clear hb); (try clear hb2); (try clear hk); (try clear hi); (try clear ho0)) | ((with_reducible refine gate_callee (f := 17) rfl ?_); refine goesL_ (some 87) rfl rfl Tryz.func17 (by kernel_rfl) rfl #[.slice A0 l0.length c0, .slice A1 l1.length c1, .slice Ao18 t228.length co18] rfl (by (try simp only [List.map_toArray, List.map_cons, List.map_nil]); first | done | rfl | (simp only [List.length_drop, List.length_take]; rfl)) ?_; (with_reducible refine (standbylaw45_differing.calls kj13 _ _ l0 _ _ l1 _ _ t228 t256 t257 _ ?side1 ?side2 ?side3 ?side4 ?side5 ?side6 A39.out).mono ?_); (case side1 => repeat (first | exact (Kd.C_below HR0.out HB.out) | (with_reducible refine Kd.C_alloc ?_ _) | (with_reducible refine Kd.C_drewN ?_ _) | (with_reducible refine Kd.C_drew ?_))); (case side2 => exact HC0.out); (case side3 => repeat (first | exact (Kd.C_below HR1.out HB.out) | (with_reducible refine Kd.C_alloc ?_ _) | (with_reducible refine Kd.C_drewN ?_ _) | (with_reducible refine Kd.C_drew ?_))); (case side4 => exact HC1.out); (case side5 => repeat (first | exact (Kd.S_reads' HO_7.out).2.2 | (with_reducible refine Kd.C_alloc ?_ _) | (with_reducible refine Kd.C_drewN ?_ _) | (with_reducible refine Kd.C_drew ?_))); (case side6 => exact (Kd.S_reads' HO_7.out).2.1); rintro e w59 ⟨rfl, hb⟩; refine ⟨_, rfl, ?_⟩; have n0_ := Aside0.mk (Kd.S_below (by (with_reducible repeat (first | apply Kd.S_alloc | apply Kd.S_drewN | apply Kd.S_drew)); exact HO_7.out) hb); have n1_ := Aside0.mk (Kd.R_below (by (with_reducible repeat (first | apply Kd.R_alloc | apply Kd.R_drewN | apply Kd.R_drew)); exact HO_247003.out) hb); have n2_ := Aside0.mk (Kd.S_below (by (with_reducible repeat (first | apply Kd.S_alloc | apply Kd.S_drewN | apply Kd.S_drew)); exact HO_247004.out) hb); have n3_ := Aside0.mk (Kd.S_below (by (with_reducible repeat (first | apply Kd.S_alloc | apply Kd.S_drewN | apply Kd.S_drew)); exact HO255.out) hb); have n4_ := Aside0.mk (blk_below (g := gb246) (o := .cells #[.int .i64 t236, .int .i64 t237, .int .i64 t238, .slice Ao23 t239.length co23, .slice Ao24 t242.length co24] 38 (0, 0)) (by (with_reducible repeat (first | refine blk_drewN ?_ _ | refine blk_drew ?_ | refine blk_alloc ?_ _)); exact BK246.out) hb); have n5_ := Aside0.mk (below_step (by repeat (first | (with_reducible first | exact HB.out | apply below_alloc | apply pw_below_drewN | apply below_drew1 | refine below_set ?_ GE246.out) | exact HB.out)) hb); clear HO_7; clear HO_247003; clear HO_247004; clear HO255; clear BK246; clear HB; have HO_7 := n0_; have HO_247003 := n1_; have HO_247004 := n2_; have HO255 := n3_; have BK246 := n4_; have HB := n5_; clear n0_ n1_ n2_ n3_ n4_ n5_; (try clear hb); (try clear hb2); (try clear hk); (try clear hi)) | ((with_reducible refine gate_callee (f := 7) rfl ?_); refine goesL_ (some 90) rfl rfl Tryz.func7 (by kernel_rfl) rfl #[] rfl (by (try simp only [List.map_toArray, List.map_cons, List.map_nil]); first | done | rfl | (simp only [List.length_drop, List.length_take]; rfl)) ?_; (with_reducible refine (standbylaw45_awake.calls kj13  true _ A40.out).mono ?_); rintro e w60 ⟨rfl, hb⟩; refine ⟨_, rfl, ?_⟩; have n0_ := Aside0.mk (Kd.S_below (by (with_reducible repeat (first | apply Kd.S_alloc | apply Kd.S_drewN | apply Kd.S_drew)); exact HO_7.out) hb); have n1_ := Aside0.mk (Kd.R_below (by (with_reducible repeat (first | apply Kd.R_alloc | apply Kd.R_drewN | apply Kd.R_drew)); exact HO_247003.out) hb); have n2_ := Aside0.mk (Kd.S_below (by (with_reducible repeat (first | apply Kd.S_alloc | apply Kd.S_drewN | apply Kd.S_drew)); exact HO_247004.out) hb); have n3_ := Aside0.mk (Kd.S_below (by (with_reducible repeat (first | apply Kd.S_alloc | apply Kd.S_drewN | apply Kd.S_drew)); exact HO255.out) hb); have n4_ := Aside0.mk (blk_below (g := gb246) (o := .cells #[.int .i64 t236, .int .i64 t237, .int .i64 t238, .slice Ao23 t239.length co23, .slice Ao24 t242.length co24] 38 (0, 0)) (by (with_reducible repeat (first | refine blk_drewN ?_ _ | refine blk_drew ?_ | refine blk_alloc ?_ _)); exact BK246.out) hb); have n5_ := Aside0.mk (below_step (by repeat (first | (with_reducible first | exact HB.out | apply below_alloc | apply pw_below_drewN | apply below_drew1 | refine below_set ?_ GE246.out) | exact HB.out)) hb); clear HO_7; clear HO_247003; clear HO_247004; clear HO255; clear BK246; clear HB; have HO_7 := n0_; have HO_247003 := n1_; have HO_247004 := n2_; have HO255 := n3_; have BK246 := n4_; have HB := n5_; clear n0_ n1_ n2_ n3_ n4_ n5_; (try clear hb); (try clear hb2); (try clear hk); (try clear hi)))
                    go_ret
                    exact ⟨by first | rfl | (simp [errW_none, errW_some] <;> rfl) | (simp [*, errW_none, errW_some] <;> rfl), by repeat (first | (with_reducible first | exact HB.out | apply below_alloc | apply pw_below_drewN | apply below_drew1 | refine below_set ?_ GE246.out) | exact HB.out)⟩
                · replace c41 := Bool.eq_false_iff.mpr c41
                  subst c41
                  have H1 : (some false) = some r := by rw [if_neg (show ¬ (false = true) by decide)] at H; exact H
                  clear H
                  have H := H1
                  clear H1
                  obtain rfl := Option.some.inj H
                  have hcz61_0 : wc.cell? ⟨gb246, 0, none⟩ = some (.int .i64 t236) := (blk_cell BK246.out 0).trans rfl
                  have hcz61_1 : wc.cell? ⟨gb246, 1, none⟩ = some (.int .i64 t237) := (blk_cell BK246.out 1).trans rfl
                  have hcz61_2 : wc.cell? ⟨gb246, 2, none⟩ = some (.int .i64 t238) := (blk_cell BK246.out 2).trans rfl
                  have hcz61_3 : wc.cell? ⟨gb246, 3, none⟩ = some (.slice Ao23 t239.length co23) := (blk_cell BK246.out 3).trans rfl
                  have hcz61_4 : wc.cell? ⟨gb246, 4, none⟩ = some (.slice Ao24 t242.length co24) := (blk_cell BK246.out 4).trans rfl
                  have hfz61_0 := blk_frozen BK246.out 0
                  have hfz61_1 := blk_frozen BK246.out 1
                  have hfz61_2 := blk_frozen BK246.out 2
                  have hfz61_3 := blk_frozen BK246.out 3
                  have hfz61_4 := blk_frozen BK246.out 4
                  go_wp2_with (first | ((with_reducible refine gate_callee (f := 16) rfl ?_); refine goesL_ (some 79) rfl rfl Tryz.func16 (by kernel_rfl) rfl #[.slice A1 l1.length c1, .slice Ao24 t242.length co24] rfl (by (try simp only [List.map_toArray, List.map_cons, List.map_nil]); first | done | rfl | (simp only [List.length_drop, List.length_take]; rfl)) ?_; (with_reducible refine (image_Apply.calls _ _ l1 _ _ t242 t251 t252 t253 _ ?side1 ?side2 ?side3 ?side4 A38.out).mono ?_); (case side1 => repeat (first | exact (Kd.C_below HR1.out HB.out) | (with_reducible refine Kd.C_alloc ?_ _) | (with_reducible refine Kd.C_drewN ?_ _) | (with_reducible refine Kd.C_drew ?_))); (case side2 => exact HC1.out); (case side3 => repeat (first | exact (Kd.S_reads' HO_247004.out).2.2 | (with_reducible refine Kd.C_alloc ?_ _) | (with_reducible refine Kd.C_drewN ?_ _) | (with_reducible refine Kd.C_drew ?_))); (case side4 => exact (Kd.S_reads' HO_247004.out).2.1); rintro e w62 ⟨v254, rfl, ho0, hb⟩; refine ⟨_, rfl, ?_⟩; have n0_ := Aside0.mk (Kd.S_below (by (with_reducible repeat (first | apply Kd.S_alloc | apply Kd.S_drewN | apply Kd.S_drew)); exact HO_7.out) hb); have n1_ := Aside0.mk (Kd.R_below (by (with_reducible repeat (first | apply Kd.R_alloc | apply Kd.R_drewN | apply Kd.R_drew)); exact HO_247003.out) hb); have n2_ := Aside0.mk (Kd.S_below (by (with_reducible repeat (first | apply Kd.S_alloc | apply Kd.S_drewN | apply Kd.S_drew)); exact HO_247004.out) hb); have n3_ := Aside0.mk (Kd.S_lower ho0 (below_size (by repeat (first | (with_reducible first | exact HB.out | apply below_alloc | apply pw_below_drewN | apply below_drew1 | refine below_set ?_ GE246.out) | exact HB.out)))); have n4_ := Aside0.mk (blk_below (g := gb246) (o := .cells #[.int .i64 t236, .int .i64 t237, .int .i64 t238, .slice Ao23 t239.length co23, .slice Ao24 t242.length co24] 38 (0, 0)) (by (with_reducible repeat (first | refine blk_drewN ?_ _ | refine blk_drew ?_ | refine blk_alloc ?_ _)); exact BK246.out) hb); have n5_ := Aside0.mk (below_step (by repeat (first | (with_reducible first | exact HB.out | apply below_alloc | apply pw_below_drewN | apply below_drew1 | refine below_set ?_ GE246.out) | exact HB.out)) hb); clear HO_7; clear HO_247003; clear HO_247004; clear BK246; clear HB; have HO_7 := n0_; have HO_247003 := n1_; have HO_247004 := n2_; have HO255 := n3_; have BK246 := n4_; have HB := n5_; clear n0_ n1_ n2_ n3_ n4_ n5_; (try clear hb); (try clear hb2); (try clear hk); (try clear hi); (try clear ho0)) | ((with_reducible refine gate_callee (f := 17) rfl ?_); refine goesL_ (some 87) rfl rfl Tryz.func17 (by kernel_rfl) rfl #[.slice A0 l0.length c0, .slice A1 l1.length c1, .slice Ao18 t228.length co18] rfl (by (try simp only [List.map_toArray, List.map_cons, List.map_nil]); first | done | rfl | (simp only [List.length_drop, List.length_take]; rfl)) ?_; (with_reducible refine (standbylaw45_differing.calls kj13 _ _ l0 _ _ l1 _ _ t228 t256 t257 _ ?side1 ?side2 ?side3 ?side4 ?side5 ?side6 A39.out).mono ?_); (case side1 => repeat (first | exact (Kd.C_below HR0.out HB.out) | (with_reducible refine Kd.C_alloc ?_ _) | (with_reducible refine Kd.C_drewN ?_ _) | (with_reducible refine Kd.C_drew ?_))); (case side2 => exact HC0.out); (case side3 => repeat (first | exact (Kd.C_below HR1.out HB.out) | (with_reducible refine Kd.C_alloc ?_ _) | (with_reducible refine Kd.C_drewN ?_ _) | (with_reducible refine Kd.C_drew ?_))); (case side4 => exact HC1.out); (case side5 => repeat (first | exact (Kd.S_reads' HO_7.out).2.2 | (with_reducible refine Kd.C_alloc ?_ _) | (with_reducible refine Kd.C_drewN ?_ _) | (with_reducible refine Kd.C_drew ?_))); (case side6 => exact (Kd.S_reads' HO_7.out).2.1); rintro e w63 ⟨rfl, hb⟩; refine ⟨_, rfl, ?_⟩; have n0_ := Aside0.mk (Kd.S_below (by (with_reducible repeat (first | apply Kd.S_alloc | apply Kd.S_drewN | apply Kd.S_drew)); exact HO_7.out) hb); have n1_ := Aside0.mk (Kd.R_below (by (with_reducible repeat (first | apply Kd.R_alloc | apply Kd.R_drewN | apply Kd.R_drew)); exact HO_247003.out) hb); have n2_ := Aside0.mk (Kd.S_below (by (with_reducible repeat (first | apply Kd.S_alloc | apply Kd.S_drewN | apply Kd.S_drew)); exact HO_247004.out) hb); have n3_ := Aside0.mk (Kd.S_below (by (with_reducible repeat (first | apply Kd.S_alloc | apply Kd.S_drewN | apply Kd.S_drew)); exact HO255.out) hb); have n4_ := Aside0.mk (blk_below (g := gb246) (o := .cells #[.int .i64 t236, .int .i64 t237, .int .i64 t238, .slice Ao23 t239.length co23, .slice Ao24 t242.length co24] 38 (0, 0)) (by (with_reducible repeat (first | refine blk_drewN ?_ _ | refine blk_drew ?_ | refine blk_alloc ?_ _)); exact BK246.out) hb); have n5_ := Aside0.mk (below_step (by repeat (first | (with_reducible first | exact HB.out | apply below_alloc | apply pw_below_drewN | apply below_drew1 | refine below_set ?_ GE246.out) | exact HB.out)) hb); clear HO_7; clear HO_247003; clear HO_247004; clear HO255; clear BK246; clear HB; have HO_7 := n0_; have HO_247003 := n1_; have HO_247004 := n2_; have HO255 := n3_; have BK246 := n4_; have HB := n5_; clear n0_ n1_ n2_ n3_ n4_ n5_; (try clear hb); (try clear hb2); (try clear hk); (try clear hi)) | ((with_reducible refine gate_callee (f := 7) rfl ?_); refine goesL_ (some 90) rfl rfl Tryz.func7 (by kernel_rfl) rfl #[] rfl (by (try simp only [List.map_toArray, List.map_cons, List.map_nil]); first | done | rfl | (simp only [List.length_drop, List.length_take]; rfl)) ?_; (with_reducible refine (standbylaw45_awake.calls kj13  false _ A40.out).mono ?_); rintro e w64 ⟨rfl, hb⟩; refine ⟨_, rfl, ?_⟩; have n0_ := Aside0.mk (Kd.S_below (by (with_reducible repeat (first | apply Kd.S_alloc | apply Kd.S_drewN | apply Kd.S_drew)); exact HO_7.out) hb); have n1_ := Aside0.mk (Kd.R_below (by (with_reducible repeat (first | apply Kd.R_alloc | apply Kd.R_drewN | apply Kd.R_drew)); exact HO_247003.out) hb); have n2_ := Aside0.mk (Kd.S_below (by (with_reducible repeat (first | apply Kd.S_alloc | apply Kd.S_drewN | apply Kd.S_drew)); exact HO_247004.out) hb); have n3_ := Aside0.mk (Kd.S_below (by (with_reducible repeat (first | apply Kd.S_alloc | apply Kd.S_drewN | apply Kd.S_drew)); exact HO255.out) hb); have n4_ := Aside0.mk (blk_below (g := gb246) (o := .cells #[.int .i64 t236, .int .i64 t237, .int .i64 t238, .slice Ao23 t239.length co23, .slice Ao24 t242.length co24] 38 (0, 0)) (by (with_reducible repeat (first | refine blk_drewN ?_ _ | refine blk_drew ?_ | refine blk_alloc ?_ _)); exact BK246.out) hb); have n5_ := Aside0.mk (below_step (by repeat (first | (with_reducible first | exact HB.out | apply below_alloc | apply pw_below_drewN | apply below_drew1 | refine below_set ?_ GE246.out) | exact HB.out)) hb); clear HO_7; clear HO_247003; clear HO_247004; clear HO255; clear BK246; clear HB; have HO_7 := n0_; have HO_247003 := n1_; have HO_247004 := n2_; have HO255 := n3_; have BK246 := n4_; have HB := n5_; clear n0_ n1_ n2_ n3_ n4_ n5_; (try clear hb); (try clear hb2); (try clear hk); (try clear hi)))
                  go_ret
                  exact ⟨by first | rfl | (simp [errW_none, errW_some] <;> rfl) | (simp [*, errW_none, errW_some] <;> rfl), by repeat (first | (with_reducible first | exact HB.out | apply below_alloc | apply pw_below_drewN | apply below_drew1 | refine below_set ?_ GE246.out) | exact HB.out)⟩
        · rw [if_neg c12] at H
          have c12b0 : (t229 == 0) = false := beq_eq_false_iff_ne.mpr c12
          have c12b1 : (t229 != 0) = true := bne_iff_ne.mpr c12
          replace H := Option.bind_eq_some_iff.mp H
          obtain ⟨t232, A650, H⟩ := H
          replace H : (some t232) = some r := H
          have A65 := Aside0.mk A650
          clear A650
          obtain rfl := Option.some.inj H
          go_wp2_with (first | ((with_reducible refine gate_callee (f := 14) rfl ?_); refine goesL_ (some 28) rfl rfl Tryz.func14 (by kernel_rfl) rfl #[.slice A0 l0.length c0, .slice A1 l1.length c1] rfl (by (try simp only [List.map_toArray, List.map_cons, List.map_nil]); first | done | rfl | (simp only [List.length_drop, List.length_take]; rfl)) ?_; (with_reducible refine (image_Differ.calls kj3 _ _ l0 _ _ l1 t228 t229 _ ?side1 ?side2 ?side3 ?side4 A11.out).mono ?_); (case side1 => repeat (first | exact (Kd.C_below HR0.out HB.out) | (with_reducible refine Kd.C_alloc ?_ _) | (with_reducible refine Kd.C_drewN ?_ _) | (with_reducible refine Kd.C_drew ?_))); (case side2 => exact HC0.out); (case side3 => repeat (first | exact (Kd.C_below HR1.out HB.out) | (with_reducible refine Kd.C_alloc ?_ _) | (with_reducible refine Kd.C_drewN ?_ _) | (with_reducible refine Kd.C_drew ?_))); (case side4 => exact HC1.out); rintro e w66 ⟨v230, rfl, ho0, hb⟩; refine ⟨_, rfl, ?_⟩; have n0_ := Aside0.mk (Kd.S_lower ho0 (below_size (by repeat (first | (with_reducible first | exact HB.out | apply below_alloc | apply pw_below_drewN | apply below_drew1) | exact HB.out)))); have n1_ := Aside0.mk (below_step (by repeat (first | (with_reducible first | exact HB.out | apply below_alloc | apply pw_below_drewN | apply below_drew1) | exact HB.out)) hb); clear HB; have HO231 := n0_; have HB := n1_; clear n0_ n1_; (try clear hb); (try clear hb2); (try clear hk); (try clear hi); (try clear ho0)) | ((with_reducible refine gate_callee (f := 7) rfl ?_); refine goesL_ (some 33) rfl rfl Tryz.func7 (by kernel_rfl) rfl #[] rfl (by (try simp only [List.map_toArray, List.map_cons, List.map_nil]); first | done | rfl | (simp only [List.length_drop, List.length_take]; rfl)) ?_; (with_reducible refine (standbylaw45_awake.calls kj3  t232 _ A65.out).mono ?_); rintro e w67 ⟨rfl, hb⟩; refine ⟨_, rfl, ?_⟩; have n0_ := Aside0.mk (Kd.S_below (by (with_reducible repeat (first | apply Kd.S_alloc | apply Kd.S_drewN | apply Kd.S_drew)); exact HO231.out) hb); have n1_ := Aside0.mk (below_step (by repeat (first | (with_reducible first | exact HB.out | apply below_alloc | apply pw_below_drewN | apply below_drew1) | exact HB.out)) hb); clear HO231; clear HB; have HO231 := n0_; have HB := n1_; clear n0_ n1_; (try clear hb); (try clear hb2); (try clear hk); (try clear hi)))
          go_ret
          exact ⟨by first | rfl | (simp [errW_none, errW_some] <;> rfl) | (simp [*, errW_none, errW_some] <;> rfl), by repeat (first | (with_reducible first | exact HB.out | apply below_alloc | apply pw_below_drewN | apply below_drew1) | exact HB.out)⟩
end Go.Proofs.YtdplnbmioioniaaGreat.Pq
end
section
namespace Go.Proofs.YtdplnbmioioniaaGreat.Pq
open Go.RowKit Go.Proofs.YtdplnbmioioniaaGreatW.PrintWords Go.Proofs.YtdplnbmioioniaaGreatW.PrintLast Go.Proofs.YtdplnbmioioniaaGreatW.PrintMore
set_option linter.unusedVariables false
set_option linter.unusedSimpArgs false
theorem getD_at {α : Type} (l : List α) (z : α) (j : Nat) (h : j < l.length) : l.getD j z = l[j] := by rw [List.getD_eq_getElem?_getD, List.getElem?_eq_getElem h]; rfl
theorem rdS (l : List (List SS)) (j : Nat) : rd_L2 l (j : Int) = l.getD j [] := by unfold rd_L2; rw [Int.toNat_natCast]
theorem rdE (l : List (List XE)) (j : Nat) : rd_L7 l (j : Int) = l.getD j [] := by unfold rd_L7; rw [Int.toNat_natCast]
theorem rdSS (l : List SS) (j : Nat) : rd_T59 l (j : Int) = l.getD j z59 := by unfold rd_T59; rw [Int.toNat_natCast]
theorem up1 (j n : Nat) (h : j < n) (hn : n ≤ 1048576) : wrap64 ((j : Int) + 1) = ((j + 1 : Nat) : Int) := by rw [w64 (by omega) (by omega)]; rfl
def fewI (im : Img) : Bool := decide (im.length ≤ 9) && im.all fun v => decide (v.length ≤ 24)
theorem ev_few_loop (l : Img) (hl : l.length ≤ 9) : ∀ (n j : Nat), l.length - j = n → j ≤ l.length → Ev (fun k => standbyref07_Few.l0 k l (j : Int)) ((l.drop j).all fun v => decide (v.length ≤ 24))
  | 0, j, hn, hj => by
    rw [List.drop_eq_nil_of_le (by omega)]
    exact Ev.step (f := fun _ => some true) (fun k => by rw [standbyref07_Few.l0, if_neg (by omega)]) (Ev.now true)
  | n + 1, j, hn, hj => by
    have h1 : j < l.length := by omega
    have ih := ev_few_loop l hl n (j + 1) (by omega) (by omega)
    rw [List.drop_eq_getElem_cons h1, List.all_cons]
    by_cases e : l[j].length ≤ 24
    · rw [decide_eq_true e, Bool.true_and]
      exact Ev.step (fun k => by rw [standbyref07_Few.l0, if_pos (by omega), if_pos (by omega), rdS, getD_at _ _ _ h1, if_neg (by omega), up1 j l.length h1 (by omega)]) ih
    · rw [decide_eq_false e, Bool.false_and]
      exact Ev.step (f := fun _ => some false) (fun k => by rw [standbyref07_Few.l0, if_pos (by omega), if_pos (by omega), rdS, getD_at _ _ _ h1, if_pos (by omega)]) (Ev.now false)
theorem ev_few (l : Img) : Ev (fun k => standbyref07_Few.f k l) (fewI l) := by
  unfold fewI
  by_cases h : l.length ≤ 9
  · rw [decide_eq_true h, Bool.true_and]
    exact Ev.congr (fun k => by unfold standbyref07_Few.f; rw [if_neg (by omega)]; rfl) (ev_few_loop l h l.length 0 (by omega) (by omega))
  · rw [decide_eq_false h, Bool.false_and]
    exact Ev.congr (f := fun _ => some false) (fun k => by unfold standbyref07_Few.f; rw [if_pos (by omega)]) (Ev.now false)
theorem fewI_le {l : Img} (h : fewI l = true) : l.length ≤ 9 ∧ ∀ x ∈ l, x.length ≤ 24 := by
  unfold fewI at h
  rw [Bool.and_eq_true, decide_eq_true_eq, List.all_eq_true] at h
  exact ⟨h.1, fun x hx => of_decide_eq_true (h.2 x hx)⟩
end Go.Proofs.YtdplnbmioioniaaGreat.Pq
end
section
namespace Go.Proofs.YtdplnbmioioniaaGreat.Pq
open Go.RowKit Go.Proofs.YtdplnbmioioniaaGreatW.PrintWords Go.Proofs.YtdplnbmioioniaaGreatW.PrintLast Go.Proofs.YtdplnbmioioniaaGreatW.PrintMore
set_option linter.unusedVariables false
set_option linter.unusedSimpArgs false
theorem bump_eq : ∀ (l : List XE) (i : Int), l ≠ [] → bump l i = if (l.getD (l.length - 1) z61).f0 + (l.getD (l.length - 1) z61).f1 = i then l.set (l.length - 1) ⟨(l.getD (l.length - 1) z61).f0, (l.getD (l.length - 1) z61).f1 + 1⟩ else l ++ [⟨i, 1⟩]
  | [], i, h => absurd rfl h
  | [x], i, _ => rfl
  | x :: y :: r, i, _ => by
    have ih := bump_eq (y :: r) i (by simp)
    have e : (x :: y :: r).getD ((x :: y :: r).length - 1) z61 = (y :: r).getD ((y :: r).length - 1) z61 := by simp
    rw [e, bump, ih]
    by_cases h : ((y :: r).getD ((y :: r).length - 1) z61).f0 + ((y :: r).getD ((y :: r).length - 1) z61).f1 = i
    · rw [if_pos h, if_pos h]; simp
    · rw [if_neg h, if_neg h]; rfl
theorem canon_len (p : Int → Bool) : ∀ n, (canon p n).length ≤ n
  | 0 => Nat.le_refl 0
  | n + 1 => by
    have ih := canon_len p n
    have hb : ∀ (l : List XE) (i : Int), (bump l i).length ≤ l.length + 1 := by
      intro l i
      by_cases h : l = []
      · subst h; simp [bump]
      · rw [bump_eq l i h]; split <;> simp
    unfold canon
    split
    · have := hb (canon p n) n; omega
    · omega
end Go.Proofs.YtdplnbmioioniaaGreat.Pq
end
section
namespace Go.Proofs.YtdplnbmioioniaaGreat.Pq
open Go.RowKit Go.Proofs.YtdplnbmioioniaaGreatW.PrintWords Go.Proofs.YtdplnbmioioniaaGreatW.PrintLast Go.Proofs.YtdplnbmioioniaaGreatW.PrintMore
set_option linter.unusedVariables false
set_option linter.unusedSimpArgs false
theorem ev_samex_in (x : List (List XE)) (hx : x.length ≤ 1048576) (hr : ∀ r ∈ x, r.length ≤ 1048576) (j : Nat) (hj : j < x.length) (hnext : Ev (fun k => standbyref36_SameExtents.l0 k x x ((j + 1 : Nat) : Int)) true) : ∀ (n i : Nat), (x[j]).length - i = n → i ≤ (x[j]).length → Ev (fun k => standbyref36_SameExtents.l1 k x x (j : Int) (i : Int)) true
  | 0, i, hn, hi => Ev.step (fun k => by rw [standbyref36_SameExtents.l1, if_pos (by omega), if_pos (by omega), rdE, getD_at _ _ _ hj, if_neg (by omega), up1 j x.length hj hx]) hnext
  | n + 1, i, hn, hi => by
    have h1 : i < (x[j]).length := by omega
    have ih := ev_samex_in x hx hr j hj hnext n (i + 1) (by omega) (by omega)
    exact Ev.step (fun k => by rw [standbyref36_SameExtents.l1, if_pos (by omega), if_pos (by omega), rdE, getD_at _ _ _ hj, if_pos (by omega), if_pos (by omega), if_pos (by omega), if_pos (by omega), beq_self_eq_true, beq_self_eq_true, if_neg (by simp), up1 i (x[j]).length h1 (hr _ (List.getElem_mem hj))]) ih
theorem ev_samex_loop (x : List (List XE)) (hx : x.length ≤ 1048576) (hr : ∀ r ∈ x, r.length ≤ 1048576) : ∀ (n j : Nat), x.length - j = n → j ≤ x.length → Ev (fun k => standbyref36_SameExtents.l0 k x x (j : Int)) true
  | 0, j, hn, hj => Ev.step (f := fun _ => some true) (fun k => by rw [standbyref36_SameExtents.l0, if_neg (by omega)]) (Ev.now true)
  | n + 1, j, hn, hj => by
    have h1 : j < x.length := by omega
    have ih := ev_samex_loop x hx hr n (j + 1) (by omega) (by omega)
    exact Ev.step (f := fun k => standbyref36_SameExtents.l1 k x x (j : Int) ((0 : Nat) : Int)) (fun k => by rw [standbyref36_SameExtents.l0, if_pos (by omega), if_pos (by omega), if_pos (by omega), if_pos rfl]; rfl) (ev_samex_in x hx hr j h1 ih _ 0 rfl (by omega))
theorem ev_samex (x : List (List XE)) (hx : x.length ≤ 1048576) (hr : ∀ r ∈ x, r.length ≤ 1048576) : Ev (fun k => standbyref36_SameExtents.f k x x) true :=
  Ev.congr (fun k => by unfold standbyref36_SameExtents.f; rw [if_pos rfl]; rfl) (ev_samex_loop x hx hr x.length 0 (by omega) (by omega))
theorem ev_samesec (x : List SS) (hx : x.length ≤ 1048576) : ∀ (n j : Nat), x.length - j = n → j ≤ x.length → Ev (fun k => standbyref03_SameSectors.l0 k x x (j : Int)) true
  | 0, j, hn, hj => Ev.step (f := fun _ => some true) (fun k => by rw [standbyref03_SameSectors.l0, if_neg (by omega)]) (Ev.now true)
  | n + 1, j, hn, hj => by
    have h1 : j < x.length := by omega
    have ih := ev_samesec x hx n (j + 1) (by omega) (by omega)
    exact Ev.step (fun k => by rw [standbyref03_SameSectors.l0, if_pos (by omega), if_pos (by omega), if_pos (by omega)]; simp only [beq_self_eq_true, Bool.not_true, Bool.or_false, if_false, Bool.false_eq_true, up1 j x.length h1 hx]) ih
theorem ev_samewr_loop (x : List S66) (hx : x.length ≤ 1048576) (hr : ∀ r ∈ x, r.f2.length ≤ 1048576) : ∀ (n j : Nat), x.length - j = n → j ≤ x.length → Ev (fun k => standbyref03_SameWrites.l0 k x x (j : Int)) true
  | 0, j, hn, hj => Ev.step (f := fun _ => some true) (fun k => by rw [standbyref03_SameWrites.l0, if_neg (by omega)]) (Ev.now true)
  | n + 1, j, hn, hj => by
    have h1 : j < x.length := by omega
    have ih := ev_samewr_loop x hx hr n (j + 1) (by omega) (by omega)
    have hrd : rd_T66 x (j : Int) = x[j] := by unfold rd_T66; rw [Int.toNat_natCast, getD_at _ _ _ h1]
    have hsec : Ev (fun k => standbyref03_SameSectors.f k (x[j]).f2 (x[j]).f2) true := Ev.congr (fun k => by unfold standbyref03_SameSectors.f; rw [if_pos rfl]; rfl) (ev_samesec (x[j]).f2 (hr _ (List.getElem_mem h1)) _ 0 rfl (by omega))
    refine Ev.step (f := fun k => (standbyref03_SameSectors.f k (x[j]).f2 (x[j]).f2).bind fun t => (if t = true then standbyref03_SameWrites.l0 k x x ((j + 1 : Nat) : Int) else some false)) (fun k => by rw [standbyref03_SameWrites.l0, if_pos (by omega), if_pos (by omega), if_pos (by omega), if_pos rfl, if_pos rfl, hrd, up1 j x.length h1 hx]) (Ev.bind hsec ?_)
    simp only [if_true]
    exact ih
theorem ev_samewr (x : List S66) (hx : x.length ≤ 1048576) (hr : ∀ r ∈ x, r.f2.length ≤ 1048576) : Ev (fun k => standbyref22_Same.f k x x) true :=
  Ev.bind (Ev.congr (fun k => by unfold standbyref03_SameWrites.f; rw [if_pos rfl]; rfl) (ev_samewr_loop x hx hr x.length 0 (by omega) (by omega))) (Ev.now true)
end Go.Proofs.YtdplnbmioioniaaGreat.Pq
end
section
namespace Go.Proofs.YtdplnbmioioniaaGreat.Pq
open Go.RowKit Go.Proofs.YtdplnbmioioniaaGreatW.PrintWords Go.Proofs.YtdplnbmioioniaaGreatW.PrintLast Go.Proofs.YtdplnbmioioniaaGreatW.PrintMore
set_option linter.unusedVariables false
set_option linter.unusedSimpArgs false
theorem canon_low : ∀ (l : List XE) (lo : Int), Canon lo l → ∀ x ∈ l, lo ≤ x.f0 ∧ 0 < x.f1
  | [], _, _, _, h => by cases h
  | y :: r, lo, h, x, hx => by
    rcases List.mem_cons.1 hx with rfl | hx
    · exact ⟨h.1, h.2.1⟩
    · obtain ⟨a, b⟩ := canon_low r _ h.2.2 x hx
      exact ⟨by have := h.1; have := h.2.1; omega, b⟩
theorem inL_mem (l : List XE) (h : ∀ x ∈ l, 0 ≤ x.f0 ∧ 0 < x.f1 ∧ x.f0 + x.f1 ≤ 4096) (i : Int) : inL l i = true ↔ MemX l i := by
  unfold inL MemX
  rw [List.any_eq_true]
  constructor
  · rintro ⟨x, hx, hi⟩
    obtain ⟨a, b, c⟩ := h x hx
    obtain ⟨_, p, q⟩ := (inX_iff x i).1 hi
    refine ⟨x, hx, ?_, ?_⟩
    · unfold mx at p; split at p <;> omega
    · unfold mn at q; split at q <;> omega
  · rintro ⟨x, hx, hi, hj⟩
    obtain ⟨a, b, c⟩ := h x hx
    refine ⟨x, hx, (inX_iff x i).2 ⟨b, ?_, ?_⟩⟩
    · unfold mx; split <;> omega
    · unfold mn; split <;> omega
theorem canon_self (l : List XE) (hc : Canon 0 l) (h : ∀ x ∈ l, x.f0 + x.f1 ≤ 4096) : canon (inL l) 4096 = l := by
  have h' : ∀ x ∈ l, 0 ≤ x.f0 ∧ 0 < x.f1 ∧ x.f0 + x.f1 ≤ 4096 := fun x hx => ⟨(canon_low l 0 hc x hx).1, (canon_low l 0 hc x hx).2, h x hx⟩
  refine (eq_canon hc (inL l) 4096 fun j => ?_).symm
  rw [inL_mem l h' j]
  constructor
  · rintro ⟨x, hx, a, b⟩
    obtain ⟨p, q, r⟩ := h' x hx
    exact ⟨by omega, by omega, x, hx, a, b⟩
  · exact fun h => h.2.2
abbrev srcA : Img := [[⟨1, 0, 0, 0, 0, 0, 0, 0⟩, ⟨2, 0, 0, 0, 0, 0, 0, 0⟩, ⟨0, 0, 0, 0, 0, 0, 0, 0⟩, ⟨0, 0, 0, 0, 0, 0, 0, 0⟩, ⟨3, 0, 0, 0, 0, 0, 0, 0⟩]]
abbrev tgtA : Img := [[⟨0, 0, 0, 0, 0, 0, 0, 0⟩, ⟨2, 0, 0, 0, 0, 0, 0, 0⟩, ⟨0, 0, 0, 0, 0, 0, 0, 0⟩, ⟨0, 0, 0, 0, 0, 0, 0, 0⟩, ⟨0, 0, 0, 0, 0, 0, 0, 0⟩]]
abbrev lA : List (List XE) := [[⟨0, 2⟩, ⟨4, 1⟩]]
abbrev nA : List (List XE) := [[⟨0, 1⟩, ⟨4, 1⟩]]
abbrev wA : List S66 := [⟨0, 0, [⟨1, 0, 0, 0, 0, 0, 0, 0⟩, ⟨2, 0, 0, 0, 0, 0, 0, 0⟩]⟩, ⟨0, 4, [⟨3, 0, 0, 0, 0, 0, 0, 0⟩]⟩]
theorem okA : okLs lA := by decide
theorem okB : okLs nA := by decide
theorem awake_w : resync_Writes.f srcA lA = some (wA, 0) := by
  unfold resync_Writes.f
  rw [if_pos ⟨by decide, okA⟩]
  rfl
theorem awake_pair : pairX srcA tgtA = 0 := rfl
theorem awake_fit : fitsX srcA lA = 0 := rfl
theorem awake_fit2 : fitsX srcA nA = 0 := rfl
theorem awake_dif : difL srcA tgtA = nA := rfl
theorem awake_inter : canon (fun i => inL [⟨0, 1⟩, ⟨4, 1⟩] i && inL [⟨0, 2⟩, ⟨4, 1⟩] i) 4096 = [⟨0, 1⟩, ⟨4, 1⟩] := by
  refine (eq_canon (lo := 0) (l := [⟨0, 1⟩, ⟨4, 1⟩]) ⟨by decide, by decide, by decide, by decide, trivial⟩ _ 4096 fun j => ?_).symm
  rw [Bool.and_eq_true, inL_mem _ (by decide), inL_mem _ (by decide)]
  simp only [memx_cons, memx_nil, hasX, or_false]
  omega
theorem awake_n : neededX srcA tgtA lA = (nA, 0) := by
  unfold neededX
  rw [if_pos awake_pair, if_pos awake_fit, awake_dif]
  have : mp (needF lA) 0 nA = [needF lA 0 [⟨0, 1⟩, ⟨4, 1⟩]] := rfl
  rw [this, show needF lA 0 [⟨0, 1⟩, ⟨4, 1⟩] = [⟨0, 1⟩, ⟨4, 1⟩] from awake_inter]
theorem awake_x : exactX srcA tgtA nA = (true, 0) := by
  unfold exactX
  rw [show (neededX srcA tgtA nA).2 = 0 from by unfold neededX; rw [if_pos awake_pair, if_pos awake_fit2], if_pos rfl, awake_dif]
  rfl
theorem awake_y : exactX srcA tgtA lA = (false, 0) := by
  unfold exactX
  rw [awake_n, if_pos rfl, awake_dif]
  rfl
theorem awake_c (l : List XE) (hc : Canon 0 l) (h : ∀ x ∈ l, x.f0 + x.f1 ≤ 4096) : costX [l] = sumc l := by
  have : costX [l] = countp (inL l) 4096 + 0 := rfl
  rw [this, ← sumc_canon, canon_self l hc h, Int.add_zero]
theorem ev_awake : Ev (fun k => standbylaw45_awake.f k) true := by
  have e2 : resync_Needed.f srcA tgtA lA = some (nA, 0) := by unfold resync_Needed.f; rw [if_pos ⟨by decide, by decide, okA⟩, awake_n]
  have e3 : resync_Exact.f srcA tgtA nA = some (true, 0) := by unfold resync_Exact.f; rw [if_pos ⟨by decide, by decide, okB⟩, awake_x]
  have e4 : resync_Exact.f srcA tgtA lA = some (false, 0) := by unfold resync_Exact.f; rw [if_pos ⟨by decide, by decide, okA⟩, awake_y]
  have e5 : resync_Cost.f lA = some 3 := by unfold resync_Cost.f; rw [if_pos okA, awake_c [⟨0, 2⟩, ⟨4, 1⟩] ⟨by decide, by decide, by decide, by decide, trivial⟩ (by decide)]; rfl
  have e6 : resync_Cost.f nA = some 2 := by unfold resync_Cost.f; rw [if_pos okB, awake_c [⟨0, 1⟩, ⟨4, 1⟩] ⟨by decide, by decide, by decide, by decide, trivial⟩ (by decide)]; rfl
  refine Ev.congr (f := fun k => (standbyref22_Same.f k wA wA).bind fun t => standbylaw45_awake.j0 k lA nA true false (!t)) (fun k => ?_) (Ev.bind (ev_samewr wA (by decide) (by decide)) (Ev.step (f := fun k => (standbyref36_SameExtents.f k nA nA).bind fun t => (if t = true then some true else some false)) (fun k => ?_) (Ev.bind (ev_samex nA (by decide) (by decide)) ?_)))
  · unfold standbylaw45_awake.f
    simp only [Option.bind_some]
    rw [awake_w]
    simp only [Option.bind_some]
    rw [e2]
    simp only [Option.bind_some]
    rw [e3]
    simp only [Option.bind_some]
    rw [e4]
    simp only [Option.bind_some]
    rw [if_pos (show wrap64 (wrap64 (wrap64 (0 + 0) + 0) + 0) = 0 from by unfold wrap64; omega)]
  · rw [standbylaw45_awake.j0, if_neg (by simp)]
    simp only [if_true, Bool.false_eq_true, if_false]
    rw [e5]
    simp only [Option.bind_some, if_true]
    rw [e6]
    simp only [Option.bind_some]
    rfl
  · simp only [if_true]
    exact Ev.now true
end Go.Proofs.YtdplnbmioioniaaGreat.Pq
end
section
namespace Go.Proofs.YtdplnbmioioniaaGreat.Pq
open Go.RowKit Go.Proofs.YtdplnbmioioniaaGreatW.PrintWords Go.Proofs.YtdplnbmioioniaaGreatW.PrintLast Go.Proofs.YtdplnbmioioniaaGreatW.PrintMore
set_option linter.unusedVariables false
set_option linter.unusedSimpArgs false
def at2 (im : Img) (v i : Nat) : SS := (im.getD v []).getD i z59
theorem list_ext_getD {α : Type} (z : α) (a b : List α) (hl : a.length = b.length) (h : ∀ i, i < a.length → a.getD i z = b.getD i z) : a = b := by
  apply List.ext_getElem hl
  intro i h1 h2
  have := h i h1
  rwa [getD_at _ _ _ h1, getD_at _ _ _ h2] at this
theorem img_ext {a b : Img} (h : lens a = lens b) (hat : ∀ v i, v < a.length → i < (a.getD v []).length → at2 a v i = at2 b v i) : a = b := by
  obtain ⟨hl, hv⟩ := lens_vol h
  exact list_ext_getD [] a b hl fun v h1 => list_ext_getD z59 _ _ (hv v h1) fun i h2 => hat v i h1 h2
theorem spl_at (row : List SS) (s : Nat) (data : List SS) (h : s + data.length ≤ row.length) (i : Nat) : (spl row s data).getD i z59 = if s ≤ i ∧ i < s + data.length then data.getD (i - s) z59 else row.getD i z59 := by
  unfold spl
  simp only [List.getD_eq_getElem?_getD]
  by_cases h1 : i < s
  · rw [List.getElem?_append_left (by rw [List.length_take]; omega), List.getElem?_take, if_pos h1, if_neg (by omega)]
  · rw [List.getElem?_append_right (by rw [List.length_take]; omega), List.length_take, Nat.min_eq_left (by omega)]
    by_cases h2 : i < s + data.length
    · rw [List.getElem?_append_left (by omega), if_pos ⟨by omega, h2⟩]
    · rw [List.getElem?_append_right (by omega), List.getElem?_drop, if_neg (by omega), show s + data.length + (i - s - data.length) = i by omega]
theorem at2_putW {im : Img} {w : WS} (h : fitsC im w = 0) (v i : Nat) : at2 (putW im w) v i = if v = w.f0.toNat ∧ w.f1.toNat ≤ i ∧ i < w.f1.toNat + w.f2.length then w.f2.getD (i - w.f1.toNat) z59 else at2 im v i := by
  obtain ⟨h0, h1, h2, h3, h4⟩ := fitsC_zero h
  have hrow : (putW im w).getD v [] = if v = w.f0.toNat then spl (im.getD w.f0.toNat []) w.f1.toNat w.f2 else im.getD v [] := by
    unfold putW
    rw [List.getD_eq_getElem?_getD, List.getElem?_set]
    by_cases e : v = w.f0.toNat
    · rw [if_pos e.symm, if_pos e, if_pos (by omega)]; rfl
    · rw [if_neg (Ne.symm e), if_neg e, List.getD_eq_getElem?_getD]
  unfold at2
  rw [hrow]
  by_cases e : v = w.f0.toNat
  · rw [if_pos e, spl_at _ _ _ (by omega), e]
    simp only [true_and]
  · rw [if_neg e, if_neg (fun q => e q.1)]
theorem appG_all : ∀ (l : List WS) (k : Nat) (im out : Img), lens out = lens im → (∀ w ∈ l, fitsC im w = 0) → appG k l out = (l.foldl putW out, 0, 0) ∧ lens (l.foldl putW out) = lens im
  | [], _, _, _, ho, _ => ⟨rfl, ho⟩
  | w :: r, k, im, out, ho, h => by
    have hw : fitsC out w = 0 := by rw [fitsC_lens ho]; exact h w (List.mem_cons_self ..)
    rw [appG, if_pos hw]
    exact appG_all r (k + 1) im (putW out w) (by rw [lens_putW hw, ho]) (fun x hx => h x (List.mem_cons_of_mem _ hx))
def cov (ps : List (Int × XE)) (v i : Nat) : Prop := ∃ p ∈ ps, p.1 = (v : Int) ∧ hasX p.2 (i : Int)
def fitP (im : Img) (p : Int × XE) : Prop := 0 ≤ p.1 ∧ p.1 < im.length ∧ 0 < p.2.f1 ∧ 0 ≤ p.2.f0 ∧ p.2.f0 + p.2.f1 ≤ (im.getD p.1.toNat []).length
theorem sliceX_len {im : Img} {p : Int × XE} (h : fitP im p) : ((sliceX im p).f2.length : Int) = p.2.f1 := by
  obtain ⟨h0, h1, h2, h3, h4⟩ := h
  unfold sliceX
  dsimp only
  rw [List.length_drop, List.length_take]
  omega
theorem sliceX_fits {im tg : Img} (hl : lens tg = lens im) {p : Int × XE} (h : fitP im p) : fitsC tg (sliceX im p) = 0 := by
  have hlen := sliceX_len h
  obtain ⟨h0, h1, h2, h3, h4⟩ := h
  rw [fitsC_lens hl]
  refine fitsC_of ⟨h0, h1, by omega, h3, ?_⟩
  show p.2.f0 + ((sliceX im p).f2.length : Int) ≤ ((im.getD p.1.toNat []).length : Int)
  rw [hlen]; exact h4
theorem at2_slice {im tg : Img} (hl : lens tg = lens im) {p : Int × XE} (h : fitP im p) (v i : Nat) (hv : v < im.length) : (cov [p] v i → at2 (putW tg (sliceX im p)) v i = at2 im v i) ∧ (¬ cov [p] v i → at2 (putW tg (sliceX im p)) v i = at2 tg v i) := by
  have hlen := sliceX_len h
  have hput := at2_putW (sliceX_fits hl h) v i
  obtain ⟨h0, h1, h2, h3, h4⟩ := h
  have e0 : (sliceX im p).f0 = p.1 := rfl
  have e1 : (sliceX im p).f1 = p.2.f0 := rfl
  rw [e0, e1] at hput
  constructor
  · rintro ⟨q, hq, a, b, c⟩
    obtain rfl := List.mem_singleton.1 hq
    rw [hput, if_pos ⟨by omega, by omega, by omega⟩]
    unfold sliceX at2
    dsimp only
    rw [List.getD_eq_getElem?_getD, List.getElem?_drop, List.getElem?_take, if_pos (by omega), show q.2.f0.toNat + (i - q.2.f0.toNat) = i by omega, show q.1.toNat = v by omega, ← List.getD_eq_getElem?_getD]
  · intro hn
    rw [hput, if_neg]
    rintro ⟨a, b, c⟩
    exact hn ⟨p, List.mem_singleton.2 rfl, by omega, by omega, by omega⟩
theorem at2_fold (im : Img) : ∀ (ps : List (Int × XE)) (tg : Img), lens tg = lens im → (∀ p ∈ ps, fitP im p) → ∀ v i, v < im.length → (cov ps v i → at2 ((ps.map (sliceX im)).foldl putW tg) v i = at2 im v i) ∧ (¬ cov ps v i → at2 ((ps.map (sliceX im)).foldl putW tg) v i = at2 tg v i)
  | [], tg, hl, hp, v, i, hv => ⟨fun ⟨_, h, _⟩ => (by cases h), fun _ => rfl⟩
  | p :: r, tg, hl, hp, v, i, hv => by
    have hpp := hp p (List.mem_cons_self ..)
    have hl2 : lens (putW tg (sliceX im p)) = lens im := by rw [lens_putW (sliceX_fits hl hpp), hl]
    obtain ⟨i1, i2⟩ := at2_fold im r (putW tg (sliceX im p)) hl2 (fun q hq => hp q (List.mem_cons_of_mem _ hq)) v i hv
    obtain ⟨s1, s2⟩ := at2_slice hl hpp v i hv
    rw [List.map_cons, List.foldl_cons]
    constructor
    · rintro ⟨q, hq, hc⟩
      by_cases hr : cov r v i
      · exact i1 hr
      · rw [i2 hr]
        rcases List.mem_cons.1 hq with rfl | hq
        · exact s1 ⟨q, List.mem_singleton.2 rfl, hc⟩
        · exact absurd ⟨q, hq, hc⟩ hr
    · intro hn
      rw [i2 (fun ⟨q, hq, hc⟩ => hn ⟨q, List.mem_cons_of_mem _ hq, hc⟩), s2 (fun ⟨q, hq, hc⟩ => by obtain rfl := List.mem_singleton.1 hq; exact hn ⟨q, List.mem_cons_self .., hc⟩)]
theorem volL_cov : ∀ (ls : List (List XE)) (k v i : Nat), cov (volL k ls) v i ↔ k ≤ v ∧ v < k + ls.length ∧ MemX (ls.getD (v - k) []) (i : Int)
  | [], k, v, i => ⟨fun ⟨_, h, _⟩ => (by cases h), fun h => (by have := h.2.1; simp at this; omega)⟩
  | l :: r, k, v, i => by
    have ih := volL_cov r (k + 1) v i
    constructor
    · rintro ⟨p, hp, h1, h2⟩
      rcases List.mem_append.1 hp with hp | hp
      · obtain ⟨e, he, rfl⟩ := List.mem_map.1 hp
        have : v = k := by have : (k : Int) = v := h1; omega
        subst this
        exact ⟨Nat.le_refl _, by simp, e, by simpa using he, h2⟩
      · obtain ⟨a, b, c⟩ := ih.1 ⟨p, hp, h1, h2⟩
        refine ⟨by omega, by simp; omega, ?_⟩
        rw [show v - k = (v - (k + 1)) + 1 by omega, List.getD_cons_succ]
        exact c
    · rintro ⟨a, b, e, he, h⟩
      by_cases hk : v = k
      · subst hk
        rw [Nat.sub_self] at he
        exact ⟨((v : Int), e), List.mem_append_left _ (List.mem_map.2 ⟨e, he, rfl⟩), rfl, h⟩
      · obtain ⟨p, hp, hc⟩ := ih.2 ⟨by omega, by simp at b; omega, e, by rw [show v - k = (v - (k + 1)) + 1 by omega, List.getD_cons_succ] at he; exact he, h⟩
        exact ⟨p, List.mem_append_right _ hp, hc⟩
theorem mp_comp {α β γ : Type} (f : Nat → β → γ) (g : Nat → α → β) : ∀ (l : List α) (k : Nat), mp f k (mp g k l) = mp (fun i x => f i (g i x)) k l
  | [], _ => rfl
  | x :: r, k => by simp only [mp, mp_comp f g r (k + 1)]
theorem mp_congr {α β : Type} (f g : Nat → α → β) (z : α) : ∀ (l : List α) (k : Nat), (∀ i, i < l.length → f (k + i) (l.getD i z) = g (k + i) (l.getD i z)) → mp f k l = mp g k l
  | [], _, _ => rfl
  | x :: r, k, h => by
    have h0 := h 0 (by simp)
    simp only [Nat.add_zero, List.getD_cons_zero] at h0
    rw [mp, mp, h0, mp_congr f g z r (k + 1) (fun i hi => by have := h (i + 1) (by simpa using hi); rw [List.getD_cons_succ, show k + (i + 1) = k + 1 + i by omega] at this; exact this)]
theorem sum_add {α : Type} (f g h : Nat → α → Int) (z : α) : ∀ (l : List α) (k : Nat), (∀ i, i < l.length → f (k + i) (l.getD i z) = g (k + i) (l.getD i z) + h (k + i) (l.getD i z)) → sumI (mp f k l) = sumI (mp g k l) + sumI (mp h k l)
  | [], _, _ => rfl
  | x :: r, k, hh => by
    have h0 := hh 0 (by simp)
    simp only [Nat.add_zero, List.getD_cons_zero] at h0
    have ih := sum_add f g h z r (k + 1) (fun i hi => by have := hh (i + 1) (by simpa using hi); rw [List.getD_cons_succ, show k + (i + 1) = k + 1 + i by omega] at this; exact this)
    simp only [mp, sumI]
    omega
theorem sum_zero {α : Type} (f : Nat → α → Int) (z : α) : ∀ (l : List α) (k : Nat), (∀ i, i < l.length → 0 ≤ f (k + i) (l.getD i z)) → (sumI (mp f k l) = 0 ↔ ∀ i, i < l.length → f (k + i) (l.getD i z) = 0) ∧ 0 ≤ sumI (mp f k l)
  | [], _, _ => ⟨⟨fun _ i hi => by simp at hi, fun _ => rfl⟩, Int.le_refl _⟩
  | x :: r, k, hh => by
    have h0 := hh 0 (by simp)
    simp only [Nat.add_zero, List.getD_cons_zero] at h0
    obtain ⟨ih, ip⟩ := sum_zero f z r (k + 1) (fun i hi => by have := hh (i + 1) (by simpa using hi); rw [List.getD_cons_succ, show k + (i + 1) = k + 1 + i by omega] at this; exact this)
    simp only [mp, sumI]
    refine ⟨⟨fun h i hi => ?_, fun h => ?_⟩, by omega⟩
    · cases i with
      | zero => simp only [Nat.add_zero, List.getD_cons_zero]; omega
      | succ i => rw [List.getD_cons_succ, show k + (i + 1) = k + 1 + i by omega]; exact ih.1 (by omega) i (by simpa using hi)
    · have h1 := h 0 (by simp)
      simp only [Nat.add_zero, List.getD_cons_zero] at h1
      have h2 := ih.2 (fun i hi => by have := h (i + 1) (by simpa using hi); rw [List.getD_cons_succ, show k + (i + 1) = k + 1 + i by omega] at this; exact this)
      omega
theorem countp_congr {p q : Int → Bool} : ∀ n : Nat, (∀ j : Int, 0 ≤ j → j < n → p j = q j) → countp p n = countp q n
  | 0, _ => rfl
  | n + 1, h => by
    rw [countp, countp, countp_congr n (fun j h0 h1 => h j h0 (by omega)), h n (by omega) (by omega)]
theorem countp_split (p q : Int → Bool) : ∀ n : Nat, countp p n = countp (fun i => p i && q i) n + countp (fun i => p i && !q i) n
  | 0 => rfl
  | n + 1 => by
    have ih := countp_split p q n
    simp only [countp]
    by_cases hp : p n = true
    · by_cases hq : q n = true
      · rw [if_pos hp, if_pos (by rw [hp, hq]; rfl), if_neg (by rw [hp, hq]; simp)]; omega
      · rw [if_pos hp, if_neg (by rw [hp, Bool.eq_false_iff.2 hq]; simp), if_pos (by rw [hp, Bool.eq_false_iff.2 hq]; rfl)]; omega
    · rw [if_neg hp, if_neg (by rw [Bool.eq_false_iff.2 hp]; simp), if_neg (by rw [Bool.eq_false_iff.2 hp]; simp)]; omega
theorem countp_zero (p : Int → Bool) : ∀ n : Nat, countp p n = 0 ↔ ∀ j : Int, 0 ≤ j → j < n → p j = false
  | 0 => ⟨fun _ j h0 h1 => by omega, fun _ => rfl⟩
  | n + 1 => by
    have ih := countp_zero p n
    have hb := (countp_le p n).1
    rw [countp]
    constructor
    · intro h j h0 h1
      by_cases hp : p n = true
      · rw [if_pos hp] at h; omega
      · rw [if_neg hp] at h
        by_cases e : j = n
        · rw [e]; exact Bool.eq_false_iff.2 hp
        · exact ih.1 h j h0 (by omega)
    · intro h
      rw [if_neg (by rw [h n (by omega) (by omega)]; simp)]
      exact ih.2 (fun j h0 h1 => h j h0 (by omega))
theorem countp_out (p : Int → Bool) (n m : Nat) (hnm : n ≤ m) (h : ∀ j : Int, (n : Int) ≤ j → p j = false) : countp p m = countp p n := by
  obtain ⟨k, rfl⟩ : ∃ k, m = n + k := ⟨m - n, by omega⟩
  clear hnm
  induction k with
  | zero => rfl
  | succ k ih => rw [← Nat.add_assoc, countp, if_neg (by rw [h _ (by omega)]; simp), ih]
end Go.Proofs.YtdplnbmioioniaaGreat.Pq
end
section
namespace Go.Proofs.YtdplnbmioioniaaGreat.Pq
open Go.RowKit Go.Proofs.YtdplnbmioioniaaGreatW.PrintWords Go.Proofs.YtdplnbmioioniaaGreatW.PrintLast Go.Proofs.YtdplnbmioioniaaGreatW.PrintMore
set_option linter.unusedVariables false
set_option linter.unusedSimpArgs false
def allX (s t : Img) : Int := sumI (mp (fun v x => countp (pd x (t.getD v [])) x.length) 0 s)
def misX (s t : Img) (l : List (List XE)) : Int := sumI (mp (fun v x => countp (fun j => pd x (t.getD v []) j && !inL (l.getD v []) j) x.length) 0 s)
def nedX (s t : Img) (l : List (List XE)) : List (List XE) := mp (needF l) 0 (difL s t)
theorem canon_in (p : Int → Bool) (n : Nat) : ∀ x ∈ canon p n, 0 ≤ x.f0 ∧ 0 < x.f1 ∧ x.f0 + x.f1 ≤ n := by
  intro x hx
  obtain ⟨a, b⟩ := canon_low _ 0 (canon_spec p n).1 x hx
  have := ((canon_spec p n).2.1 (x.f0 + x.f1 - 1)).1 ⟨x, hx, by omega, by omega⟩
  exact ⟨a, b, by omega⟩
theorem inL_canon (p : Int → Bool) (n : Nat) (hn : n ≤ 4096) (j : Int) : inL (canon p n) j = true ↔ 0 ≤ j ∧ j < n ∧ p j = true := by
  rw [inL_mem _ (fun x hx => by obtain ⟨a, b, c⟩ := canon_in p n x hx; exact ⟨a, b, by omega⟩)]
  exact (canon_spec p n).2.1 j
theorem okC_canon : ∀ (l : List XE) (nx : Int) (n : Int), Canon nx l → 0 ≤ nx → (∀ x ∈ l, x.f0 + x.f1 ≤ n) → okC n nx l = true
  | [], _, _, _, _, _ => rfl
  | x :: r, nx, n, ⟨h1, h2, h3⟩, h0, h => by
    have hx := h x (List.mem_cons_self ..)
    rw [okC, okC_canon r _ n h3 (by omega) (fun y hy => h y (List.mem_cons_of_mem _ hy)), decide_eq_true (by omega)]; rfl
theorem fitsX_of {im : Img} {l : List (List XE)} (h1 : l.length = im.length) (h2 : ∀ v, v < l.length → okC ((im.getD v []).length : Int) 0 (l.getD v []) = true) : fitsX im l = 0 := by
  unfold fitsX
  rw [if_pos h1, if_neg]
  intro h
  obtain ⟨b, hb, hn⟩ := List.any_eq_true.1 h
  obtain ⟨i, hi, rfl⟩ := List.getElem_of_mem hb
  rw [mp_len] at hi
  have := mp_getD (okV im) [] true l 0 i hi
  rw [getD_at _ _ _ (by rw [mp_len]; exact hi), Nat.zero_add] at this
  rw [this, show okV im i (l.getD i []) = true from h2 i hi] at hn
  simp at hn
theorem fitsX_at {im : Img} {l : List (List XE)} (h : fitsX im l = 0) (v : Nat) (hv : v < l.length) : okC ((im.getD v []).length : Int) 0 (l.getD v []) = true := by
  have hlen := fits_len h
  unfold fitsX at h
  rw [if_pos hlen] at h
  split at h
  · cases h
  · rename_i hb
    cases hq : okC ((im.getD v []).length : Int) 0 (l.getD v []) with
    | true => rfl
    | false =>
      refine absurd (List.any_eq_true.2 ⟨false, ?_, rfl⟩) hb
      have := mp_getD (okV im) [] true l 0 v hv
      rw [Nat.zero_add, show okV im v (l.getD v []) = false from hq] at this
      rw [← this, getD_at _ _ _ (by rw [mp_len]; exact hv)]
      exact List.getElem_mem _
theorem eqX_iff (x y : XE) : eqX x y = true ↔ x = y := by
  cases x; cases y; simp [eqX]
theorem eqXs_iff : ∀ (a b : List XE), eqXs a b = true ↔ a = b
  | [], [] => by simp [eqXs]
  | [], _ :: _ => by simp [eqXs]
  | _ :: _, [] => by simp [eqXs]
  | x :: r, y :: t => by simp [eqXs, eqX_iff, eqXs_iff r t]
theorem eqLs_iff : ∀ (a b : List (List XE)), eqLs a b = true ↔ a = b
  | [], [] => by simp [eqLs]
  | [], _ :: _ => by simp [eqLs]
  | _ :: _, [] => by simp [eqLs]
  | x :: r, y :: t => by simp [eqLs, eqXs_iff, eqLs_iff r t]
theorem dif_at {s t : Img} (hp : pairX s t = 0) (v : Nat) (hv : v < s.length) : (difL s t).getD v [] = canon (pd (s.getD v []) (t.getD v [])) (s.getD v []).length := by
  unfold difL
  rw [mp_getD _ [] [] s 0 v hv, Nat.zero_add]
theorem ned_len {s t : Img} {l : List (List XE)} (hp : pairX s t = 0) : (nedX s t l).length = s.length := by unfold nedX; rw [mp_len, difL_len]
theorem ned_at {s t : Img} {l : List (List XE)} (hp : pairX s t = 0) (v : Nat) (hv : v < s.length) : (nedX s t l).getD v [] = needF l v (canon (pd (s.getD v []) (t.getD v [])) (s.getD v []).length) := by
  unfold nedX
  rw [mp_getD _ [] [] _ 0 v (by rw [difL_len]; exact hv), Nat.zero_add, dif_at hp v hv]
theorem ned_iff {s t : Img} {l : List (List XE)} (hp : pairX s t = 0) (v : Nat) (hv : v < s.length) (j : Int) : MemX ((nedX s t l).getD v []) j ↔ 0 ≤ j ∧ j < ((s.getD v []).length : Int) ∧ pd (s.getD v []) (t.getD v []) j = true ∧ inL (l.getD v []) j = true := by
  have hs := sizes_le (pair_sizes hp).1 v hv
  rw [ned_at hp v hv]
  unfold needF
  rw [(canon_spec _ 4096).2.1 j, Bool.and_eq_true, inL_canon _ _ hs]
  constructor
  · rintro ⟨a, _, ⟨_, c, d⟩, e⟩; exact ⟨a, c, d, e⟩
  · rintro ⟨a, c, d, e⟩; exact ⟨a, by omega, ⟨a, c, d⟩, e⟩
theorem ned_in {s t : Img} {l : List (List XE)} (hp : pairX s t = 0) (v : Nat) (hv : v < s.length) : ∀ x ∈ (nedX s t l).getD v [], 0 ≤ x.f0 ∧ 0 < x.f1 ∧ x.f0 + x.f1 ≤ ((s.getD v []).length : Int) := by
  intro x hx
  have hc : ∀ x ∈ (nedX s t l).getD v [], 0 ≤ x.f0 ∧ 0 < x.f1 := by
    rw [ned_at hp v hv]; unfold needF
    intro x hx
    obtain ⟨a, b, _⟩ := canon_in _ _ x hx
    exact ⟨a, b⟩
  obtain ⟨a, b⟩ := hc x hx
  have := (ned_iff hp v hv (x.f0 + x.f1 - 1)).1 ⟨x, hx, by omega, by omega⟩
  exact ⟨a, b, by omega⟩
theorem ned_canon {s t : Img} {l : List (List XE)} (hp : pairX s t = 0) (v : Nat) (hv : v < s.length) : Canon 0 ((nedX s t l).getD v []) := by
  rw [ned_at hp v hv]; exact (canon_spec _ 4096).1
theorem ned_fits {s t : Img} {l : List (List XE)} (hp : pairX s t = 0) : fitsX s (nedX s t l) = 0 :=
  fitsX_of (ned_len hp) fun v hv => okC_canon _ 0 _ (ned_canon hp v (by rwa [ned_len hp] at hv)) (Int.le_refl _) fun x hx => (ned_in hp v (by rwa [ned_len hp] at hv) x hx).2.2
theorem ned_count {s t : Img} {l : List (List XE)} (hp : pairX s t = 0) (v : Nat) (hv : v < s.length) : countp (inL ((nedX s t l).getD v [])) 4096 = countp (fun j => pd (s.getD v []) (t.getD v []) j && inL (l.getD v []) j) (s.getD v []).length := by
  have hs := sizes_le (pair_sizes hp).1 v hv
  have hin : ∀ j, inL ((nedX s t l).getD v []) j = true ↔ 0 ≤ j ∧ j < ((s.getD v []).length : Int) ∧ pd (s.getD v []) (t.getD v []) j = true ∧ inL (l.getD v []) j = true := fun j => by
    rw [inL_mem _ (fun x hx => by obtain ⟨a, b, c⟩ := ned_in hp v hv x hx; exact ⟨a, b, by omega⟩)]
    exact ned_iff hp v hv j
  rw [countp_out _ _ 4096 hs (fun j hj => by
    cases h : inL ((nedX s t l).getD v []) j with
    | false => rfl
    | true => have := (hin j).1 h; omega)]
  refine countp_congr _ fun j h0 h1 => ?_
  cases h : inL ((nedX s t l).getD v []) j with
  | true => obtain ⟨_, _, a, b⟩ := (hin j).1 h; rw [a, b]; rfl
  | false =>
    cases ha : pd (s.getD v []) (t.getD v []) j with
    | false => rfl
    | true =>
      cases hb : inL (l.getD v []) j with
      | false => rfl
      | true => rw [(hin j).2 ⟨h0, h1, ha, hb⟩] at h; cases h
theorem ned_cost {s t : Img} {l : List (List XE)} (hp : pairX s t = 0) : costX (nedX s t l) = sumI (mp (fun v x => countp (fun j => pd x (t.getD v []) j && inL (l.getD v []) j) x.length) 0 s) := by
  have e : costX (nedX s t l) = sumI (mp (fun v x => countp (inL (needF l v (canon (pd x (t.getD v [])) x.length))) 4096) 0 s) := by
    unfold costX nedX difL
    rw [mp_comp, mp_comp]
  rw [e]
  congr 1
  refine mp_congr _ _ [] s 0 fun v hv => ?_
  rw [Nat.zero_add, ← ned_at hp v hv, ned_count hp v hv]
theorem all_split {s t : Img} {l : List (List XE)} (hp : pairX s t = 0) : allX s t = costX (nedX s t l) + misX s t l := by
  rw [ned_cost hp]
  refine sum_add _ _ _ [] s 0 fun v hv => ?_
  rw [Nat.zero_add]
  exact countp_split _ _ _
theorem volL_sum : ∀ (ls : List (List XE)) (k : Nat), sumI ((volL k ls).map fun p => p.2.f1) = sumI (mp (fun _ x => sumc x) k ls)
  | [], _ => rfl
  | x :: r, k => by
    have happ : ∀ (a b : List Int), sumI (a ++ b) = sumI a + sumI b := by
      intro a b
      induction a with
      | nil => simp [sumI]
      | cons y a ih => simp only [List.cons_append, sumI, ih]; omega
    have hrow : sumI (x.map fun e => e.f1) = sumc x := by
      unfold sumc
      induction x with
      | nil => rfl
      | cons y x ih => simp only [List.map_cons, sumI, List.sum_cons, ih]
    simp only [volL, List.map_append, List.map_map, mp, sumI, happ, volL_sum r (k + 1)]
    rw [← hrow]; rfl
theorem ned_sectors {s t : Img} {l : List (List XE)} (hp : pairX s t = 0) : sumI (((volL 0 (nedX s t l)).map (sliceX s)).map fun w => (w.f2.length : Int)) = costX (nedX s t l) := by
  have e : ((volL 0 (nedX s t l)).map (sliceX s)).map (fun w => (w.f2.length : Int)) = (volL 0 (nedX s t l)).map fun p => p.2.f1 := by
    rw [List.map_map]
    refine List.map_congr_left fun p hpm => ?_
    exact sliceX_len (fits_mem (ned_fits hp) p hpm)
  rw [e, volL_sum]
  unfold costX
  congr 1
  refine mp_congr _ _ [] _ 0 fun v hv => ?_
  rw [ned_len hp] at hv
  have hs := sizes_le (pair_sizes hp).1 v hv
  rw [← sumc_canon, canon_self _ (ned_canon hp v hv) (fun x hx => by have := (ned_in hp v hv x hx).2.2; omega)]
theorem l_in {s t : Img} {l : List (List XE)} (hp : pairX s t = 0) (hf : fitsX s l = 0) (v : Nat) (hv : v < s.length) : ∀ x ∈ l.getD v [], 0 ≤ x.f0 ∧ 0 < x.f1 ∧ x.f0 + x.f1 ≤ ((s.getD v []).length : Int) := fun x hx => by
  have := okC_mem _ _ _ (fitsX_at hf v (by rw [fits_len hf]; exact hv)) x hx
  exact ⟨this.2.1, this.1, this.2.2⟩
theorem l_iff {s t : Img} {l : List (List XE)} (hp : pairX s t = 0) (hf : fitsX s l = 0) (v : Nat) (hv : v < s.length) (j : Int) : inL (l.getD v []) j = true ↔ MemX (l.getD v []) j := by
  have hs := sizes_le (pair_sizes hp).1 v hv
  exact inL_mem _ (fun x hx => by obtain ⟨a, b, c⟩ := l_in hp hf v hv x hx; exact ⟨a, b, by omega⟩) j
theorem mis_zero {s t : Img} {l : List (List XE)} (hp : pairX s t = 0) (hf : fitsX s l = 0) : misX s t l = 0 ↔ ∀ v, v < s.length → ∀ j : Int, 0 ≤ j → j < ((s.getD v []).length : Int) → pd (s.getD v []) (t.getD v []) j = true → inL (l.getD v []) j = true := by
  unfold misX
  rw [(sum_zero _ [] s 0 (fun v hv => (countp_le _ _).1)).1]
  refine ⟨fun h v hv j h0 h1 hpd => ?_, fun h v hv => ?_⟩
  · have := (countp_zero _ _).1 (h v hv) j h0 h1
    rw [Nat.zero_add, hpd] at this
    simpa using this
  · rw [Nat.zero_add]
    refine (countp_zero _ _).2 fun j h0 h1 => ?_
    cases hpd : pd (s.getD v []) (t.getD v []) j with
    | false => rfl
    | true => rw [h v hv j h0 h1 hpd]; rfl
theorem exact_iff {s t : Img} {l : List (List XE)} (hp : pairX s t = 0) (hf : fitsX s l = 0) : eqLs (difL s t) (nedX s t l) = true ↔ misX s t l = 0 := by
  rw [eqLs_iff, mis_zero hp hf]
  have hlen : (difL s t).length = (nedX s t l).length := by rw [difL_len, ned_len hp]
  constructor
  · intro h v hv j h0 h1 hpd
    have hm : MemX ((difL s t).getD v []) j := by rw [dif_at hp v hv]; exact ((canon_spec _ _).2.1 j).2 ⟨h0, h1, hpd⟩
    rw [h] at hm
    exact ((ned_iff hp v hv j).1 hm).2.2.2
  · intro h
    refine list_ext_getD [] _ _ hlen fun v hv => ?_
    rw [difL_len] at hv
    have hd := dif_at hp v hv
    refine Canon.unique (lo := 0) (lo' := 0) (by rw [hd]; exact (canon_spec _ _).1) (ned_canon hp v hv) fun j => ?_
    rw [ned_iff hp v hv j, hd, (canon_spec _ _).2.1 j]
    exact ⟨fun ⟨a, b, c⟩ => ⟨a, b, c, h v hv j a b c⟩, fun ⟨a, b, c, _⟩ => ⟨a, b, c⟩⟩
def imgA (s t : Img) (l : List (List XE)) : Img := ((volL 0 l).map (sliceX s)).foldl putW t
theorem img_app {s t : Img} (hp : pairX s t = 0) {l : List (List XE)} (hf : fitsX s l = 0) : applyX t ((volL 0 l).map (sliceX s)) = (imgA s t l, 0, 0) ∧ lens (imgA s t l) = lens s := by
  obtain ⟨hs, hl⟩ := pair_sizes hp
  obtain ⟨a, b⟩ := appG_all ((volL 0 l).map (sliceX s)) 0 t t rfl (fun w hw => by
    obtain ⟨p, hpm, rfl⟩ := List.mem_map.1 hw
    exact sliceX_fits hl.symm (fits_mem hf p hpm))
  refine ⟨?_, by unfold imgA; rw [b, ← hl]⟩
  unfold applyX
  rw [if_pos (by rw [← hl]; exact hs), a]; rfl
theorem img_at {s t : Img} (hp : pairX s t = 0) {l : List (List XE)} (hf : fitsX s l = 0) (v i : Nat) (hv : v < s.length) : (MemX (l.getD v []) (i : Int) → at2 (imgA s t l) v i = at2 s v i) ∧ (¬ MemX (l.getD v []) (i : Int) → at2 (imgA s t l) v i = at2 t v i) := by
  obtain ⟨hs, hl⟩ := pair_sizes hp
  have hc := volL_cov l 0 v i
  rw [Nat.sub_zero] at hc
  obtain ⟨a, b⟩ := at2_fold s (volL 0 l) t hl.symm (fun p hpm => fits_mem hf p hpm) v i hv
  have hlen := fits_len hf
  exact ⟨fun h => a (hc.2 ⟨Nat.zero_le _, by omega, h⟩), fun h => b (fun q => h (hc.1 q).2.2)⟩
theorem pd_at {s t : Img} (hp : pairX s t = 0) (v i : Nat) : pd (s.getD v []) (t.getD v []) (i : Int) = !eqS (at2 s v i) (at2 t v i) := by
  unfold pd at2; rw [Int.toNat_natCast]
theorem pd_false {s t : Img} (hp : pairX s t = 0) (v i : Nat) : pd (s.getD v []) (t.getD v []) (i : Int) = false ↔ at2 s v i = at2 t v i := by
  rw [pd_at hp, ← eqS_iff]; cases eqS (at2 s v i) (at2 t v i) <;> simp
theorem img_eq {s t : Img} (hp : pairX s t = 0) {l : List (List XE)} (hf : fitsX s l = 0) : imgA s t l = s ↔ misX s t l = 0 := by
  obtain ⟨_, h1⟩ := img_app hp hf
  rw [mis_zero hp hf]
  constructor
  · intro h v hv j h0 h2 hpd
    obtain ⟨i, rfl⟩ : ∃ i : Nat, j = (i : Int) := ⟨j.toNat, by omega⟩
    obtain ⟨a1, a2⟩ := img_at hp hf v i hv
    rw [l_iff hp hf v hv]
    refine Decidable.byContradiction (dec := Classical.propDecidable _) fun hn => ?_
    have := a2 hn
    rw [h, ← pd_false hp, hpd] at this
    cases this
  · intro h
    refine img_ext h1 fun v i hv hi => ?_
    obtain ⟨hl, hvl⟩ := lens_vol h1
    rw [hl] at hv
    rw [hvl v (by omega)] at hi
    obtain ⟨a1, a2⟩ := img_at hp hf v i hv
    by_cases hm : MemX (l.getD v []) (i : Int)
    · exact a1 hm
    · rw [a2 hm]
      refine ((pd_false hp v i).1 ?_).symm
      cases hq : pd (s.getD v []) (t.getD v []) (i : Int) with
      | false => rfl
      | true => exact absurd ((l_iff hp hf v hv _).1 (h v hv i (by omega) (by omega) hq)) hm
end Go.Proofs.YtdplnbmioioniaaGreat.Pq
end
section
namespace Go.Proofs.YtdplnbmioioniaaGreat.Pq
open Go.RowKit Go.Proofs.YtdplnbmioioniaaGreatW.PrintWords Go.Proofs.YtdplnbmioioniaaGreatW.PrintLast Go.Proofs.YtdplnbmioioniaaGreatW.PrintMore
set_option linter.unusedVariables false
set_option linter.unusedSimpArgs false
def eqSs : List SS → List SS → Bool
  | [], [] => true
  | x :: r, y :: t => eqS x y && eqSs r t
  | _, _ => false
theorem eqSs_iff : ∀ (a b : List SS), eqSs a b = true ↔ a = b
  | [], [] => by simp [eqSs]
  | [], _ :: _ => by simp [eqSs]
  | _ :: _, [] => by simp [eqSs]
  | x :: r, y :: t => by simp [eqSs, eqS_iff, eqSs_iff r t]
def eqIs : Img → Img → Bool
  | [], [] => true
  | x :: r, y :: t => eqSs x y && eqIs r t
  | _, _ => false
theorem eqIs_iff : ∀ (a b : Img), eqIs a b = true ↔ a = b
  | [], [] => by simp [eqIs]
  | [], _ :: _ => by simp [eqIs]
  | _ :: _, [] => by simp [eqIs]
  | x :: r, y :: t => by simp [eqIs, eqSs_iff, eqIs_iff r t]
theorem neS (x y : SS) : ((!(x.f0 == y.f0)) || (!(x.f1 == y.f1) || (!(x.f2 == y.f2) || (!(x.f3 == y.f3) || (!(x.f4 == y.f4) || (!(x.f5 == y.f5) || (!(x.f6 == y.f6) || (!(x.f7 == y.f7))))))))) = !eqS x y := by
  unfold eqS; simp only [Bool.not_and]
theorem ev_rvol_loop (a b : List SS) (ha : a.length ≤ 1048576) (hb : b.length = a.length) : ∀ (n j : Nat), a.length - j = n → j ≤ a.length → Ev (fun k => standbyref07_SameVolume.l0 k a b (j : Int)) (eqSs (a.drop j) (b.drop j))
  | 0, j, hn, hj => by
    rw [List.drop_eq_nil_of_le (by omega), List.drop_eq_nil_of_le (by omega)]
    exact Ev.step (f := fun _ => some true) (fun k => by rw [standbyref07_SameVolume.l0, if_neg (by omega)]) (Ev.now true)
  | n + 1, j, hn, hj => by
    have h1 : j < a.length := by omega
    have h2 : j < b.length := by omega
    have ih := ev_rvol_loop a b ha hb n (j + 1) (by omega) (by omega)
    have hunf : ∀ k, standbyref07_SameVolume.l0 (k + 1) a b (j : Int) = (if (!eqS a[j] b[j]) = true then some false else standbyref07_SameVolume.l0 k a b ((j + 1 : Nat) : Int)) := fun k => by
      rw [standbyref07_SameVolume.l0, rdSS, rdSS, getD_at _ _ _ h1, getD_at _ _ _ h2, if_pos (by omega), if_pos (by omega), if_pos (by omega), up1 j a.length h1 ha, neS]
    rw [List.drop_eq_getElem_cons h1, List.drop_eq_getElem_cons h2, eqSs]
    cases e : eqS a[j] b[j] with
    | true => exact Ev.step (fun k => by rw [hunf, e, if_neg (by simp)]) ih
    | false => exact Ev.step (f := fun _ => some false) (fun k => by rw [hunf, e, if_pos (by simp)]) (Ev.now false)
theorem eqSs_len : ∀ (l m : List SS), l.length ≠ m.length → eqSs l m = false
  | [], [], h => absurd rfl h
  | [], _ :: _, _ => rfl
  | _ :: _, [], _ => rfl
  | x :: r, y :: t, h => by rw [eqSs, eqSs_len r t (fun e => h (by simp [e])), Bool.and_false]
theorem ev_rvol (a b : List SS) (ha : a.length ≤ 1048576) : Ev (fun k => standbyref07_SameVolume.f k a b) (eqSs a b) := by
  by_cases h : (a.length : Int) = (b.length : Int)
  · exact Ev.congr (fun k => by unfold standbyref07_SameVolume.f; rw [if_pos h]; rfl) (ev_rvol_loop a b ha (by omega) a.length 0 (by omega) (by omega))
  · rw [eqSs_len a b (fun e => h (by rw [e]))]
    exact Ev.congr (f := fun _ => some false) (fun k => by unfold standbyref07_SameVolume.f; rw [if_neg h]) (Ev.now false)
theorem ev_rimg_loop (a b : Img) (ha : a.length ≤ 1048576) (hr : ∀ v, v < a.length → (a.getD v []).length ≤ 1048576) (hb : b.length = a.length) : ∀ (n j : Nat), a.length - j = n → j ≤ a.length → Ev (fun k => standbyref07_Same.l0 k a b (j : Int)) (eqIs (a.drop j) (b.drop j))
  | 0, j, hn, hj => by
    rw [List.drop_eq_nil_of_le (by omega), List.drop_eq_nil_of_le (by omega)]
    exact Ev.step (f := fun _ => some true) (fun k => by rw [standbyref07_Same.l0, if_neg (by omega)]) (Ev.now true)
  | n + 1, j, hn, hj => by
    have h1 : j < a.length := by omega
    have h2 : j < b.length := by omega
    have ih := ev_rimg_loop a b ha hr hb n (j + 1) (by omega) (by omega)
    have hv := ev_rvol (a.getD j []) (b.getD j []) (hr j h1)
    rw [getD_at _ _ _ h1, getD_at _ _ _ h2] at hv
    rw [List.drop_eq_getElem_cons h1, List.drop_eq_getElem_cons h2, eqIs]
    refine Ev.step (f := fun k => (standbyref07_SameVolume.f k a[j] b[j]).bind fun t => (if t = true then standbyref07_Same.l0 k a b ((j + 1 : Nat) : Int) else some false)) (fun k => by rw [standbyref07_Same.l0, rdS, rdS, getD_at _ _ _ h1, getD_at _ _ _ h2, if_pos (by omega), if_pos (by omega), if_pos (by omega), up1 j a.length h1 ha]) (Ev.bind hv ?_)
    cases e : eqSs a[j] b[j] with
    | true => simp only [if_true, Bool.true_and]; exact ih
    | false => exact Ev.now false
theorem ev_rimg (a b : Img) (ha : a.length ≤ 1048576) (hr : ∀ v, v < a.length → (a.getD v []).length ≤ 1048576) (hb : b.length = a.length) : Ev (fun k => standbyref07_Same.f k a b) (eqIs a b) :=
  Ev.congr (fun k => by unfold standbyref07_Same.f; rw [if_pos (by omega)]; rfl) (ev_rimg_loop a b ha hr hb a.length 0 (by omega) (by omega))
theorem ev_sectors_loop (l : List WS) (hl : l.length ≤ 1048576) (hd : ∀ w ∈ l, w.f2.length ≤ 1048576) : ∀ (n j : Nat) (s : Int), l.length - j = n → j ≤ l.length → 0 ≤ s → s ≤ 1048576 * j → s + sumI ((l.drop j).map fun w => (w.f2.length : Int)) = sumI (l.map fun w => (w.f2.length : Int)) → Ev (fun k => standbyref22_Sectors.l0 k l s (j : Int)) (sumI (l.map fun w => (w.f2.length : Int)))
  | 0, j, s, hn, hj, h0, h1, he => by
    rw [List.drop_eq_nil_of_le (by omega)] at he
    rw [← he]
    simp only [List.map_nil, sumI, Int.add_zero]
    exact Ev.step (f := fun _ => some s) (fun k => by rw [standbyref22_Sectors.l0, if_neg (by omega)]) (Ev.now _)
  | n + 1, j, s, hn, hj, h0, h1, he => by
    have hlt : j < l.length := by omega
    have hrd : rd_T66 l (j : Int) = l[j] := by unfold rd_T66; rw [Int.toNat_natCast, getD_at _ _ _ hlt]
    have hb := hd _ (List.getElem_mem hlt)
    rw [List.drop_eq_getElem_cons hlt, List.map_cons, sumI] at he
    have ih := ev_sectors_loop l hl hd n (j + 1) (s + (l[j].f2.length : Int)) (by omega) (by omega) (by omega) (by omega) (by rw [← he]; omega)
    exact Ev.step (fun k => by rw [standbyref22_Sectors.l0, if_pos (by omega), if_pos (by omega), hrd, up1 j l.length hlt hl, w64 (by omega) (by omega)]) ih
theorem ev_sectors (l : List WS) (hl : l.length ≤ 1048576) (hd : ∀ w ∈ l, w.f2.length ≤ 1048576) : Ev (fun k => standbyref22_Sectors.f k l) (sumI (l.map fun w => (w.f2.length : Int))) :=
  ev_sectors_loop l hl hd l.length 0 0 (by omega) (by omega) (by omega) (by omega) (by rw [List.drop_zero, Int.zero_add])
theorem ev_dif_in (s t : Img) (l : List (List XE)) (R : Int × Int) (hs : s.length ≤ 1048576) (v : Nat) (hv : v < s.length) (hvt : v < t.length) (hvl : v < l.length) (hr : (s.getD v []).length ≤ 4096) (hrt : (t.getD v []).length = (s.getD v []).length) (hx : ∀ e ∈ l.getD v [], okX e)
    (a m : Int) (ha : 0 ≤ a) (ha1 : a ≤ 4096 * v) (hm : 0 ≤ m) (hm1 : m ≤ 4096 * v)
    (hnext : Ev (fun k => standbylaw45_differing.l0 k s t l (a + countp (pd (s.getD v []) (t.getD v [])) (s.getD v []).length) (m + countp (fun j => pd (s.getD v []) (t.getD v []) j && !inL (l.getD v []) j) (s.getD v []).length) ((v + 1 : Nat) : Int)) R) :
    ∀ (n i : Nat), (s.getD v []).length - i = n → i ≤ (s.getD v []).length → Ev (fun k => standbylaw45_differing.l1 k s t l (a + countp (pd (s.getD v []) (t.getD v [])) i) (m + countp (fun j => pd (s.getD v []) (t.getD v []) j && !inL (l.getD v []) j) i) (v : Int) (i : Int)) R
  | 0, i, hn, hi => by
    have : i = (s.getD v []).length := by omega
    subst this
    exact Ev.step (fun k => by rw [standbylaw45_differing.l1, if_pos (by omega), if_pos (by omega), rdS, if_neg (by omega), up1 v s.length hv hs]) hnext
  | n + 1, i, hn, hi => by
    have h1 : i < (s.getD v []).length := by omega
    have ih := ev_dif_in s t l R hs v hv hvt hvl hr hrt hx a m ha ha1 hm hm1 hnext n (i + 1) (by omega) (by omega)
    obtain ⟨c1, c2⟩ := countp_le (pd (s.getD v []) (t.getD v [])) i
    obtain ⟨d1, d2⟩ := countp_le (fun j => pd (s.getD v []) (t.getD v []) j && !inL (l.getD v []) j) i
    have hunf : ∀ k x y, standbylaw45_differing.l1 (k + 1) s t l x y (v : Int) (i : Int) = (if eqS ((s.getD v []).getD i z59) ((t.getD v []).getD i z59) = true then standbylaw45_differing.l1 k s t l x y (v : Int) ((i + 1 : Nat) : Int) else (extent_Contains.f (l.getD v []) (i : Int)).bind fun t209 => (if t209 = true then standbylaw45_differing.l1 k s t l (wrap64 (x + 1)) y (v : Int) ((i + 1 : Nat) : Int) else standbylaw45_differing.l1 k s t l (wrap64 (x + 1)) (wrap64 (y + 1)) (v : Int) ((i + 1 : Nat) : Int))) := fun k x y => by
      rw [standbylaw45_differing.l1, if_pos (by omega), if_pos (by omega), rdS, rdS, rdE, if_pos (by omega), if_pos (by omega), if_pos (by omega), if_pos (by omega), rdSS, rdSS, up1 i (s.getD v []).length h1 (by omega), if_pos (show (v : Int) < (l.length : Int) by omega)]
      rfl
    have hpd : pd (s.getD v []) (t.getD v []) (i : Int) = !eqS ((s.getD v []).getD i z59) ((t.getD v []).getD i z59) := by unfold pd; rw [Int.toNat_natCast]
    simp only [countp, hpd] at ih
    cases e : eqS ((s.getD v []).getD i z59) ((t.getD v []).getD i z59) with
    | true =>
      rw [e] at ih
      simp only [Bool.not_true, Bool.false_and, Bool.false_eq_true, if_false] at ih
      exact Ev.step (fun k => by rw [hunf, e, if_pos rfl]) ih
    | false =>
      rw [e] at ih
      simp only [Bool.not_false, Bool.true_and, if_true] at ih
      have hc : extent_Contains.f (l.getD v []) (i : Int) = some (inL (l.getD v []) (i : Int)) := by unfold extent_Contains.f; rw [if_pos hx]; rfl
      cases hq : inL (l.getD v []) (i : Int) with
      | true =>
        rw [hq] at ih
        simp only [Bool.not_true, Bool.false_eq_true, if_false] at ih
        refine Ev.step (fun k => by rw [hunf, e, if_neg (by simp), hc, hq, Option.bind_some, if_pos rfl, w64 (by omega) (by omega), Int.add_assoc]) ih
      | false =>
        rw [hq] at ih
        simp only [Bool.not_false, if_true] at ih
        refine Ev.step (fun k => by rw [hunf, e, if_neg (by simp), hc, hq, Option.bind_some, if_neg (by simp), w64 (by omega) (by omega), w64 (by omega) (by omega), Int.add_assoc, Int.add_assoc]) ih
theorem ev_dif_loop (s t : Img) (l : List (List XE)) (hs : s.length ≤ 1048576) (hst : t.length = s.length) (hsl : l.length = s.length) (hr : ∀ v, v < s.length → (s.getD v []).length ≤ 4096) (hrt : ∀ v, v < s.length → (t.getD v []).length = (s.getD v []).length) (hx : ∀ x ∈ l, ∀ e ∈ x, okX e) :
    ∀ (n v : Nat) (a m : Int), s.length - v = n → v ≤ s.length → 0 ≤ a → a ≤ 4096 * v → 0 ≤ m → m ≤ 4096 * v →
      a + sumI (mp (fun v x => countp (pd x (t.getD v [])) x.length) v (s.drop v)) = allX s t → m + sumI (mp (fun v x => countp (fun j => pd x (t.getD v []) j && !inL (l.getD v []) j) x.length) v (s.drop v)) = misX s t l → Ev (fun k => standbylaw45_differing.l0 k s t l a m (v : Int)) (allX s t, misX s t l)
  | 0, v, a, m, hn, hv, ha, ha1, hm, hm1, e1, e2 => by
    rw [List.drop_eq_nil_of_le (by omega)] at e1 e2
    rw [← e1, ← e2]
    simp only [mp, sumI, Int.add_zero]
    exact Ev.step (f := fun _ => some (a, m)) (fun k => by rw [standbylaw45_differing.l0, if_neg (by omega)]) (Ev.now _)
  | n + 1, v, a, m, hn, hv, ha, ha1, hm, hm1, e1, e2 => by
    have h1 : v < s.length := by omega
    have hlen := hr v h1
    obtain ⟨c1, c2⟩ := countp_le (pd (s.getD v []) (t.getD v [])) (s.getD v []).length
    obtain ⟨d1, d2⟩ := countp_le (fun j => pd (s.getD v []) (t.getD v []) j && !inL (l.getD v []) j) (s.getD v []).length
    rw [mp_drop _ s [] v h1, sumI] at e1 e2
    have ih := ev_dif_loop s t l hs hst hsl hr hrt hx n (v + 1) (a + countp (pd (s.getD v []) (t.getD v [])) (s.getD v []).length) (m + countp (fun j => pd (s.getD v []) (t.getD v []) j && !inL (l.getD v []) j) (s.getD v []).length) (by omega) (by omega) (by omega) (by omega) (by omega) (by omega) (by rw [← e1]; omega) (by rw [← e2]; omega)
    have hin := ev_dif_in s t l _ hs v h1 (by omega) (by omega) hlen (hrt v h1) (by rw [getD_at _ _ _ (by omega : v < l.length)]; exact hx _ (List.getElem_mem _)) a m ha ha1 hm hm1 ih _ 0 rfl (by omega)
    simp only [countp, Int.add_zero] at hin
    exact Ev.step (fun k => by rw [standbylaw45_differing.l0, if_pos (by omega)]; rfl) hin
theorem volL_le (c : Nat) : ∀ (ls : List (List XE)) (k : Nat), (∀ l ∈ ls, l.length ≤ c) → (volL k ls).length ≤ c * ls.length
  | [], _, _ => by simp [volL]
  | l :: r, k, h => by
    have h1 := h l (List.mem_cons_self ..)
    have h2 := volL_le c r (k + 1) (fun x hx => h x (List.mem_cons_of_mem _ hx))
    simp only [volL, List.length_append, List.length_map, List.length_cons, Nat.mul_succ]; omega
end Go.Proofs.YtdplnbmioioniaaGreat.Pq
end
section
namespace Go.Proofs.YtdplnbmioioniaaGreat.Pq
open Go.RowKit Go.Proofs.YtdplnbmioioniaaGreatW.PrintWords Go.Proofs.YtdplnbmioioniaaGreatW.PrintLast Go.Proofs.YtdplnbmioioniaaGreatW.PrintMore
set_option linter.unusedVariables false
set_option linter.unusedSimpArgs false
theorem dif_fits {s t : Img} (hp : pairX s t = 0) : fitsX s (difL s t) = 0 := by
  refine fitsX_of (difL_len s t) fun v hv => ?_
  rw [difL_len] at hv
  rw [dif_at hp v hv]
  exact okC_canon _ 0 _ (canon_spec _ _).1 (Int.le_refl _) fun x hx => (canon_in _ _ x hx).2.2
theorem dif_mis {s t : Img} (hp : pairX s t = 0) : misX s t (difL s t) = 0 := by
  rw [mis_zero hp (dif_fits hp)]
  intro v hv j h0 h1 hpd
  rw [dif_at hp v hv, inL_canon _ _ (sizes_le (pair_sizes hp).1 v hv)]
  exact ⟨h0, h1, hpd⟩
theorem dif_ned {s t : Img} (hp : pairX s t = 0) : nedX s t (difL s t) = difL s t := ((eqLs_iff _ _).1 ((exact_iff hp (dif_fits hp)).2 (dif_mis hp))).symm
def pok (prev : Option WS) (v nx : Int) : Prop := match prev with
  | none => True
  | some p => p.f0 < v ∨ (p.f0 = v ∧ p.f1 + (p.f2.length : Int) < nx)
theorem coal_row (fc : WS → Int) (s : Img) (v n : Int) (rest : List WS) (hrest : ∀ prev, (∀ p, prev = some p → p.f0 ≤ v) → coalG fc prev rest = 0) : ∀ (row : List XE) (nx : Int) (prev : Option WS), pok prev v nx → okC n nx row = true → (∀ e ∈ row, fitP s (v, e) ∧ fc (sliceX s (v, e)) = 0) →
    coalG fc prev ((row.map fun e => sliceX s (v, e)) ++ rest) = 0
  | [], nx, prev, hpk, _, _ => by
    rw [List.map_nil, List.nil_append]
    refine hrest prev fun p hp => ?_
    subst hp
    rcases hpk with h | h
    · omega
    · omega
  | e :: r, nx, prev, hpk, hok, hall => by
    obtain ⟨hfit, hfc⟩ := hall e (List.mem_cons_self ..)
    have hlen := sliceX_len hfit
    unfold okC at hok
    rw [Bool.and_eq_true, decide_eq_true_eq] at hok
    have ih := coal_row fc s v n rest hrest r (e.f0 + e.f1 + 1) (some (sliceX s (v, e))) (.inr ⟨rfl, by show e.f0 + ((sliceX s (v, e)).f2.length : Int) < e.f0 + e.f1 + 1; rw [hlen]; show e.f0 + e.f1 < e.f0 + e.f1 + 1; omega⟩) hok.2 (fun x hx => hall x (List.mem_cons_of_mem _ hx))
    rw [List.map_cons, List.cons_append]
    cases prev with
    | none => rw [coalG, if_pos hfc]; exact ih
    | some p =>
      rw [coalG, if_pos hfc, if_neg]
      · exact ih
      · unfold ordX
        show ¬ (decide (v < p.f0) || (decide (v = p.f0) && decide (e.f0 ≤ p.f1 + (p.f2.length : Int)))) = true
        rcases hpk with h | ⟨h1, h2⟩
        · rw [decide_eq_false (by omega), decide_eq_false (by omega)]; simp
        · rw [decide_eq_false (by omega), decide_eq_false (show ¬ e.f0 ≤ p.f1 + (p.f2.length : Int) by omega)]; simp
theorem coal_vol (fc : WS → Int) (s : Img) : ∀ (ls : List (List XE)) (k : Nat) (prev : Option WS), (∀ p, prev = some p → p.f0 < (k : Int)) → (∀ i, i < ls.length → ∃ n, okC n 0 (ls.getD i []) = true) → (∀ p ∈ volL k ls, fitP s p ∧ fc (sliceX s p) = 0) →
    coalG fc prev ((volL k ls).map (sliceX s)) = 0
  | [], _, prev, _, _, _ => by cases prev <;> rfl
  | l :: r, k, prev, hpk, hok, hall => by
    obtain ⟨n, hn⟩ := hok 0 (by simp)
    have e : (volL k (l :: r)).map (sliceX s) = (l.map fun e => sliceX s ((k : Int), e)) ++ (volL (k + 1) r).map (sliceX s) := by
      rw [volL, List.map_append, List.map_map]; rfl
    rw [e]
    refine coal_row fc s k n _ (fun prev' h' => ?_) l 0 prev ?_ hn (fun e he => hall _ (List.mem_append_left _ (List.mem_map.2 ⟨e, he, rfl⟩)))
    · exact coal_vol fc s r (k + 1) prev' (fun p hp => by have := h' p hp; omega) (fun i hi => by have := hok (i + 1) (by simpa using hi); rwa [List.getD_cons_succ] at this) (fun p hp => hall p (List.mem_append_right _ hp))
    · cases prev with
      | none => trivial
      | some p => exact .inl (hpk p rfl)
theorem coal_ok {s : Img} {l : List (List XE)} (hs : sizesErr (lens s) = 0) (hf : fitsX s l = 0) : coalX ((volL 0 l).map (sliceX s)) (lens s) = 0 := by
  have hz := lens_zero (lens s) (sizes_mem hs).2.2
  unfold coalX
  rw [if_pos hs]
  refine coal_vol _ s l 0 none (fun p h => by cases h) (fun i hi => ⟨_, fitsX_at hf i hi⟩) (fun p hp => ⟨fits_mem hf p hp, ?_⟩)
  unfold fitsF
  rw [if_pos (by rw [hz]; exact hs)]
  exact sliceX_fits hz (fits_mem hf p hp)
theorem ev_sameints_loop (l : List Int) (hl : l.length ≤ 1048576) : ∀ (n j : Nat), l.length - j = n → j ≤ l.length → Ev (fun k => standbyref23_SameInts.l0 k l l (j : Int)) true
  | 0, j, hn, hj => Ev.step (f := fun _ => some true) (fun k => by rw [standbyref23_SameInts.l0, if_neg (by omega)]) (Ev.now true)
  | n + 1, j, hn, hj => by
    have h1 : j < l.length := by omega
    have ih := ev_sameints_loop l hl n (j + 1) (by omega) (by omega)
    exact Ev.step (fun k => by rw [standbyref23_SameInts.l0, if_pos (by omega), if_pos (by omega), if_pos (by omega), if_pos rfl, up1 j l.length h1 hl]) ih
theorem ev_sameints (l : List Int) (hl : l.length ≤ 1048576) : Ev (fun k => standbyref23_SameInts.f k l l) true :=
  Ev.congr (fun k => by unfold standbyref23_SameInts.f; rw [if_pos rfl]; rfl) (ev_sameints_loop l hl l.length 0 (by omega) (by omega))
theorem ev_law_applies (s t : Img) (b : Int) (hb : 0 ≤ b ∧ b ≤ 255) : Ev (fun k => standbylaw45_ResyncApplies.f k s t b) true := by
  have yes : Ev (fun k => standbylaw45_ResyncApplies.j0 k s t b true) true := Ev.step (f := fun k => (standbylaw45_awake.f k).bind fun t => some t) (fun k => by rw [standbylaw45_ResyncApplies.j0, if_pos rfl]) (Ev.bind ev_awake (Ev.now true))
  refine Ev.bind (ev_few s) ?_
  cases h1 : fewI s with
  | false => exact yes
  | true =>
    simp only [if_true]
    refine Ev.bind (ev_few t) ?_
    cases h2 : fewI t with
    | false => exact yes
    | true =>
      obtain ⟨a1, b1⟩ := fewI_le h1
      obtain ⟨a2, b2⟩ := fewI_le h2
      have wb : wrap64 b = b := w64 (by omega) (by omega)
      have wb1 : wrap64 (b + 1) = b + 1 := w64 (by omega) (by omega)
      have hd := ev_differ s t (by omega) (by omega)
      unfold differX at hd
      by_cases hp : pairX s t = 0
      · rw [if_pos hp] at hd
        obtain ⟨hs0, hl0⟩ := pair_sizes hp
        obtain ⟨hlst, hvst⟩ := lens_vol hl0
        have hf := dif_fits hp
        have hned := dif_ned hp
        have hmis := dif_mis hp
        have hlen : (difL s t).length = s.length := difL_len s t
        have hrow : ∀ x ∈ difL s t, x.length ≤ 4096 := by
          intro x hx
          rw [← hned] at hx
          obtain ⟨i, y, rfl⟩ := mp_mem _ _ _ _ hx
          exact canon_len _ 4096
        have hok : okLs (difL s t) := ⟨by omega, fun x hx => by
          rw [← hned] at hx
          obtain ⟨i, y, rfl⟩ := mp_mem _ _ _ _ hx
          exact canon_okL _ 4096 (by omega)⟩
        have hwx : writesX s (difL s t) = ((volL 0 (difL s t)).map (sliceX s), 0) := by unfold writesX; rw [if_pos hs0, if_pos hf]
        have hcyc : cycErr b (b + 1) 5 [1, 2] ((volL 0 (difL s t)).map (sliceX s)) (lens s) = 0 := by
          unfold cycErr
          rw [if_pos hs0, if_neg (by omega), if_pos (by omega), if_pos (by decide), coal_ok hs0 hf]
        have e1 : resync_Cycle.f s (difL s t) b (b + 1) 5 [1, 2] = some (b, b + 1, 5, [1, 2], (volL 0 (difL s t)).map (sliceX s), 0) := by
          unfold resync_Cycle.f cycleX
          rw [if_pos ⟨by omega, hok, by decide⟩, hwx, if_pos rfl]
          dsimp only
          rw [hcyc, if_pos rfl]
        have hdl : ∀ w ∈ (volL 0 (difL s t)).map (sliceX s), w.f2.length ≤ 1048576 := by
          intro w hwm
          obtain ⟨p, hpm, rfl⟩ := List.mem_map.1 hwm
          have hfp := fits_mem hf p hpm
          have hlen := sliceX_len (im := s) (p := p) hfp
          have := sizes_le hs0 p.1.toNat (by omega)
          omega
        have hX1 : ((volL 0 (difL s t)).map (sliceX s)).length ≤ 1048576 := by rw [List.length_map]; have := volL_le 4096 _ 0 hrow; omega
        have e2 : image_Apply.f t ((volL 0 (difL s t)).map (sliceX s)) = some (imgA s t (difL s t), 0, 0) := by unfold image_Apply.f; rw [if_pos ⟨by omega, hX1, hdl⟩, (img_app hp hf).1]
        have himg := (img_eq hp hf).2 hmis
        have hdif : Ev (fun k => standbylaw45_differing.f k s t (difL s t)) (allX s t, misX s t (difL s t)) := ev_dif_loop s t (difL s t) (by omega) hlst.symm hlen (sizes_le hs0) (fun v hv => (hvst v hv).symm) (fun x hx => (hok.2 x hx).1) s.length 0 0 0 (by omega) (by omega) (by omega) (by omega) (by omega) (by omega) (by rw [Int.zero_add, List.drop_zero]; rfl) (by rw [Int.zero_add, List.drop_zero]; rfl)
        have hsame : Ev (fun k => standbyref07_Same.f k s s) true := by
          have := ev_rimg s s (by omega) (fun v hv => by have := sizes_le hs0 v hv; omega) rfl
          rwa [(eqIs_iff _ _).2 rfl] at this
        have hsec := ev_sectors ((volL 0 (difL s t)).map (sliceX s)) hX1 hdl
        have hsum := ned_sectors (l := difL s t) hp
        rw [hned] at hsum
        rw [hsum] at hsec
        have hsplit := all_split (l := difL s t) hp
        rw [hned, hmis, Int.add_zero] at hsplit
        rw [himg] at e2
        have last : Ev (fun k => standbylaw45_ResyncApplies.j1 k s t (difL s t) false b (b + 1) 5 [1, 2] ((volL 0 (difL s t)).map (sliceX s))) true := by
          refine Ev.step (f := fun k => (standbylaw45_differing.f k s t (difL s t)).bind fun bt256 => ((standbylaw45_awake.f k).bind fun t258 => (if t258 = true then ((standbyref07_Same.f k s s).bind fun t259 => (if t259 = true then ((standbyref22_Sectors.f k ((volL 0 (difL s t)).map (sliceX s))).bind fun t260 => (some (t260 == bt256.1))) else (some false))) else (some false)))) (fun k => ?_) ?_
          · rw [standbylaw45_ResyncApplies.j1, if_neg (by simp), e2]
            simp only [Option.bind_some, if_true]
          · refine Ev.bind hdif (Ev.bind ev_awake ?_)
            simp only [if_true]
            refine Ev.bind hsame ?_
            simp only [if_true]
            refine Ev.bind hsec ?_
            rw [hsplit, beq_self_eq_true]
            exact Ev.now true
        refine Ev.step (f := fun k => (image_Differ.f k s t).bind fun bt228 => _) (fun k => by rw [show (!true) = false from rfl, standbylaw45_ResyncApplies.j0, if_neg (by simp)]) (Ev.bind hd ?_)
        simp only [if_true, wb, wb1]
        rw [e1]
        simp only [Option.bind_some, if_true]
        refine Ev.bind (ev_sameints [1, 2] (by decide)) ?_
        exact last
      · rw [if_neg hp] at hd
        refine Ev.step (f := fun k => (image_Differ.f k s t).bind fun bt228 => _) (fun k => by rw [show (!true) = false from rfl, standbylaw45_ResyncApplies.j0, if_neg (by simp)]) (Ev.bind hd ?_)
        simp only [hp, if_false]
        exact Ev.bind ev_awake (Ev.now true)
end Go.Proofs.YtdplnbmioioniaaGreat.Pq
end
