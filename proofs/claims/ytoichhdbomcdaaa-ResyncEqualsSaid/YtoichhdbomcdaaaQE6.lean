import Derived.Test.YtoichhdbomcdaaaQE5
import Derived.Laws.CopyRow
import Derived.Laws.IdiomCopy
section
namespace Go.Proofs.Ytoichhdbomcdaaa.Pq
open Go.RowKit Go.Proofs.YtoichhdbomcdaaaW.PrintWords Go.Proofs.YtoichhdbomcdaaaW.PrintLast Go.Proofs.YtoichhdbomcdaaaW.PrintMore
attribute [local go_sem] max2_int min2_int max_two min_two max_three min_three max_four min_four
set_option linter.unusedVariables false
set_option linter.unusedSimpArgs false
attribute [local go_sem high] eqA52
mutual
def standbylaw45_differing.l0 : Nat → List (List (S52)) → List (List (S52)) → List (List (S54)) → Int → Int → Int → Option (Int × Int)
  | 0, _, _, _, _, _, _ => none
  | k + 1, x0, x1, x2, x8, x9, x10 => if x10 < (x0.length : Int) then (standbylaw45_differing.l1 k x0 x1 x2 x8 x9 x10 0) else (some (x8, x9))
def standbylaw45_differing.l1 : Nat → List (List (S52)) → List (List (S52)) → List (List (S54)) → Int → Int → Int → Int → Option (Int × Int)
  | 0, _, _, _, _, _, _, _ => none
  | k + 1, x0, x1, x2, x8, x9, x10, x11 => if 0 ≤ x10 then (if x10 < (x0.length : Int) then (if x11 < ((rd_L2 x0 x10).length : Int) then (if 0 ≤ x11 then (if x10 < (x1.length : Int) then (if x11 < ((rd_L2 x1 x10).length : Int) then (if (((rd_T52 (rd_L2 x0 x10) x11).f0) == ((rd_T52 (rd_L2 x1 x10) x11).f0) && (((rd_T52 (rd_L2 x0 x10) x11).f1) == ((rd_T52 (rd_L2 x1 x10) x11).f1) && (((rd_T52 (rd_L2 x0 x10) x11).f2) == ((rd_T52 (rd_L2 x1 x10) x11).f2) && (((rd_T52 (rd_L2 x0 x10) x11).f3) == ((rd_T52 (rd_L2 x1 x10) x11).f3) && (((rd_T52 (rd_L2 x0 x10) x11).f4) == ((rd_T52 (rd_L2 x1 x10) x11).f4) && (((rd_T52 (rd_L2 x0 x10) x11).f5) == ((rd_T52 (rd_L2 x1 x10) x11).f5) && (((rd_T52 (rd_L2 x0 x10) x11).f6) == ((rd_T52 (rd_L2 x1 x10) x11).f6) && (((rd_T52 (rd_L2 x0 x10) x11).f7) == ((rd_T52 (rd_L2 x1 x10) x11).f7))))))))) = true then (standbylaw45_differing.l1 k x0 x1 x2 x8 x9 x10 (wrap64 (x11 + 1))) else (if x10 < (x2.length : Int) then ((extent_Contains.f (rd_L7 x2 x10) x11).bind fun t338 => (if t338 = true then (standbylaw45_differing.l1 k x0 x1 x2 (wrap64 (x8 + 1)) x9 x10 (wrap64 (x11 + 1))) else (standbylaw45_differing.l1 k x0 x1 x2 (wrap64 (x8 + 1)) (wrap64 (x9 + 1)) x10 (wrap64 (x11 + 1))))) else (none))) else (none)) else (none)) else (none)) else (standbylaw45_differing.l0 k x0 x1 x2 x8 x9 (wrap64 (x10 + 1)))) else (none)) else (none)
end
def standbylaw45_differing.f (k : Nat) (l0 : List (List (S52))) (l1 : List (List (S52))) (l2 : List (List (S54))) : Option (Int × Int) := standbylaw45_differing.l0 k l0 l1 l2 0 0 0
set_option maxHeartbeats 8000000 in
set_option maxRecDepth 100000 in
theorem standbylaw45_differing.calls (k : Nat) (A0 : Option Addr) (c0 : Nat) (l0 : List (List (S52))) (A1 : Option Addr) (c1 : Nat) (l1 : List (List (S52))) (A2 : Option Addr) (c2 : Nat) (l2 : List (List (S54))) (r1 : Int) (r2 : Int) (w : World) (hr0 : Kd.C (Kd.slice 52 k52) w A0 l0.length l0) (hc0 : l0.length ≤ c0) (hr1 : Kd.C (Kd.slice 52 k52) w A1 l1.length l1) (hc1 : l1.length ≤ c1) (hr2 : Kd.C (Kd.slice 54 k54) w A2 l2.length l2) (hc2 : l2.length ≤ c2) (h : standbylaw45_differing.f k l0 l1 l2 = some (r1, r2)) :
    Calls Try.prog 17 #[.slice A0 l0.length c0, .slice A1 l1.length c1, .slice A2 l2.length c2] w fun e w' => e = .returned (.tuple #[.int .i64 r1, .int .i64 r2]) ∧ Below w.heap.size w w' := by
  have hu52 := Try.underlying52
  have HR0 := Aside0.mk hr0
  have HC0 := Aside0.mk hc0
  clear hr0 hc0
  have HR1 := Aside0.mk hr1
  have HC1 := Aside0.mk hc1
  clear hr1 hc1
  have HR2 := Aside0.mk hr2
  have HC2 := Aside0.mk hc2
  clear hr2 hc2
  have HB := Aside0.mk (Below.refl w.heap.size w)
  have H : (standbylaw45_differing.l0 k l0 l1 l2 0 0 0) = some (r1, r2) := h
  clear h
  have H' := Aside0.mk H
  clear H
  go_enter Try.func17, Try.ntmps17
  go_wp2
  repeat (go_quiet (fail); try go_wp2)
  go_loopg [8, 9, 10] k (fun kq v8 v9 v10 w' => ∃ (x8_1 : Int) (x9_1 : Int) (x10_1 : Int), v8 = .int .i64 x8_1 ∧ v9 = .int .i64 x9_1 ∧ v10 = .int .i64 x10_1 ∧ Aside0 (standbylaw45_differing.l0 kq l0 l1 l2 x8_1 x9_1 x10_1 = some (r1, r2)) ∧ Aside0 (kq ≤ k) ∧ Aside0 (Below w.heap.size w w'))
  case atStart => exact ⟨(0), (0), (0), (by first | rfl | (simp; done) | (simp [*]; done)), (by first | rfl | (simp; done) | (simp [*]; done)), (by first | rfl | (simp; done) | (simp [*]; done)), H', ⟨Nat.le_refl _⟩, ⟨by repeat (first | (with_reducible first | exact HB.out | apply below_alloc | apply pw_below_drewN | apply below_drew1) | exact HB.out)⟩⟩
  case round =>
    clear H'
    try clear c1
    try clear c2
    try clear p2
    obtain ⟨x8_1, x9_1, x10_1, rfl, rfl, rfl, HA, HK1, HB⟩ := hrel
    cases gk with
    | zero => exact absurd HA.out (by simp [standbylaw45_differing.l0])
    | succ k1 =>
      have H := HA.out
      clear HA
      simp only [standbylaw45_differing.l0] at H
      by_cases c4 : x10_1 < (l0.length : Int)
      · rw [if_pos c4] at H
        have c4b0 : decide (x10_1 < (l0.length : Int)) = true := decide_eq_true c4
        clear c4
        have H' := Aside0.mk H
        clear H
        go_wp2
        repeat (go_quiet (fail); try go_wp2)
        go_loopg [8, 9, 11] k1 (fun kq v8 v9 v11 w' => ∃ (x8_2 : Int) (x9_2 : Int) (x11_2 : Int), v8 = .int .i64 x8_2 ∧ v9 = .int .i64 x9_2 ∧ v11 = .int .i64 x11_2 ∧ Aside0 (standbylaw45_differing.l1 kq l0 l1 l2 x8_2 x9_2 x10_1 x11_2 = some (r1, r2)) ∧ Aside0 (kq ≤ k1) ∧ Aside0 (Below w.heap.size w w'))
        case atStart => exact ⟨(x8_1), (x9_1), (0), (by first | rfl | (simp; done) | (simp [*]; done)), (by first | rfl | (simp; done) | (simp [*]; done)), (by first | rfl | (simp; done) | (simp [*]; done)), H', ⟨Nat.le_refl _⟩, ⟨by repeat (first | (with_reducible first | exact HB.out | apply below_alloc | apply pw_below_drewN | apply below_drew1) | exact HB.out)⟩⟩
        case round =>
          clear H'
          try clear c1
          try clear c2
          try clear p2
          try clear c4
          try clear c4b0
          try clear p2
          obtain ⟨x8_2, x9_2, x11_2, rfl, rfl, rfl, HA, HK2, HB⟩ := hrel
          cases gk with
          | zero => exact absurd HA.out (by simp [standbylaw45_differing.l1])
          | succ k2 =>
            have H := HA.out
            clear HA
            simp only [standbylaw45_differing.l1] at H
            by_cases c5 : 0 ≤ x10_1
            · rw [if_pos c5] at H
              have c5b0 : decide (0 ≤ x10_1) = true := decide_eq_true c5
              clear c5
              by_cases c6 : x10_1 < (l0.length : Int)
              · rw [if_pos c6] at H
                have c6b0 : decide (x10_1 < (l0.length : Int)) = true := decide_eq_true c6
                clear c6
                by_cases c7 : x11_2 < ((rd_L2 l0 x10_1).length : Int)
                · rw [if_pos c7] at H
                  have c7b0 : decide (x11_2 < ((rd_L2 l0 x10_1).length : Int)) = true := decide_eq_true c7
                  clear c7
                  by_cases c8 : 0 ≤ x11_2
                  · rw [if_pos c8] at H
                    have c8b0 : decide (0 ≤ x11_2) = true := decide_eq_true c8
                    clear c8
                    by_cases c9 : x10_1 < (l1.length : Int)
                    · rw [if_pos c9] at H
                      have c9b0 : decide (x10_1 < (l1.length : Int)) = true := decide_eq_true c9
                      clear c9
                      by_cases c10 : x11_2 < ((rd_L2 l1 x10_1).length : Int)
                      · rw [if_pos c10] at H
                        have c10b0 : decide (x11_2 < ((rd_L2 l1 x10_1).length : Int)) = true := decide_eq_true c10
                        clear c10
                        by_cases c11 : (((rd_T52 (rd_L2 l0 x10_1) x11_2).f0) == ((rd_T52 (rd_L2 l1 x10_1) x11_2).f0) && (((rd_T52 (rd_L2 l0 x10_1) x11_2).f1) == ((rd_T52 (rd_L2 l1 x10_1) x11_2).f1) && (((rd_T52 (rd_L2 l0 x10_1) x11_2).f2) == ((rd_T52 (rd_L2 l1 x10_1) x11_2).f2) && (((rd_T52 (rd_L2 l0 x10_1) x11_2).f3) == ((rd_T52 (rd_L2 l1 x10_1) x11_2).f3) && (((rd_T52 (rd_L2 l0 x10_1) x11_2).f4) == ((rd_T52 (rd_L2 l1 x10_1) x11_2).f4) && (((rd_T52 (rd_L2 l0 x10_1) x11_2).f5) == ((rd_T52 (rd_L2 l1 x10_1) x11_2).f5) && (((rd_T52 (rd_L2 l0 x10_1) x11_2).f6) == ((rd_T52 (rd_L2 l1 x10_1) x11_2).f6) && (((rd_T52 (rd_L2 l0 x10_1) x11_2).f7) == ((rd_T52 (rd_L2 l1 x10_1) x11_2).f7))))))))) = true
                        · rw [if_pos c11] at H
                          have c11b0 : (((rd_T52 (rd_L2 l0 x10_1) x11_2).f0) == ((rd_T52 (rd_L2 l1 x10_1) x11_2).f0) && (((rd_T52 (rd_L2 l0 x10_1) x11_2).f1) == ((rd_T52 (rd_L2 l1 x10_1) x11_2).f1) && (((rd_T52 (rd_L2 l0 x10_1) x11_2).f2) == ((rd_T52 (rd_L2 l1 x10_1) x11_2).f2) && (((rd_T52 (rd_L2 l0 x10_1) x11_2).f3) == ((rd_T52 (rd_L2 l1 x10_1) x11_2).f3) && (((rd_T52 (rd_L2 l0 x10_1) x11_2).f4) == ((rd_T52 (rd_L2 l1 x10_1) x11_2).f4) && (((rd_T52 (rd_L2 l0 x10_1) x11_2).f5) == ((rd_T52 (rd_L2 l1 x10_1) x11_2).f5) && (((rd_T52 (rd_L2 l0 x10_1) x11_2).f6) == ((rd_T52 (rd_L2 l1 x10_1) x11_2).f6) && (((rd_T52 (rd_L2 l0 x10_1) x11_2).f7) == ((rd_T52 (rd_L2 l1 x10_1) x11_2).f7))))))))) = true := c11
                          (try (have c11b1 : decide (((rd_T52 (rd_L2 l0 x10_1) x11_2).f0) = ((rd_T52 (rd_L2 l1 x10_1) x11_2).f0) && (((rd_T52 (rd_L2 l0 x10_1) x11_2).f1) == ((rd_T52 (rd_L2 l1 x10_1) x11_2).f1) && (((rd_T52 (rd_L2 l0 x10_1) x11_2).f2) == ((rd_T52 (rd_L2 l1 x10_1) x11_2).f2) && (((rd_T52 (rd_L2 l0 x10_1) x11_2).f3) == ((rd_T52 (rd_L2 l1 x10_1) x11_2).f3) && (((rd_T52 (rd_L2 l0 x10_1) x11_2).f4) == ((rd_T52 (rd_L2 l1 x10_1) x11_2).f4) && (((rd_T52 (rd_L2 l0 x10_1) x11_2).f5) == ((rd_T52 (rd_L2 l1 x10_1) x11_2).f5) && (((rd_T52 (rd_L2 l0 x10_1) x11_2).f6) == ((rd_T52 (rd_L2 l1 x10_1) x11_2).f6) && (((rd_T52 (rd_L2 l0 x10_1) x11_2).f7) == ((rd_T52 (rd_L2 l1 x10_1) x11_2).f7))))))))) = true := by simpa using c11))
                          (try (have c11b2 : (((rd_T52 (rd_L2 l0 x10_1) x11_2).f0) == ((rd_T52 (rd_L2 l1 x10_1) x11_2).f0) && (((rd_T52 (rd_L2 l0 x10_1) x11_2).f1) == ((rd_T52 (rd_L2 l1 x10_1) x11_2).f1) && (((rd_T52 (rd_L2 l0 x10_1) x11_2).f2) == ((rd_T52 (rd_L2 l1 x10_1) x11_2).f2) && (((rd_T52 (rd_L2 l0 x10_1) x11_2).f3) == ((rd_T52 (rd_L2 l1 x10_1) x11_2).f3) && (((rd_T52 (rd_L2 l0 x10_1) x11_2).f4) == ((rd_T52 (rd_L2 l1 x10_1) x11_2).f4) && (((rd_T52 (rd_L2 l0 x10_1) x11_2).f5) == ((rd_T52 (rd_L2 l1 x10_1) x11_2).f5) && (((rd_T52 (rd_L2 l0 x10_1) x11_2).f6) == ((rd_T52 (rd_L2 l1 x10_1) x11_2).f6) && (((rd_T52 (rd_L2 l0 x10_1) x11_2).f7) == ((rd_T52 (rd_L2 l1 x10_1) x11_2).f7))))))))) = true := by simpa using c11))
                          clear c11
                          have H' := Aside0.mk H
                          clear H
                          have p332 : 0 ≤ (x10_1 : Int) := of_decide_eq_true (by first | (with_reducible assumption) | assumption)
                          have q332 : x10_1 < (l0.length : Int) := of_decide_eq_true (by first | (with_reducible assumption) | assumption)
                          obtain ⟨ad332, A332_0, c332_0, e332, hx332_0, hl332_0, hi332_0⟩ := at_L2 HR0.out x10_1 p332 q332
                          cases e332
                          replace hx332_0 := (HB.out.cell (World.block_lt_of_cell? w _ hx332_0)).trans hx332_0
                          have HR332_0 := Aside0.mk hi332_0
                          have HC332_0 := Aside0.mk hl332_0
                          clear hi332_0 hl332_0
                          replace p332 := eq_true p332
                          replace q332 := eq_true q332
                          have p333 : 0 ≤ (x10_1 : Int) := of_decide_eq_true (by first | (with_reducible assumption) | assumption)
                          have q333 : x10_1 < (l0.length : Int) := of_decide_eq_true (by first | (with_reducible assumption) | assumption)
                          obtain ⟨ad333, A333_0, c333_0, e333, hx333_0, hl333_0, hi333_0⟩ := at_L2 HR0.out x10_1 p333 q333
                          obtain rfl : ad332 = ad333 := (by injection e333)
                          replace hx333_0 := (HB.out.cell (World.block_lt_of_cell? w _ hx333_0)).trans hx333_0
                          have HR333_0 := Aside0.mk hi333_0
                          have HC333_0 := Aside0.mk hl333_0
                          clear hi333_0 hl333_0
                          replace p333 := eq_true p333
                          replace q333 := eq_true q333
                          have ea_ := Option.some.inj (hx332_0.symm.trans hx333_0)
                          injection ea_ with ea_ en_ ec_
                          subst ea_
                          subst ec_
                          clear en_
                          have p334 : 0 ≤ (x11_2 : Int) := of_decide_eq_true (by first | (with_reducible assumption) | assumption)
                          have q334 : x11_2 < ((rd_L2 l0 x10_1).length : Int) := of_decide_eq_true (by first | (with_reducible assumption) | assumption)
                          obtain ⟨ad334, e334, hx334_0, hx334_1, hx334_2, hx334_3, hx334_4, hx334_5, hx334_6, hx334_7⟩ := at_T52 HR333_0.out x11_2 p334 q334
                          cases e334
                          replace hx334_0 := (HB.out.cell (World.block_lt_of_cell? w _ hx334_0)).trans hx334_0
                          replace hx334_1 := (HB.out.cell (World.block_lt_of_cell? w _ hx334_1)).trans hx334_1
                          replace hx334_2 := (HB.out.cell (World.block_lt_of_cell? w _ hx334_2)).trans hx334_2
                          replace hx334_3 := (HB.out.cell (World.block_lt_of_cell? w _ hx334_3)).trans hx334_3
                          replace hx334_4 := (HB.out.cell (World.block_lt_of_cell? w _ hx334_4)).trans hx334_4
                          replace hx334_5 := (HB.out.cell (World.block_lt_of_cell? w _ hx334_5)).trans hx334_5
                          replace hx334_6 := (HB.out.cell (World.block_lt_of_cell? w _ hx334_6)).trans hx334_6
                          replace hx334_7 := (HB.out.cell (World.block_lt_of_cell? w _ hx334_7)).trans hx334_7
                          replace p334 := eq_true p334
                          replace q334 := eq_true q334
                          have p335 : 0 ≤ (x10_1 : Int) := of_decide_eq_true (by first | (with_reducible assumption) | assumption)
                          have q335 : x10_1 < (l1.length : Int) := of_decide_eq_true (by first | (with_reducible assumption) | assumption)
                          obtain ⟨ad335, A335_0, c335_0, e335, hx335_0, hl335_0, hi335_0⟩ := at_L2 HR1.out x10_1 p335 q335
                          cases e335
                          replace hx335_0 := (HB.out.cell (World.block_lt_of_cell? w _ hx335_0)).trans hx335_0
                          have HR335_0 := Aside0.mk hi335_0
                          have HC335_0 := Aside0.mk hl335_0
                          clear hi335_0 hl335_0
                          replace p335 := eq_true p335
                          replace q335 := eq_true q335
                          have p336 : 0 ≤ (x11_2 : Int) := of_decide_eq_true (by first | (with_reducible assumption) | assumption)
                          have q336 : x11_2 < ((rd_L2 l1 x10_1).length : Int) := of_decide_eq_true (by first | (with_reducible assumption) | assumption)
                          obtain ⟨ad336, e336, hx336_0, hx336_1, hx336_2, hx336_3, hx336_4, hx336_5, hx336_6, hx336_7⟩ := at_T52 HR335_0.out x11_2 p336 q336
                          cases e336
                          replace hx336_0 := (HB.out.cell (World.block_lt_of_cell? w _ hx336_0)).trans hx336_0
                          replace hx336_1 := (HB.out.cell (World.block_lt_of_cell? w _ hx336_1)).trans hx336_1
                          replace hx336_2 := (HB.out.cell (World.block_lt_of_cell? w _ hx336_2)).trans hx336_2
                          replace hx336_3 := (HB.out.cell (World.block_lt_of_cell? w _ hx336_3)).trans hx336_3
                          replace hx336_4 := (HB.out.cell (World.block_lt_of_cell? w _ hx336_4)).trans hx336_4
                          replace hx336_5 := (HB.out.cell (World.block_lt_of_cell? w _ hx336_5)).trans hx336_5
                          replace hx336_6 := (HB.out.cell (World.block_lt_of_cell? w _ hx336_6)).trans hx336_6
                          replace hx336_7 := (HB.out.cell (World.block_lt_of_cell? w _ hx336_7)).trans hx336_7
                          replace p336 := eq_true p336
                          replace q336 := eq_true q336
                          go_wp2
                          repeat (go_quiet (fail); try go_wp2)
                          go_roundg k2
                          case measure => have := HK1.out; have := HK2.out; omega
                          case rel => exact ⟨(x8_2), (x9_2), (wrap64 (x11_2 + 1)), (by first | rfl | (simp; done) | (simp [*]; done)), (by first | rfl | (simp; done) | (simp [*]; done)), (by first | rfl | (simp; done) | (simp [*]; done)), H', ⟨by have := HK1.out; have := HK2.out; omega⟩, ⟨by repeat (first | (with_reducible first | exact HB.out | apply below_alloc | apply pw_below_drewN | apply below_drew1) | exact HB.out)⟩⟩
                        · rw [if_neg c11] at H
                          have c11b0 : (((rd_T52 (rd_L2 l0 x10_1) x11_2).f0) == ((rd_T52 (rd_L2 l1 x10_1) x11_2).f0) && (((rd_T52 (rd_L2 l0 x10_1) x11_2).f1) == ((rd_T52 (rd_L2 l1 x10_1) x11_2).f1) && (((rd_T52 (rd_L2 l0 x10_1) x11_2).f2) == ((rd_T52 (rd_L2 l1 x10_1) x11_2).f2) && (((rd_T52 (rd_L2 l0 x10_1) x11_2).f3) == ((rd_T52 (rd_L2 l1 x10_1) x11_2).f3) && (((rd_T52 (rd_L2 l0 x10_1) x11_2).f4) == ((rd_T52 (rd_L2 l1 x10_1) x11_2).f4) && (((rd_T52 (rd_L2 l0 x10_1) x11_2).f5) == ((rd_T52 (rd_L2 l1 x10_1) x11_2).f5) && (((rd_T52 (rd_L2 l0 x10_1) x11_2).f6) == ((rd_T52 (rd_L2 l1 x10_1) x11_2).f6) && (((rd_T52 (rd_L2 l0 x10_1) x11_2).f7) == ((rd_T52 (rd_L2 l1 x10_1) x11_2).f7))))))))) = false := by simpa using c11
                          (try (have c11b1 : decide (((rd_T52 (rd_L2 l0 x10_1) x11_2).f0) = ((rd_T52 (rd_L2 l1 x10_1) x11_2).f0) && (((rd_T52 (rd_L2 l0 x10_1) x11_2).f1) == ((rd_T52 (rd_L2 l1 x10_1) x11_2).f1) && (((rd_T52 (rd_L2 l0 x10_1) x11_2).f2) == ((rd_T52 (rd_L2 l1 x10_1) x11_2).f2) && (((rd_T52 (rd_L2 l0 x10_1) x11_2).f3) == ((rd_T52 (rd_L2 l1 x10_1) x11_2).f3) && (((rd_T52 (rd_L2 l0 x10_1) x11_2).f4) == ((rd_T52 (rd_L2 l1 x10_1) x11_2).f4) && (((rd_T52 (rd_L2 l0 x10_1) x11_2).f5) == ((rd_T52 (rd_L2 l1 x10_1) x11_2).f5) && (((rd_T52 (rd_L2 l0 x10_1) x11_2).f6) == ((rd_T52 (rd_L2 l1 x10_1) x11_2).f6) && (((rd_T52 (rd_L2 l0 x10_1) x11_2).f7) == ((rd_T52 (rd_L2 l1 x10_1) x11_2).f7))))))))) = false := by simpa using c11))
                          (try (have c11b2 : (((rd_T52 (rd_L2 l0 x10_1) x11_2).f0) == ((rd_T52 (rd_L2 l1 x10_1) x11_2).f0) && (((rd_T52 (rd_L2 l0 x10_1) x11_2).f1) == ((rd_T52 (rd_L2 l1 x10_1) x11_2).f1) && (((rd_T52 (rd_L2 l0 x10_1) x11_2).f2) == ((rd_T52 (rd_L2 l1 x10_1) x11_2).f2) && (((rd_T52 (rd_L2 l0 x10_1) x11_2).f3) == ((rd_T52 (rd_L2 l1 x10_1) x11_2).f3) && (((rd_T52 (rd_L2 l0 x10_1) x11_2).f4) == ((rd_T52 (rd_L2 l1 x10_1) x11_2).f4) && (((rd_T52 (rd_L2 l0 x10_1) x11_2).f5) == ((rd_T52 (rd_L2 l1 x10_1) x11_2).f5) && (((rd_T52 (rd_L2 l0 x10_1) x11_2).f6) == ((rd_T52 (rd_L2 l1 x10_1) x11_2).f6) && (((rd_T52 (rd_L2 l0 x10_1) x11_2).f7) == ((rd_T52 (rd_L2 l1 x10_1) x11_2).f7))))))))) = false := by simpa using c11))
                          (try (have c11b3 : ¬ (((rd_T52 (rd_L2 l0 x10_1) x11_2).f0) = ((rd_T52 (rd_L2 l1 x10_1) x11_2).f0) && (((rd_T52 (rd_L2 l0 x10_1) x11_2).f1) == ((rd_T52 (rd_L2 l1 x10_1) x11_2).f1) && (((rd_T52 (rd_L2 l0 x10_1) x11_2).f2) == ((rd_T52 (rd_L2 l1 x10_1) x11_2).f2) && (((rd_T52 (rd_L2 l0 x10_1) x11_2).f3) == ((rd_T52 (rd_L2 l1 x10_1) x11_2).f3) && (((rd_T52 (rd_L2 l0 x10_1) x11_2).f4) == ((rd_T52 (rd_L2 l1 x10_1) x11_2).f4) && (((rd_T52 (rd_L2 l0 x10_1) x11_2).f5) == ((rd_T52 (rd_L2 l1 x10_1) x11_2).f5) && (((rd_T52 (rd_L2 l0 x10_1) x11_2).f6) == ((rd_T52 (rd_L2 l1 x10_1) x11_2).f6) && (((rd_T52 (rd_L2 l0 x10_1) x11_2).f7) == ((rd_T52 (rd_L2 l1 x10_1) x11_2).f7))))))))) := by simpa using c11))
                          clear c11
                          by_cases c12 : x10_1 < (l2.length : Int)
                          · rw [if_pos c12] at H
                            have c12b0 : decide (x10_1 < (l2.length : Int)) = true := decide_eq_true c12
                            clear c12
                            replace H := Option.bind_eq_some_iff.mp H
                            obtain ⟨t338, A130, H⟩ := H
                            replace H : (if t338 = true then (standbylaw45_differing.l1 k2 l0 l1 l2 (wrap64 (x8_2 + 1)) x9_2 x10_1 (wrap64 (x11_2 + 1))) else (standbylaw45_differing.l1 k2 l0 l1 l2 (wrap64 (x8_2 + 1)) (wrap64 (x9_2 + 1)) x10_1 (wrap64 (x11_2 + 1)))) = some (r1, r2) := H
                            have A13 := Aside0.mk A130
                            clear A130
                            by_cases c14 : t338 = true
                            · subst c14
                              have H1 : (standbylaw45_differing.l1 k2 l0 l1 l2 (wrap64 (x8_2 + 1)) x9_2 x10_1 (wrap64 (x11_2 + 1))) = some (r1, r2) := by rw [if_pos rfl] at H; exact H
                              clear H
                              have H := H1
                              clear H1
                              have H' := Aside0.mk H
                              clear H
                              have p332 : 0 ≤ (x10_1 : Int) := of_decide_eq_true (by first | (with_reducible assumption) | assumption)
                              have q332 : x10_1 < (l0.length : Int) := of_decide_eq_true (by first | (with_reducible assumption) | assumption)
                              obtain ⟨ad332, A332_0, c332_0, e332, hx332_0, hl332_0, hi332_0⟩ := at_L2 HR0.out x10_1 p332 q332
                              cases e332
                              replace hx332_0 := (HB.out.cell (World.block_lt_of_cell? w _ hx332_0)).trans hx332_0
                              have HR332_0 := Aside0.mk hi332_0
                              have HC332_0 := Aside0.mk hl332_0
                              clear hi332_0 hl332_0
                              replace p332 := eq_true p332
                              replace q332 := eq_true q332
                              have p333 : 0 ≤ (x10_1 : Int) := of_decide_eq_true (by first | (with_reducible assumption) | assumption)
                              have q333 : x10_1 < (l0.length : Int) := of_decide_eq_true (by first | (with_reducible assumption) | assumption)
                              obtain ⟨ad333, A333_0, c333_0, e333, hx333_0, hl333_0, hi333_0⟩ := at_L2 HR0.out x10_1 p333 q333
                              obtain rfl : ad332 = ad333 := (by injection e333)
                              replace hx333_0 := (HB.out.cell (World.block_lt_of_cell? w _ hx333_0)).trans hx333_0
                              have HR333_0 := Aside0.mk hi333_0
                              have HC333_0 := Aside0.mk hl333_0
                              clear hi333_0 hl333_0
                              replace p333 := eq_true p333
                              replace q333 := eq_true q333
                              have ea_ := Option.some.inj (hx332_0.symm.trans hx333_0)
                              injection ea_ with ea_ en_ ec_
                              subst ea_
                              subst ec_
                              clear en_
                              have p334 : 0 ≤ (x11_2 : Int) := of_decide_eq_true (by first | (with_reducible assumption) | assumption)
                              have q334 : x11_2 < ((rd_L2 l0 x10_1).length : Int) := of_decide_eq_true (by first | (with_reducible assumption) | assumption)
                              obtain ⟨ad334, e334, hx334_0, hx334_1, hx334_2, hx334_3, hx334_4, hx334_5, hx334_6, hx334_7⟩ := at_T52 HR333_0.out x11_2 p334 q334
                              cases e334
                              replace hx334_0 := (HB.out.cell (World.block_lt_of_cell? w _ hx334_0)).trans hx334_0
                              replace hx334_1 := (HB.out.cell (World.block_lt_of_cell? w _ hx334_1)).trans hx334_1
                              replace hx334_2 := (HB.out.cell (World.block_lt_of_cell? w _ hx334_2)).trans hx334_2
                              replace hx334_3 := (HB.out.cell (World.block_lt_of_cell? w _ hx334_3)).trans hx334_3
                              replace hx334_4 := (HB.out.cell (World.block_lt_of_cell? w _ hx334_4)).trans hx334_4
                              replace hx334_5 := (HB.out.cell (World.block_lt_of_cell? w _ hx334_5)).trans hx334_5
                              replace hx334_6 := (HB.out.cell (World.block_lt_of_cell? w _ hx334_6)).trans hx334_6
                              replace hx334_7 := (HB.out.cell (World.block_lt_of_cell? w _ hx334_7)).trans hx334_7
                              replace p334 := eq_true p334
                              replace q334 := eq_true q334
                              have p335 : 0 ≤ (x10_1 : Int) := of_decide_eq_true (by first | (with_reducible assumption) | assumption)
                              have q335 : x10_1 < (l1.length : Int) := of_decide_eq_true (by first | (with_reducible assumption) | assumption)
                              obtain ⟨ad335, A335_0, c335_0, e335, hx335_0, hl335_0, hi335_0⟩ := at_L2 HR1.out x10_1 p335 q335
                              cases e335
                              replace hx335_0 := (HB.out.cell (World.block_lt_of_cell? w _ hx335_0)).trans hx335_0
                              have HR335_0 := Aside0.mk hi335_0
                              have HC335_0 := Aside0.mk hl335_0
                              clear hi335_0 hl335_0
                              replace p335 := eq_true p335
                              replace q335 := eq_true q335
                              have p336 : 0 ≤ (x11_2 : Int) := of_decide_eq_true (by first | (with_reducible assumption) | assumption)
                              have q336 : x11_2 < ((rd_L2 l1 x10_1).length : Int) := of_decide_eq_true (by first | (with_reducible assumption) | assumption)
                              obtain ⟨ad336, e336, hx336_0, hx336_1, hx336_2, hx336_3, hx336_4, hx336_5, hx336_6, hx336_7⟩ := at_T52 HR335_0.out x11_2 p336 q336
                              cases e336
                              replace hx336_0 := (HB.out.cell (World.block_lt_of_cell? w _ hx336_0)).trans hx336_0
                              replace hx336_1 := (HB.out.cell (World.block_lt_of_cell? w _ hx336_1)).trans hx336_1
                              replace hx336_2 := (HB.out.cell (World.block_lt_of_cell? w _ hx336_2)).trans hx336_2
                              replace hx336_3 := (HB.out.cell (World.block_lt_of_cell? w _ hx336_3)).trans hx336_3
                              replace hx336_4 := (HB.out.cell (World.block_lt_of_cell? w _ hx336_4)).trans hx336_4
                              replace hx336_5 := (HB.out.cell (World.block_lt_of_cell? w _ hx336_5)).trans hx336_5
                              replace hx336_6 := (HB.out.cell (World.block_lt_of_cell? w _ hx336_6)).trans hx336_6
                              replace hx336_7 := (HB.out.cell (World.block_lt_of_cell? w _ hx336_7)).trans hx336_7
                              replace p336 := eq_true p336
                              replace q336 := eq_true q336
                              have p337 : 0 ≤ (x10_1 : Int) := of_decide_eq_true (by first | (with_reducible assumption) | assumption)
                              have q337 : x10_1 < (l2.length : Int) := of_decide_eq_true (by first | (with_reducible assumption) | assumption)
                              obtain ⟨ad337, A337_0, c337_0, e337, hx337_0, hl337_0, hi337_0⟩ := at_L7 HR2.out x10_1 p337 q337
                              cases e337
                              replace hx337_0 := (HB.out.cell (World.block_lt_of_cell? w _ hx337_0)).trans hx337_0
                              have HR337_0 := Aside0.mk hi337_0
                              have HC337_0 := Aside0.mk hl337_0
                              clear hi337_0 hl337_0
                              replace p337 := eq_true p337
                              replace q337 := eq_true q337
                              go_wp2_with (first | (go_at_call 41; (with_reducible refine (extent_Contains.calls _ _ (rd_L7 l2 x10_1) x11_2 true _ ?side1 ?side2 A13.out).mono ?_); (case side1 => repeat (first | exact (Kd.C_below HR337_0.out HB.out) | (with_reducible refine Kd.C_alloc ?_ _) | (with_reducible refine Kd.C_drewN ?_ _) | (with_reducible refine Kd.C_drew ?_))); (case side2 => exact HC337_0.out); rintro e w15 ⟨rfl, hb⟩; have n0_ := Aside0.mk (below_step (by repeat (first | (with_reducible first | exact HB.out | apply below_alloc | apply pw_below_drewN | apply below_drew1) | exact HB.out)) hb); clear HB; have HB := n0_; clear n0_; (try clear hb); (try clear hb2); (try clear hk); (try clear hi)))
                              repeat (go_quiet (first | (go_at_call 41; (with_reducible refine (extent_Contains.calls _ _ (rd_L7 l2 x10_1) x11_2 true _ ?side1 ?side2 A13.out).mono ?_); (case side1 => repeat (first | exact (Kd.C_below HR337_0.out HB.out) | (with_reducible refine Kd.C_alloc ?_ _) | (with_reducible refine Kd.C_drewN ?_ _) | (with_reducible refine Kd.C_drew ?_))); (case side2 => exact HC337_0.out); rintro e w15 ⟨rfl, hb⟩; have n0_ := Aside0.mk (below_step (by repeat (first | (with_reducible first | exact HB.out | apply below_alloc | apply pw_below_drewN | apply below_drew1) | exact HB.out)) hb); clear HB; have HB := n0_; clear n0_; (try clear hb); (try clear hb2); (try clear hk); (try clear hi))); try go_wp2_with (first | (go_at_call 41; (with_reducible refine (extent_Contains.calls _ _ (rd_L7 l2 x10_1) x11_2 true _ ?side1 ?side2 A13.out).mono ?_); (case side1 => repeat (first | exact (Kd.C_below HR337_0.out HB.out) | (with_reducible refine Kd.C_alloc ?_ _) | (with_reducible refine Kd.C_drewN ?_ _) | (with_reducible refine Kd.C_drew ?_))); (case side2 => exact HC337_0.out); rintro e w15 ⟨rfl, hb⟩; have n0_ := Aside0.mk (below_step (by repeat (first | (with_reducible first | exact HB.out | apply below_alloc | apply pw_below_drewN | apply below_drew1) | exact HB.out)) hb); clear HB; have HB := n0_; clear n0_; (try clear hb); (try clear hb2); (try clear hk); (try clear hi))))
                              go_roundg k2
                              case measure => have := HK1.out; have := HK2.out; omega
                              case rel => exact ⟨(wrap64 (x8_2 + 1)), (x9_2), (wrap64 (x11_2 + 1)), (by first | rfl | (simp; done) | (simp [*]; done)), (by first | rfl | (simp; done) | (simp [*]; done)), (by first | rfl | (simp; done) | (simp [*]; done)), H', ⟨by have := HK1.out; have := HK2.out; omega⟩, ⟨by repeat (first | (with_reducible first | exact HB.out | apply below_alloc | apply pw_below_drewN | apply below_drew1) | exact HB.out)⟩⟩
                            · replace c14 := Bool.eq_false_iff.mpr c14
                              subst c14
                              have H1 : (standbylaw45_differing.l1 k2 l0 l1 l2 (wrap64 (x8_2 + 1)) (wrap64 (x9_2 + 1)) x10_1 (wrap64 (x11_2 + 1))) = some (r1, r2) := by rw [if_neg (show ¬ (false = true) by decide)] at H; exact H
                              clear H
                              have H := H1
                              clear H1
                              have H' := Aside0.mk H
                              clear H
                              have p332 : 0 ≤ (x10_1 : Int) := of_decide_eq_true (by first | (with_reducible assumption) | assumption)
                              have q332 : x10_1 < (l0.length : Int) := of_decide_eq_true (by first | (with_reducible assumption) | assumption)
                              obtain ⟨ad332, A332_0, c332_0, e332, hx332_0, hl332_0, hi332_0⟩ := at_L2 HR0.out x10_1 p332 q332
                              cases e332
                              replace hx332_0 := (HB.out.cell (World.block_lt_of_cell? w _ hx332_0)).trans hx332_0
                              have HR332_0 := Aside0.mk hi332_0
                              have HC332_0 := Aside0.mk hl332_0
                              clear hi332_0 hl332_0
                              replace p332 := eq_true p332
                              replace q332 := eq_true q332
                              have p333 : 0 ≤ (x10_1 : Int) := of_decide_eq_true (by first | (with_reducible assumption) | assumption)
                              have q333 : x10_1 < (l0.length : Int) := of_decide_eq_true (by first | (with_reducible assumption) | assumption)
                              obtain ⟨ad333, A333_0, c333_0, e333, hx333_0, hl333_0, hi333_0⟩ := at_L2 HR0.out x10_1 p333 q333
                              obtain rfl : ad332 = ad333 := (by injection e333)
                              replace hx333_0 := (HB.out.cell (World.block_lt_of_cell? w _ hx333_0)).trans hx333_0
                              have HR333_0 := Aside0.mk hi333_0
                              have HC333_0 := Aside0.mk hl333_0
                              clear hi333_0 hl333_0
                              replace p333 := eq_true p333
                              replace q333 := eq_true q333
                              have ea_ := Option.some.inj (hx332_0.symm.trans hx333_0)
                              injection ea_ with ea_ en_ ec_
                              subst ea_
                              subst ec_
                              clear en_
                              have p334 : 0 ≤ (x11_2 : Int) := of_decide_eq_true (by first | (with_reducible assumption) | assumption)
                              have q334 : x11_2 < ((rd_L2 l0 x10_1).length : Int) := of_decide_eq_true (by first | (with_reducible assumption) | assumption)
                              obtain ⟨ad334, e334, hx334_0, hx334_1, hx334_2, hx334_3, hx334_4, hx334_5, hx334_6, hx334_7⟩ := at_T52 HR333_0.out x11_2 p334 q334
                              cases e334
                              replace hx334_0 := (HB.out.cell (World.block_lt_of_cell? w _ hx334_0)).trans hx334_0
                              replace hx334_1 := (HB.out.cell (World.block_lt_of_cell? w _ hx334_1)).trans hx334_1
                              replace hx334_2 := (HB.out.cell (World.block_lt_of_cell? w _ hx334_2)).trans hx334_2
                              replace hx334_3 := (HB.out.cell (World.block_lt_of_cell? w _ hx334_3)).trans hx334_3
                              replace hx334_4 := (HB.out.cell (World.block_lt_of_cell? w _ hx334_4)).trans hx334_4
                              replace hx334_5 := (HB.out.cell (World.block_lt_of_cell? w _ hx334_5)).trans hx334_5
                              replace hx334_6 := (HB.out.cell (World.block_lt_of_cell? w _ hx334_6)).trans hx334_6
                              replace hx334_7 := (HB.out.cell (World.block_lt_of_cell? w _ hx334_7)).trans hx334_7
                              replace p334 := eq_true p334
                              replace q334 := eq_true q334
                              have p335 : 0 ≤ (x10_1 : Int) := of_decide_eq_true (by first | (with_reducible assumption) | assumption)
                              have q335 : x10_1 < (l1.length : Int) := of_decide_eq_true (by first | (with_reducible assumption) | assumption)
                              obtain ⟨ad335, A335_0, c335_0, e335, hx335_0, hl335_0, hi335_0⟩ := at_L2 HR1.out x10_1 p335 q335
                              cases e335
                              replace hx335_0 := (HB.out.cell (World.block_lt_of_cell? w _ hx335_0)).trans hx335_0
                              have HR335_0 := Aside0.mk hi335_0
                              have HC335_0 := Aside0.mk hl335_0
                              clear hi335_0 hl335_0
                              replace p335 := eq_true p335
                              replace q335 := eq_true q335
                              have p336 : 0 ≤ (x11_2 : Int) := of_decide_eq_true (by first | (with_reducible assumption) | assumption)
                              have q336 : x11_2 < ((rd_L2 l1 x10_1).length : Int) := of_decide_eq_true (by first | (with_reducible assumption) | assumption)
                              obtain ⟨ad336, e336, hx336_0, hx336_1, hx336_2, hx336_3, hx336_4, hx336_5, hx336_6, hx336_7⟩ := at_T52 HR335_0.out x11_2 p336 q336
                              cases e336
                              replace hx336_0 := (HB.out.cell (World.block_lt_of_cell? w _ hx336_0)).trans hx336_0
                              replace hx336_1 := (HB.out.cell (World.block_lt_of_cell? w _ hx336_1)).trans hx336_1
                              replace hx336_2 := (HB.out.cell (World.block_lt_of_cell? w _ hx336_2)).trans hx336_2
                              replace hx336_3 := (HB.out.cell (World.block_lt_of_cell? w _ hx336_3)).trans hx336_3
                              replace hx336_4 := (HB.out.cell (World.block_lt_of_cell? w _ hx336_4)).trans hx336_4
                              replace hx336_5 := (HB.out.cell (World.block_lt_of_cell? w _ hx336_5)).trans hx336_5
                              replace hx336_6 := (HB.out.cell (World.block_lt_of_cell? w _ hx336_6)).trans hx336_6
                              replace hx336_7 := (HB.out.cell (World.block_lt_of_cell? w _ hx336_7)).trans hx336_7
                              replace p336 := eq_true p336
                              replace q336 := eq_true q336
                              have p337 : 0 ≤ (x10_1 : Int) := of_decide_eq_true (by first | (with_reducible assumption) | assumption)
                              have q337 : x10_1 < (l2.length : Int) := of_decide_eq_true (by first | (with_reducible assumption) | assumption)
                              obtain ⟨ad337, A337_0, c337_0, e337, hx337_0, hl337_0, hi337_0⟩ := at_L7 HR2.out x10_1 p337 q337
                              cases e337
                              replace hx337_0 := (HB.out.cell (World.block_lt_of_cell? w _ hx337_0)).trans hx337_0
                              have HR337_0 := Aside0.mk hi337_0
                              have HC337_0 := Aside0.mk hl337_0
                              clear hi337_0 hl337_0
                              replace p337 := eq_true p337
                              replace q337 := eq_true q337
                              go_wp2_with (first | (go_at_call 41; (with_reducible refine (extent_Contains.calls _ _ (rd_L7 l2 x10_1) x11_2 false _ ?side1 ?side2 A13.out).mono ?_); (case side1 => repeat (first | exact (Kd.C_below HR337_0.out HB.out) | (with_reducible refine Kd.C_alloc ?_ _) | (with_reducible refine Kd.C_drewN ?_ _) | (with_reducible refine Kd.C_drew ?_))); (case side2 => exact HC337_0.out); rintro e w16 ⟨rfl, hb⟩; have n0_ := Aside0.mk (below_step (by repeat (first | (with_reducible first | exact HB.out | apply below_alloc | apply pw_below_drewN | apply below_drew1) | exact HB.out)) hb); clear HB; have HB := n0_; clear n0_; (try clear hb); (try clear hb2); (try clear hk); (try clear hi)))
                              repeat (go_quiet (first | (go_at_call 41; (with_reducible refine (extent_Contains.calls _ _ (rd_L7 l2 x10_1) x11_2 false _ ?side1 ?side2 A13.out).mono ?_); (case side1 => repeat (first | exact (Kd.C_below HR337_0.out HB.out) | (with_reducible refine Kd.C_alloc ?_ _) | (with_reducible refine Kd.C_drewN ?_ _) | (with_reducible refine Kd.C_drew ?_))); (case side2 => exact HC337_0.out); rintro e w16 ⟨rfl, hb⟩; have n0_ := Aside0.mk (below_step (by repeat (first | (with_reducible first | exact HB.out | apply below_alloc | apply pw_below_drewN | apply below_drew1) | exact HB.out)) hb); clear HB; have HB := n0_; clear n0_; (try clear hb); (try clear hb2); (try clear hk); (try clear hi))); try go_wp2_with (first | (go_at_call 41; (with_reducible refine (extent_Contains.calls _ _ (rd_L7 l2 x10_1) x11_2 false _ ?side1 ?side2 A13.out).mono ?_); (case side1 => repeat (first | exact (Kd.C_below HR337_0.out HB.out) | (with_reducible refine Kd.C_alloc ?_ _) | (with_reducible refine Kd.C_drewN ?_ _) | (with_reducible refine Kd.C_drew ?_))); (case side2 => exact HC337_0.out); rintro e w16 ⟨rfl, hb⟩; have n0_ := Aside0.mk (below_step (by repeat (first | (with_reducible first | exact HB.out | apply below_alloc | apply pw_below_drewN | apply below_drew1) | exact HB.out)) hb); clear HB; have HB := n0_; clear n0_; (try clear hb); (try clear hb2); (try clear hk); (try clear hi))))
                              go_roundg k2
                              case measure => have := HK1.out; have := HK2.out; omega
                              case rel => exact ⟨(wrap64 (x8_2 + 1)), (wrap64 (x9_2 + 1)), (wrap64 (x11_2 + 1)), (by first | rfl | (simp; done) | (simp [*]; done)), (by first | rfl | (simp; done) | (simp [*]; done)), (by first | rfl | (simp; done) | (simp [*]; done)), H', ⟨by have := HK1.out; have := HK2.out; omega⟩, ⟨by repeat (first | (with_reducible first | exact HB.out | apply below_alloc | apply pw_below_drewN | apply below_drew1) | exact HB.out)⟩⟩
                          · rw [if_neg c12] at H
                            exact absurd H (by simp)
                      · rw [if_neg c10] at H
                        exact absurd H (by simp)
                    · rw [if_neg c9] at H
                      exact absurd H (by simp)
                  · rw [if_neg c8] at H
                    exact absurd H (by simp)
                · rw [if_neg c7] at H
                  have c7b0 : decide (x11_2 < ((rd_L2 l0 x10_1).length : Int)) = false := decide_eq_false c7
                  clear c7
                  have H' := Aside0.mk H
                  clear H
                  have p332 : 0 ≤ (x10_1 : Int) := of_decide_eq_true (by first | (with_reducible assumption) | assumption)
                  have q332 : x10_1 < (l0.length : Int) := of_decide_eq_true (by first | (with_reducible assumption) | assumption)
                  obtain ⟨ad332, A332_0, c332_0, e332, hx332_0, hl332_0, hi332_0⟩ := at_L2 HR0.out x10_1 p332 q332
                  cases e332
                  replace hx332_0 := (HB.out.cell (World.block_lt_of_cell? w _ hx332_0)).trans hx332_0
                  have HR332_0 := Aside0.mk hi332_0
                  have HC332_0 := Aside0.mk hl332_0
                  clear hi332_0 hl332_0
                  replace p332 := eq_true p332
                  replace q332 := eq_true q332
                  go_wp2
                  repeat (go_quiet (fail); try go_wp2)
                  go_roundg k2
                  case measure => have := HK1.out; have := HK2.out; omega
                  case rel => exact ⟨(x8_2), (x9_2), (wrap64 (x10_1 + 1)), (by first | rfl | (simp; done) | (simp [*]; done)), (by first | rfl | (simp; done) | (simp [*]; done)), (by first | rfl | (simp; done) | (simp [*]; done)), H', ⟨by have := HK1.out; have := HK2.out; omega⟩, ⟨by repeat (first | (with_reducible first | exact HB.out | apply below_alloc | apply pw_below_drewN | apply below_drew1) | exact HB.out)⟩⟩
              · rw [if_neg c6] at H
                exact absurd H (by simp)
            · rw [if_neg c5] at H
              exact absurd H (by simp)
      · rw [if_neg c4] at H
        have c4b0 : decide (x10_1 < (l0.length : Int)) = false := decide_eq_false c4
        clear c4
        simp only [Option.some.injEq, Prod.mk.injEq] at H
        obtain ⟨rfl, rfl⟩ := H
        go_wp2
        repeat (go_quiet (fail); try go_wp2)
        go_ret2
        exact ⟨by first | rfl | (simp [errW_none, errW_some] <;> rfl) | (simp [*, errW_none, errW_some] <;> rfl), by repeat (first | (with_reducible first | exact HB.out | apply below_alloc | apply pw_below_drewN | apply below_drew1) | exact HB.out)⟩
def standbyref07_SameVolume.l0 : Nat → List (S52) → List (S52) → Int → Option (Bool)
  | 0, _, _, _ => none
  | k + 1, x0, x1, x5 => if x5 < (x0.length : Int) then (if 0 ≤ x5 then (if x5 < (x1.length : Int) then (if (!(((rd_T52 x0 x5).f0) == ((rd_T52 x1 x5).f0)) || (!(((rd_T52 x0 x5).f1) == ((rd_T52 x1 x5).f1)) || (!(((rd_T52 x0 x5).f2) == ((rd_T52 x1 x5).f2)) || (!(((rd_T52 x0 x5).f3) == ((rd_T52 x1 x5).f3)) || (!(((rd_T52 x0 x5).f4) == ((rd_T52 x1 x5).f4)) || (!(((rd_T52 x0 x5).f5) == ((rd_T52 x1 x5).f5)) || (!(((rd_T52 x0 x5).f6) == ((rd_T52 x1 x5).f6)) || (!(((rd_T52 x0 x5).f7) == ((rd_T52 x1 x5).f7)))))))))) = true then (some false) else (standbyref07_SameVolume.l0 k x0 x1 (wrap64 (x5 + 1)))) else (none)) else (none)) else (some true)
def standbyref07_SameVolume.f (k : Nat) (l0 : List (S52)) (l1 : List (S52)) : Option (Bool) := if (l0.length : Int) = (l1.length : Int) then (standbyref07_SameVolume.l0 k l0 l1 0) else (some false)
set_option maxHeartbeats 8000000 in
set_option maxRecDepth 100000 in
theorem standbyref07_SameVolume.calls (k : Nat) (A0 : Option Addr) (c0 : Nat) (l0 : List (S52)) (A1 : Option Addr) (c1 : Nat) (l1 : List (S52)) (r : Bool) (w : World) (hr0 : Kd.C k52 w A0 l0.length l0) (hc0 : l0.length ≤ c0) (hr1 : Kd.C k52 w A1 l1.length l1) (hc1 : l1.length ≤ c1) (h : standbyref07_SameVolume.f k l0 l1 = some r) :
    Calls Try.prog 44 #[.slice A0 l0.length c0, .slice A1 l1.length c1] w fun e w' => e = .returned (.bool r) ∧ Drawn0 w w' := by
  have hu52 := Try.underlying52
  have HR0 := Aside0.mk hr0
  have HC0 := Aside0.mk hc0
  clear hr0 hc0
  have HR1 := Aside0.mk hr1
  have HC1 := Aside0.mk hc1
  clear hr1 hc1
  have H : (if (l0.length : Int) = (l1.length : Int) then (standbyref07_SameVolume.l0 k l0 l1 0) else (some false)) = some r := h
  clear h
  by_cases c3 : (l0.length : Int) = (l1.length : Int)
  · rw [if_pos c3] at H
    have c3b0 : ((l0.length : Int) == (l1.length : Int)) = true := beq_iff_eq.mpr c3
    have c3b1 : ((l0.length : Int) != (l1.length : Int)) = false := bne_eq_false_iff_eq.mpr c3
    have c3b2 : (l0.length == l1.length) = true := by first | simpa using c3 | (simp at c3 ⊢; omega)
    clear c3
    have H' := Aside0.mk H
    clear H
    go_enter Try.func44, Try.ntmps44
    go_wp2
    repeat (go_quiet (fail); try go_wp2)
    go_loopg [5] k (fun kq v5 w' => ∃ (x5_1 : Int), v5 = .int .i64 x5_1 ∧ Aside0 (standbyref07_SameVolume.l0 kq l0 l1 x5_1 = some r) ∧ Aside0 (kq ≤ k) ∧ Drawn0 w w')
    case atStart => exact ⟨(0), (by first | rfl | (simp; done) | (simp [*]; done)), H', ⟨Nat.le_refl _⟩, by repeat (first | exact Drawn0.refl _ | apply Drawn0.step)⟩
    case round =>
      clear H'
      try clear c1
      try clear p2
      try clear c3
      try clear c3b0
      try clear c3b1
      try clear c3b2
      obtain ⟨x5_1, rfl, HA, HK1, ⟨m1, rfl⟩⟩ := hrel
      cases gk with
      | zero => exact absurd HA.out (by simp [standbyref07_SameVolume.l0])
      | succ k1 =>
        have H := HA.out
        clear HA
        simp only [standbyref07_SameVolume.l0] at H
        by_cases c4 : x5_1 < (l0.length : Int)
        · rw [if_pos c4] at H
          have c4b0 : decide (x5_1 < (l0.length : Int)) = true := decide_eq_true c4
          clear c4
          by_cases c5 : 0 ≤ x5_1
          · rw [if_pos c5] at H
            have c5b0 : decide (0 ≤ x5_1) = true := decide_eq_true c5
            clear c5
            by_cases c6 : x5_1 < (l1.length : Int)
            · rw [if_pos c6] at H
              have c6b0 : decide (x5_1 < (l1.length : Int)) = true := decide_eq_true c6
              clear c6
              by_cases c7 : (!(((rd_T52 l0 x5_1).f0) == ((rd_T52 l1 x5_1).f0)) || (!(((rd_T52 l0 x5_1).f1) == ((rd_T52 l1 x5_1).f1)) || (!(((rd_T52 l0 x5_1).f2) == ((rd_T52 l1 x5_1).f2)) || (!(((rd_T52 l0 x5_1).f3) == ((rd_T52 l1 x5_1).f3)) || (!(((rd_T52 l0 x5_1).f4) == ((rd_T52 l1 x5_1).f4)) || (!(((rd_T52 l0 x5_1).f5) == ((rd_T52 l1 x5_1).f5)) || (!(((rd_T52 l0 x5_1).f6) == ((rd_T52 l1 x5_1).f6)) || (!(((rd_T52 l0 x5_1).f7) == ((rd_T52 l1 x5_1).f7)))))))))) = true
              · rw [if_pos c7] at H
                have c7b0 : (!(((rd_T52 l0 x5_1).f0) == ((rd_T52 l1 x5_1).f0)) || (!(((rd_T52 l0 x5_1).f1) == ((rd_T52 l1 x5_1).f1)) || (!(((rd_T52 l0 x5_1).f2) == ((rd_T52 l1 x5_1).f2)) || (!(((rd_T52 l0 x5_1).f3) == ((rd_T52 l1 x5_1).f3)) || (!(((rd_T52 l0 x5_1).f4) == ((rd_T52 l1 x5_1).f4)) || (!(((rd_T52 l0 x5_1).f5) == ((rd_T52 l1 x5_1).f5)) || (!(((rd_T52 l0 x5_1).f6) == ((rd_T52 l1 x5_1).f6)) || (!(((rd_T52 l0 x5_1).f7) == ((rd_T52 l1 x5_1).f7)))))))))) = true := c7
                clear c7
                obtain rfl := Option.some.inj H
                have p339 : 0 ≤ (x5_1 : Int) := of_decide_eq_true (by first | (with_reducible assumption) | assumption)
                have q339 : x5_1 < (l0.length : Int) := of_decide_eq_true (by first | (with_reducible assumption) | assumption)
                obtain ⟨ad339, e339, hx339_0, hx339_1, hx339_2, hx339_3, hx339_4, hx339_5, hx339_6, hx339_7⟩ := at_T52 HR0.out x5_1 p339 q339
                cases e339
                replace p339 := eq_true p339
                replace q339 := eq_true q339
                have p340 : 0 ≤ (x5_1 : Int) := of_decide_eq_true (by first | (with_reducible assumption) | assumption)
                have q340 : x5_1 < (l1.length : Int) := of_decide_eq_true (by first | (with_reducible assumption) | assumption)
                obtain ⟨ad340, e340, hx340_0, hx340_1, hx340_2, hx340_3, hx340_4, hx340_5, hx340_6, hx340_7⟩ := at_T52 HR1.out x5_1 p340 q340
                cases e340
                replace p340 := eq_true p340
                replace q340 := eq_true q340
                go_wp2
                repeat (go_quiet (fail); try go_wp2)
                go_ret
                exact ⟨by first | rfl | (simp; done) | (simp [*]; done), by repeat (first | exact Drawn0.refl _ | apply Drawn0.step)⟩
              · rw [if_neg c7] at H
                have c7b0 : (!(((rd_T52 l0 x5_1).f0) == ((rd_T52 l1 x5_1).f0)) || (!(((rd_T52 l0 x5_1).f1) == ((rd_T52 l1 x5_1).f1)) || (!(((rd_T52 l0 x5_1).f2) == ((rd_T52 l1 x5_1).f2)) || (!(((rd_T52 l0 x5_1).f3) == ((rd_T52 l1 x5_1).f3)) || (!(((rd_T52 l0 x5_1).f4) == ((rd_T52 l1 x5_1).f4)) || (!(((rd_T52 l0 x5_1).f5) == ((rd_T52 l1 x5_1).f5)) || (!(((rd_T52 l0 x5_1).f6) == ((rd_T52 l1 x5_1).f6)) || (!(((rd_T52 l0 x5_1).f7) == ((rd_T52 l1 x5_1).f7)))))))))) = false := by simpa using c7
                clear c7
                have H' := Aside0.mk H
                clear H
                have p339 : 0 ≤ (x5_1 : Int) := of_decide_eq_true (by first | (with_reducible assumption) | assumption)
                have q339 : x5_1 < (l0.length : Int) := of_decide_eq_true (by first | (with_reducible assumption) | assumption)
                obtain ⟨ad339, e339, hx339_0, hx339_1, hx339_2, hx339_3, hx339_4, hx339_5, hx339_6, hx339_7⟩ := at_T52 HR0.out x5_1 p339 q339
                cases e339
                replace p339 := eq_true p339
                replace q339 := eq_true q339
                have p340 : 0 ≤ (x5_1 : Int) := of_decide_eq_true (by first | (with_reducible assumption) | assumption)
                have q340 : x5_1 < (l1.length : Int) := of_decide_eq_true (by first | (with_reducible assumption) | assumption)
                obtain ⟨ad340, e340, hx340_0, hx340_1, hx340_2, hx340_3, hx340_4, hx340_5, hx340_6, hx340_7⟩ := at_T52 HR1.out x5_1 p340 q340
                cases e340
                replace p340 := eq_true p340
                replace q340 := eq_true q340
                go_wp2
                repeat (go_quiet (fail); try go_wp2)
                go_roundg k1
                case measure => have := HK1.out; omega
                case rel => exact ⟨(wrap64 (x5_1 + 1)), (by first | rfl | (simp; done) | (simp [*]; done)), H', ⟨by have := HK1.out; omega⟩, by repeat (first | exact Drawn0.refl _ | apply Drawn0.step)⟩
            · rw [if_neg c6] at H
              exact absurd H (by simp)
          · rw [if_neg c5] at H
            exact absurd H (by simp)
        · rw [if_neg c4] at H
          have c4b0 : decide (x5_1 < (l0.length : Int)) = false := decide_eq_false c4
          clear c4
          obtain rfl := Option.some.inj H
          go_wp2
          repeat (go_quiet (fail); try go_wp2)
          go_ret
          exact ⟨by first | rfl | (simp; done) | (simp [*]; done), by repeat (first | exact Drawn0.refl _ | apply Drawn0.step)⟩
  · rw [if_neg c3] at H
    have c3b0 : ((l0.length : Int) == (l1.length : Int)) = false := beq_eq_false_iff_ne.mpr c3
    have c3b1 : ((l0.length : Int) != (l1.length : Int)) = true := bne_iff_ne.mpr c3
    have c3b2 : (l0.length == l1.length) = false := by first | simpa using c3 | (simp at c3 ⊢; omega)
    obtain rfl := Option.some.inj H
    go_enter Try.func44, Try.ntmps44
    go_wp2
    repeat (go_quiet (fail); try go_wp2)
    go_ret
    exact ⟨by first | rfl | (simp; done) | (simp [*]; done), by repeat (first | exact Drawn0.refl _ | apply Drawn0.step)⟩
def standbyref07_Same.l0 : Nat → List (List (S52)) → List (List (S52)) → Int → Option (Bool)
  | 0, _, _, _ => none
  | k + 1, x0, x1, x5 => if x5 < (x0.length : Int) then (if 0 ≤ x5 then (if x5 < (x1.length : Int) then ((standbyref07_SameVolume.f k (rd_L2 x0 x5) (rd_L2 x1 x5)).bind fun t343 => (if t343 = true then (standbyref07_Same.l0 k x0 x1 (wrap64 (x5 + 1))) else (some false))) else (none)) else (none)) else (some true)
def standbyref07_Same.f (k : Nat) (l0 : List (List (S52))) (l1 : List (List (S52))) : Option (Bool) := if (l0.length : Int) = (l1.length : Int) then (standbyref07_Same.l0 k l0 l1 0) else (some false)
set_option maxHeartbeats 8000000 in
set_option maxRecDepth 100000 in
theorem standbyref07_Same.calls (k : Nat) (A0 : Option Addr) (c0 : Nat) (l0 : List (List (S52))) (A1 : Option Addr) (c1 : Nat) (l1 : List (List (S52))) (r : Bool) (w : World) (hr0 : Kd.C (Kd.slice 52 k52) w A0 l0.length l0) (hc0 : l0.length ≤ c0) (hr1 : Kd.C (Kd.slice 52 k52) w A1 l1.length l1) (hc1 : l1.length ≤ c1) (h : standbyref07_Same.f k l0 l1 = some r) :
    Calls Try.prog 19 #[.slice A0 l0.length c0, .slice A1 l1.length c1] w fun e w' => e = .returned (.bool r) ∧ Drawn0 w w' := by
  have HR0 := Aside0.mk hr0
  have HC0 := Aside0.mk hc0
  clear hr0 hc0
  have HR1 := Aside0.mk hr1
  have HC1 := Aside0.mk hc1
  clear hr1 hc1
  have H : (if (l0.length : Int) = (l1.length : Int) then (standbyref07_Same.l0 k l0 l1 0) else (some false)) = some r := h
  clear h
  by_cases c3 : (l0.length : Int) = (l1.length : Int)
  · rw [if_pos c3] at H
    have c3b0 : ((l0.length : Int) == (l1.length : Int)) = true := beq_iff_eq.mpr c3
    have c3b1 : ((l0.length : Int) != (l1.length : Int)) = false := bne_eq_false_iff_eq.mpr c3
    have c3b2 : (l0.length == l1.length) = true := by first | simpa using c3 | (simp at c3 ⊢; omega)
    clear c3
    have H' := Aside0.mk H
    clear H
    go_enter Try.func19, Try.ntmps19
    go_wp2
    repeat (go_quiet (fail); try go_wp2)
    go_loopg [5] k (fun kq v5 w' => ∃ (x5_1 : Int), v5 = .int .i64 x5_1 ∧ Aside0 (standbyref07_Same.l0 kq l0 l1 x5_1 = some r) ∧ Aside0 (kq ≤ k) ∧ Drawn0 w w')
    case atStart => exact ⟨(0), (by first | rfl | (simp; done) | (simp [*]; done)), H', ⟨Nat.le_refl _⟩, by repeat (first | exact Drawn0.refl _ | apply Drawn0.step)⟩
    case round =>
      clear H'
      try clear c1
      try clear p2
      try clear c3
      try clear c3b0
      try clear c3b1
      try clear c3b2
      obtain ⟨x5_1, rfl, HA, HK1, ⟨m1, rfl⟩⟩ := hrel
      cases gk with
      | zero => exact absurd HA.out (by simp [standbyref07_Same.l0])
      | succ k1 =>
        have H := HA.out
        clear HA
        simp only [standbyref07_Same.l0] at H
        by_cases c4 : x5_1 < (l0.length : Int)
        · rw [if_pos c4] at H
          have c4b0 : decide (x5_1 < (l0.length : Int)) = true := decide_eq_true c4
          clear c4
          by_cases c5 : 0 ≤ x5_1
          · rw [if_pos c5] at H
            have c5b0 : decide (0 ≤ x5_1) = true := decide_eq_true c5
            clear c5
            by_cases c6 : x5_1 < (l1.length : Int)
            · rw [if_pos c6] at H
              have c6b0 : decide (x5_1 < (l1.length : Int)) = true := decide_eq_true c6
              clear c6
              replace H := Option.bind_eq_some_iff.mp H
              obtain ⟨t343, A70, H⟩ := H
              replace H : (if t343 = true then (standbyref07_Same.l0 k1 l0 l1 (wrap64 (x5_1 + 1))) else (some false)) = some r := H
              have A7 := Aside0.mk A70
              clear A70
              by_cases c8 : t343 = true
              · subst c8
                have H1 : (standbyref07_Same.l0 k1 l0 l1 (wrap64 (x5_1 + 1))) = some r := by rw [if_pos rfl] at H; exact H
                clear H
                have H := H1
                clear H1
                have H' := Aside0.mk H
                clear H
                have p341 : 0 ≤ (x5_1 : Int) := of_decide_eq_true (by first | (with_reducible assumption) | assumption)
                have q341 : x5_1 < (l0.length : Int) := of_decide_eq_true (by first | (with_reducible assumption) | assumption)
                obtain ⟨ad341, A341_0, c341_0, e341, hx341_0, hl341_0, hi341_0⟩ := at_L2 HR0.out x5_1 p341 q341
                cases e341
                have HR341_0 := Aside0.mk hi341_0
                have HC341_0 := Aside0.mk hl341_0
                clear hi341_0 hl341_0
                replace p341 := eq_true p341
                replace q341 := eq_true q341
                have p342 : 0 ≤ (x5_1 : Int) := of_decide_eq_true (by first | (with_reducible assumption) | assumption)
                have q342 : x5_1 < (l1.length : Int) := of_decide_eq_true (by first | (with_reducible assumption) | assumption)
                obtain ⟨ad342, A342_0, c342_0, e342, hx342_0, hl342_0, hi342_0⟩ := at_L2 HR1.out x5_1 p342 q342
                cases e342
                have HR342_0 := Aside0.mk hi342_0
                have HC342_0 := Aside0.mk hl342_0
                clear hi342_0 hl342_0
                replace p342 := eq_true p342
                replace q342 := eq_true q342
                go_wp2_with (first | (go_at_call 44; (with_reducible refine (standbyref07_SameVolume.calls k1 _ _ (rd_L2 l0 x5_1) _ _ (rd_L2 l1 x5_1) true _ ?side1 ?side2 ?side3 ?side4 A7.out).mono ?_); (case side1 => repeat (first | exact HR341_0.out | (with_reducible refine Kd.C_alloc ?_ _) | (with_reducible refine Kd.C_drewN ?_ _) | (with_reducible refine Kd.C_drew ?_))); (case side2 => exact HC341_0.out); (case side3 => repeat (first | exact HR342_0.out | (with_reducible refine Kd.C_alloc ?_ _) | (with_reducible refine Kd.C_drewN ?_ _) | (with_reducible refine Kd.C_drew ?_))); (case side4 => exact HC342_0.out); rintro e w' ⟨rfl, ⟨nd, rfl⟩⟩; (try first | exact ⟨rfl, _, World.drewN_drewN _ _ _⟩ | exact ⟨rfl, _, Eq.trans (World.drewN_drewN _ _ _) (congrArg (World.drewN _) (Nat.add_assoc _ _ _))⟩)))
                repeat (go_quiet (first | (go_at_call 44; (with_reducible refine (standbyref07_SameVolume.calls k1 _ _ (rd_L2 l0 x5_1) _ _ (rd_L2 l1 x5_1) true _ ?side1 ?side2 ?side3 ?side4 A7.out).mono ?_); (case side1 => repeat (first | exact HR341_0.out | (with_reducible refine Kd.C_alloc ?_ _) | (with_reducible refine Kd.C_drewN ?_ _) | (with_reducible refine Kd.C_drew ?_))); (case side2 => exact HC341_0.out); (case side3 => repeat (first | exact HR342_0.out | (with_reducible refine Kd.C_alloc ?_ _) | (with_reducible refine Kd.C_drewN ?_ _) | (with_reducible refine Kd.C_drew ?_))); (case side4 => exact HC342_0.out); rintro e w' ⟨rfl, ⟨nd, rfl⟩⟩; (try first | exact ⟨rfl, _, World.drewN_drewN _ _ _⟩ | exact ⟨rfl, _, Eq.trans (World.drewN_drewN _ _ _) (congrArg (World.drewN _) (Nat.add_assoc _ _ _))⟩))); try go_wp2_with (first | (go_at_call 44; (with_reducible refine (standbyref07_SameVolume.calls k1 _ _ (rd_L2 l0 x5_1) _ _ (rd_L2 l1 x5_1) true _ ?side1 ?side2 ?side3 ?side4 A7.out).mono ?_); (case side1 => repeat (first | exact HR341_0.out | (with_reducible refine Kd.C_alloc ?_ _) | (with_reducible refine Kd.C_drewN ?_ _) | (with_reducible refine Kd.C_drew ?_))); (case side2 => exact HC341_0.out); (case side3 => repeat (first | exact HR342_0.out | (with_reducible refine Kd.C_alloc ?_ _) | (with_reducible refine Kd.C_drewN ?_ _) | (with_reducible refine Kd.C_drew ?_))); (case side4 => exact HC342_0.out); rintro e w' ⟨rfl, ⟨nd, rfl⟩⟩; (try first | exact ⟨rfl, _, World.drewN_drewN _ _ _⟩ | exact ⟨rfl, _, Eq.trans (World.drewN_drewN _ _ _) (congrArg (World.drewN _) (Nat.add_assoc _ _ _))⟩))))
                go_roundg k1
                case measure => have := HK1.out; omega
                case rel => exact ⟨(wrap64 (x5_1 + 1)), (by first | rfl | (simp; done) | (simp [*]; done)), H', ⟨by have := HK1.out; omega⟩, by repeat (first | exact Drawn0.refl _ | apply Drawn0.step)⟩
              · replace c8 := Bool.eq_false_iff.mpr c8
                subst c8
                have H1 : (some false) = some r := by rw [if_neg (show ¬ (false = true) by decide)] at H; exact H
                clear H
                have H := H1
                clear H1
                obtain rfl := Option.some.inj H
                have p341 : 0 ≤ (x5_1 : Int) := of_decide_eq_true (by first | (with_reducible assumption) | assumption)
                have q341 : x5_1 < (l0.length : Int) := of_decide_eq_true (by first | (with_reducible assumption) | assumption)
                obtain ⟨ad341, A341_0, c341_0, e341, hx341_0, hl341_0, hi341_0⟩ := at_L2 HR0.out x5_1 p341 q341
                cases e341
                have HR341_0 := Aside0.mk hi341_0
                have HC341_0 := Aside0.mk hl341_0
                clear hi341_0 hl341_0
                replace p341 := eq_true p341
                replace q341 := eq_true q341
                have p342 : 0 ≤ (x5_1 : Int) := of_decide_eq_true (by first | (with_reducible assumption) | assumption)
                have q342 : x5_1 < (l1.length : Int) := of_decide_eq_true (by first | (with_reducible assumption) | assumption)
                obtain ⟨ad342, A342_0, c342_0, e342, hx342_0, hl342_0, hi342_0⟩ := at_L2 HR1.out x5_1 p342 q342
                cases e342
                have HR342_0 := Aside0.mk hi342_0
                have HC342_0 := Aside0.mk hl342_0
                clear hi342_0 hl342_0
                replace p342 := eq_true p342
                replace q342 := eq_true q342
                go_wp2_with (first | (go_at_call 44; (with_reducible refine (standbyref07_SameVolume.calls k1 _ _ (rd_L2 l0 x5_1) _ _ (rd_L2 l1 x5_1) false _ ?side1 ?side2 ?side3 ?side4 A7.out).mono ?_); (case side1 => repeat (first | exact HR341_0.out | (with_reducible refine Kd.C_alloc ?_ _) | (with_reducible refine Kd.C_drewN ?_ _) | (with_reducible refine Kd.C_drew ?_))); (case side2 => exact HC341_0.out); (case side3 => repeat (first | exact HR342_0.out | (with_reducible refine Kd.C_alloc ?_ _) | (with_reducible refine Kd.C_drewN ?_ _) | (with_reducible refine Kd.C_drew ?_))); (case side4 => exact HC342_0.out); rintro e w' ⟨rfl, ⟨nd, rfl⟩⟩; (try first | exact ⟨rfl, _, World.drewN_drewN _ _ _⟩ | exact ⟨rfl, _, Eq.trans (World.drewN_drewN _ _ _) (congrArg (World.drewN _) (Nat.add_assoc _ _ _))⟩)))
                repeat (go_quiet (first | (go_at_call 44; (with_reducible refine (standbyref07_SameVolume.calls k1 _ _ (rd_L2 l0 x5_1) _ _ (rd_L2 l1 x5_1) false _ ?side1 ?side2 ?side3 ?side4 A7.out).mono ?_); (case side1 => repeat (first | exact HR341_0.out | (with_reducible refine Kd.C_alloc ?_ _) | (with_reducible refine Kd.C_drewN ?_ _) | (with_reducible refine Kd.C_drew ?_))); (case side2 => exact HC341_0.out); (case side3 => repeat (first | exact HR342_0.out | (with_reducible refine Kd.C_alloc ?_ _) | (with_reducible refine Kd.C_drewN ?_ _) | (with_reducible refine Kd.C_drew ?_))); (case side4 => exact HC342_0.out); rintro e w' ⟨rfl, ⟨nd, rfl⟩⟩; (try first | exact ⟨rfl, _, World.drewN_drewN _ _ _⟩ | exact ⟨rfl, _, Eq.trans (World.drewN_drewN _ _ _) (congrArg (World.drewN _) (Nat.add_assoc _ _ _))⟩))); try go_wp2_with (first | (go_at_call 44; (with_reducible refine (standbyref07_SameVolume.calls k1 _ _ (rd_L2 l0 x5_1) _ _ (rd_L2 l1 x5_1) false _ ?side1 ?side2 ?side3 ?side4 A7.out).mono ?_); (case side1 => repeat (first | exact HR341_0.out | (with_reducible refine Kd.C_alloc ?_ _) | (with_reducible refine Kd.C_drewN ?_ _) | (with_reducible refine Kd.C_drew ?_))); (case side2 => exact HC341_0.out); (case side3 => repeat (first | exact HR342_0.out | (with_reducible refine Kd.C_alloc ?_ _) | (with_reducible refine Kd.C_drewN ?_ _) | (with_reducible refine Kd.C_drew ?_))); (case side4 => exact HC342_0.out); rintro e w' ⟨rfl, ⟨nd, rfl⟩⟩; (try first | exact ⟨rfl, _, World.drewN_drewN _ _ _⟩ | exact ⟨rfl, _, Eq.trans (World.drewN_drewN _ _ _) (congrArg (World.drewN _) (Nat.add_assoc _ _ _))⟩))))
                go_ret
                exact ⟨by first | rfl | (simp; done) | (simp [*]; done), by repeat (first | exact Drawn0.refl _ | apply Drawn0.step)⟩
            · rw [if_neg c6] at H
              exact absurd H (by simp)
          · rw [if_neg c5] at H
            exact absurd H (by simp)
        · rw [if_neg c4] at H
          have c4b0 : decide (x5_1 < (l0.length : Int)) = false := decide_eq_false c4
          clear c4
          obtain rfl := Option.some.inj H
          go_wp2
          repeat (go_quiet (fail); try go_wp2)
          go_ret
          exact ⟨by first | rfl | (simp; done) | (simp [*]; done), by repeat (first | exact Drawn0.refl _ | apply Drawn0.step)⟩
  · rw [if_neg c3] at H
    have c3b0 : ((l0.length : Int) == (l1.length : Int)) = false := beq_eq_false_iff_ne.mpr c3
    have c3b1 : ((l0.length : Int) != (l1.length : Int)) = true := bne_iff_ne.mpr c3
    have c3b2 : (l0.length == l1.length) = false := by first | simpa using c3 | (simp at c3 ⊢; omega)
    obtain rfl := Option.some.inj H
    go_enter Try.func19, Try.ntmps19
    go_wp2
    repeat (go_quiet (fail); try go_wp2)
    go_ret
    exact ⟨by first | rfl | (simp; done) | (simp [*]; done), by repeat (first | exact Drawn0.refl _ | apply Drawn0.step)⟩
def standbyref22_Sectors.l0 : Nat → List (S57) → Int → Int → Option (Int)
  | 0, _, _, _ => none
  | k + 1, x0, x3, x4 => if x4 < (x0.length : Int) then (if 0 ≤ x4 then (standbyref22_Sectors.l0 k x0 (wrap64 (x3 + (((rd_T57 x0 x4).f2).length : Int))) (wrap64 (x4 + 1))) else (none)) else (some x3)
def standbyref22_Sectors.f (k : Nat) (l0 : List (S57)) : Option (Int) := standbyref22_Sectors.l0 k l0 0 0
set_option maxHeartbeats 8000000 in
set_option maxRecDepth 100000 in
theorem standbyref22_Sectors.calls (k : Nat) (A0 : Option Addr) (c0 : Nat) (l0 : List (S57)) (r : Int) (w : World) (hr0 : Kd.C k57 w A0 l0.length l0) (hc0 : l0.length ≤ c0) (h : standbyref22_Sectors.f k l0 = some r) :
    Calls Try.prog 20 #[.slice A0 l0.length c0] w fun e w' => e = .returned (.int .i64 r) ∧ Drawn0 w w' := by
  have HR0 := Aside0.mk hr0
  have HC0 := Aside0.mk hc0
  clear hr0 hc0
  have H : (standbyref22_Sectors.l0 k l0 0 0) = some r := h
  clear h
  have H' := Aside0.mk H
  clear H
  go_enter Try.func20, Try.ntmps20
  go_wp2
  go_loopg [3, 4] k (fun kq v3 v4 w' => ∃ (x3_1 : Int) (x4_1 : Int), v3 = .int .i64 x3_1 ∧ v4 = .int .i64 x4_1 ∧ Aside0 (standbyref22_Sectors.l0 kq l0 x3_1 x4_1 = some r) ∧ Aside0 (kq ≤ k) ∧ Drawn0 w w')
  case atStart => exact ⟨(0), (0), (by first | rfl | (simp; done) | (simp [*]; done)), (by first | rfl | (simp; done) | (simp [*]; done)), H', ⟨Nat.le_refl _⟩, by repeat (first | exact Drawn0.refl _ | apply Drawn0.step)⟩
  case round =>
    clear H'
    obtain ⟨x3_1, x4_1, rfl, rfl, HA, HK1, ⟨m1, rfl⟩⟩ := hrel
    cases gk with
    | zero => exact absurd HA.out (by simp [standbyref22_Sectors.l0])
    | succ k1 =>
      have H := HA.out
      clear HA
      simp only [standbyref22_Sectors.l0] at H
      by_cases c2 : x4_1 < (l0.length : Int)
      · rw [if_pos c2] at H
        have c2b0 : decide (x4_1 < (l0.length : Int)) = true := decide_eq_true c2
        clear c2
        by_cases c3 : 0 ≤ x4_1
        · rw [if_pos c3] at H
          have c3b0 : decide (0 ≤ x4_1) = true := decide_eq_true c3
          clear c3
          have H' := Aside0.mk H
          clear H
          have p344 : 0 ≤ (x4_1 : Int) := of_decide_eq_true (by first | (with_reducible assumption) | assumption)
          have q344 : x4_1 < (l0.length : Int) := of_decide_eq_true (by first | (with_reducible assumption) | assumption)
          obtain ⟨ad344, A344_2, c344_2, e344, hx344_0, hx344_1, hx344_2, hl344_2, hi344_2⟩ := at_T57 HR0.out x4_1 p344 q344
          cases e344
          have HR344_2 := Aside0.mk hi344_2
          have HC344_2 := Aside0.mk hl344_2
          clear hi344_2 hl344_2
          replace p344 := eq_true p344
          replace q344 := eq_true q344
          go_wp2
          go_roundg k1
          case measure => have := HK1.out; omega
          case rel => exact ⟨(wrap64 (x3_1 + (((rd_T57 l0 x4_1).f2).length : Int))), (wrap64 (x4_1 + 1)), (by first | rfl | (simp; done) | (simp [*]; done)), (by first | rfl | (simp; done) | (simp [*]; done)), H', ⟨by have := HK1.out; omega⟩, by repeat (first | exact Drawn0.refl _ | apply Drawn0.step)⟩
        · rw [if_neg c3] at H
          exact absurd H (by simp)
      · rw [if_neg c2] at H
        have c2b0 : decide (x4_1 < (l0.length : Int)) = false := decide_eq_false c2
        clear c2
        obtain rfl := Option.some.inj H
        go_wp2
        go_ret
        exact ⟨by first | rfl | (simp; done) | (simp [*]; done), by repeat (first | exact Drawn0.refl _ | apply Drawn0.step)⟩
end Go.Proofs.Ytoichhdbomcdaaa.Pq
end
section
namespace Go.Proofs.Ytoichhdbomcdaaa.Pq
open Go.RowKit Go.Shelf Go.Proofs.YtoichhdbomcdaaaW.PrintWords Go.Proofs.YtoichhdbomcdaaaW.PrintLast Go.Proofs.YtoichhdbomcdaaaW.PrintMore
set_option linter.unusedVariables false
set_option linter.unusedSimpArgs false
theorem run_copy_size {P : Program} (w : World) (dT sT ty elem : TypeId) (z b o dLen dCap : Nat) (a : Addr) (sLen sCap n : Nat) (cs : List Value)
    (hu : P.underlying dT = some (.slice elem)) (hs : (P.info? elem).map (·.size) = some z) (hm : Nat.min sLen dLen = n) (hn : cs.length = n * z)
    (hsrc : ∀ j v, cs[j]? = some v → w.cell? (a.add j) = some v) (hc : ∀ j, j < cs.length → (w.cell? ⟨b, o + j, none⟩).isSome = true) (hf : ∀ j, j < cs.length → w.frozen? ⟨b, o + j, none⟩ = false) (h1 : ∀ v ∈ cs, v.oneCell' = true) :
    (Builtin.copy_ #[dT, sT] ty #[.slice (some ⟨b, o, none⟩) dLen dCap, .slice (some a) sLen sCap]).run P w = .ok (goInt n) (w.setCells b o cs) := by
  have hl := run_loadCells_list (P := P) w a cs hsrc
  have hst := run_storeCells_cells (P := P) b o cs 0 w (by simpa using hc) (by simpa using hf) h1
  cases hq : P.info? elem with
  | none => simp [hq] at hs
  | some i =>
    have hi : i.size = z := by simpa [hq] using hs
    rw [hn] at hl
    unfold Builtin.copy_
    simp only [Builtin.lenOf, Builtin.firstCells, sizeOf, typeInfo]
    simp [run_underlying hu, hq, hi, hm, hl, hst]
theorem step_copy_size {P : Program} {ops : Array Oper} {o : Oper} {a : Act} {w : World} {K : Act → World → Prop} {Q : Exit → Act → World → Prop} {E : Prop} (hgd : o.guard = none) (d s : Operand) (dT sT : TypeId)
    (ho : o.op = .call { callee := .builtin .copy, args := #[d, s], argTypes := #[dT, sT] }) (elem : TypeId) (z : Nat) (hu : P.underlying dT = some (.slice elem)) (hsz : (P.info? elem).map (·.size) = some z)
    (b off dLen dCap : Nat) (ad : Addr) (sLen sCap n : Nat) (hd : a.eval d = .slice (some ⟨b, off, none⟩) dLen dCap) (hs : a.eval s = .slice (some ad) sLen sCap) (cs : List Value)
    (hm : Nat.min sLen dLen = n) (hn : cs.length = n * z) (hsrc : ∀ j v, cs[j]? = some v → w.cell? (ad.add j) = some v) (hc : ∀ j, j < cs.length → (w.cell? ⟨b, off + j, none⟩).isSome = true) (hf : ∀ j, j < cs.length → w.frozen? ⟨b, off + j, none⟩ = false) (h1 : ∀ v ∈ cs, v.oneCell' = true)
    (h : K (a.put o.dst (goInt n)) (w.setCells b off cs)) : if Region.wanted o (yielded ops a.tmps) = true then Oper.wp P o a w K Q else E := by
  have hw : Region.wanted o (yielded ops a.tmps) = true := by simp [Region.wanted, hgd]
  rw [if_pos hw]
  have hrun := run_copy_size (P := P) w dT sT o.type elem z b off dLen dCap ad sLen sCap n cs hu hsz hm hn hsrc hc hf h1
  unfold Oper.wp
  simp [execOp, ho, resolve, invoke, builtin, hd, hs, hrun, Result.andThen]
  exact h
def encS (x : SS) : List Value := [.int .u8 x.f0, .int .u8 x.f1, .int .u8 x.f2, .int .u8 x.f3, .int .u8 x.f4, .int .u8 x.f5, .int .u8 x.f6, .int .u8 x.f7]
def encSs : List SS → List Value
  | [] => []
  | x :: r => encS x ++ encSs r
theorem encSs_len : ∀ l : List SS, (encSs l).length = l.length * 8
  | [] => rfl
  | x :: r => by rw [encSs, List.length_append, encSs_len r, List.length_cons]; show 8 + r.length * 8 = _; omega
theorem encSs_one : ∀ (l : List SS), ∀ v ∈ encSs l, v.oneCell' = true
  | [], v, h => by cases h
  | x :: r, v, h => by
    rcases List.mem_append.1 h with h | h
    · simp only [encS, List.mem_cons, List.mem_nil_iff, or_false] at h
      rcases h with rfl | rfl | rfl | rfl | rfl | rfl | rfl | rfl <;> rfl
    · exact encSs_one r v h
theorem encSs_get : ∀ (l : List SS) (j : Nat) (v : Value), (encSs l)[j]? = some v → ∃ p, l[j / 8]? = some p ∧ (encS p)[j % 8]? = some v
  | [], j, v, h => by simp [encSs] at h
  | x :: r, j, v, h => by
    rw [encSs] at h
    by_cases hj : j < 8
    · rw [List.getElem?_append_left (by exact hj)] at h
      exact ⟨x, by rw [Nat.div_eq_of_lt hj]; rfl, by rw [Nat.mod_eq_of_lt hj]; exact h⟩
    · rw [List.getElem?_append_right (by show 8 ≤ j; omega)] at h
      obtain ⟨p, h1, h2⟩ := encSs_get r (j - 8) v h
      exact ⟨p, by rw [show j / 8 = (j - 8) / 8 + 1 by omega, List.getElem?_cons_succ]; exact h1, by rw [show j % 8 = (j - 8) % 8 by omega]; exact h2⟩
theorem secs_read {w : World} {A : Option Addr} {n : Nat} {xs : List SS} (h : Kd.C kSS w A n xs) (hp : 0 < n) : ∃ ad, A = some ad ∧ ∀ j v, (encSs xs)[j]? = some v → w.cell? (ad.add j) = some v := by
  obtain ⟨ad, e, hc⟩ := h.2.2 hp
  refine ⟨ad, e, fun j v hv => ?_⟩
  obtain ⟨p, h1, h2⟩ := encSs_get xs j v hv
  obtain ⟨c, hl, hK, hcc⟩ := hc (j / 8) p h1
  obtain rfl := k52_open hK
  have := hcc (j % 8) v h2
  rwa [show j / 8 * kSS.sz + j % 8 = j by show j / 8 * 8 + j % 8 = j; omega] at this
theorem setCells_append (b : Nat) : ∀ (x y : List Value) (o : Nat) (w : World), w.setCells b o (x ++ y) = (w.setCells b o x).setCells b (o + x.length) y
  | [], y, o, w => rfl
  | v :: r, y, o, w => by
    rw [List.cons_append, World.setCells, World.setCells, setCells_append b r y (o + 1), List.length_cons, show o + 1 + r.length = o + (r.length + 1) by omega]
theorem grown_refl' (w : World) (row : Option Nat) : w.grownBy w row := World.grownBy.refl w row
theorem R_spl {e g n cap base : Nat} {ok : Nat → Prop} : ∀ (data : List SS) (y : List SS) (s : Nat) (W : World), s + data.length ≤ y.length → Kd.R kSS e W base ok (.slice (some ⟨g, 0, none⟩) n cap) y →
    Kd.R kSS e (W.setCells g (s * 8) (encSs data)) base ok (.slice (some ⟨g, 0, none⟩) n cap) (spl y s data) ∧ W.grownBy (W.setCells g (s * 8) (encSs data)) (some g)
  | [], y, s, W, hl, h => by
    refine ⟨?_, grown_refl' W _⟩
    have : spl y s [] = y := by simp [spl]
    rw [this]; exact h
  | x :: r, y, s, W, hl, h => by
    simp only [List.length_cons] at hl
    have hn := (Kd.R_reads' h).1
    obtain ⟨c, hcl, _, hcc, _⟩ := Kd.R_elem h z52 (s : Int) (by omega) (by omega)
    obtain ⟨h1, h2⟩ := Kd.R_seg h (s : Int) (by omega) (by omega) (c := c) (seg := encS x) (j := 0) (x' := x) (okp := fun _ => False) hcl hcc (Nat.le_refl 8)
      (by
        have : c.drop (0 + (encS x).length) = [] := List.drop_eq_nil_of_le (by rw [hcl]; exact Nat.le_refl 8)
        rw [this, List.take_zero, List.nil_append, List.append_nil]
        exact k52_mkM _ _ _ x) (fun _ hk => hk.elim)
    rw [Int.toNat_natCast, Nat.add_zero] at h1 h2
    have h1' : Kd.R kSS e (W.setCells g (s * 8) (encS x)) base ok (.slice (some ⟨g, 0, none⟩) n cap) (y.set s x) := h1
    have h2' : W.grownBy (W.setCells g (s * 8) (encS x)) (some g) := h2
    obtain ⟨h3, h4⟩ := R_spl r (y.set s x) (s + 1) (W.setCells g (s * 8) (encS x)) (by rw [List.length_set]; omega) h1'
    have hsp : spl (y.set s x) (s + 1) r = spl y s (x :: r) := by
      unfold spl
      rw [List.take_succ_eq_append_getElem (by rw [List.length_set]; omega), List.getElem_set_self, List.take_set_of_le (Nat.le_refl s), List.drop_set_of_lt (by omega), List.append_assoc, List.singleton_append, List.length_cons, List.cons_append, show s + 1 + r.length = s + (r.length + 1) by omega]
    have hcell : (W.setCells g (s * 8) (encS x)).setCells g ((s + 1) * 8) (encSs r) = W.setCells g (s * 8) (encSs (x :: r)) := by
      rw [encSs, setCells_append]
      congr 1
      show (s + 1) * 8 = s * 8 + 8
      omega
    rw [hsp, hcell] at h3
    rw [hcell] at h4
    exact ⟨h3, World.grownBy.trans h2' h4⟩
end Go.Proofs.Ytoichhdbomcdaaa.Pq
end
section
namespace Go.Proofs.Ytoichhdbomcdaaa.Pq
open Go.RowKit Go.Shelf Go.Proofs.YtoichhdbomcdaaaW.PrintWords Go.Proofs.YtoichhdbomcdaaaW.PrintLast Go.Proofs.YtoichhdbomcdaaaW.PrintMore
set_option linter.unusedVariables false
set_option linter.unusedSimpArgs false
set_option maxHeartbeats 800000
set_option maxRecDepth 100000
theorem C_at_wr {w : World} {A : Option Addr} {n : Nat} {xs : List WS} (h : Kd.C kWS w A n xs) (i : Nat) (hi : i < n) :
    ∃ ad AD cD, A = some ad ∧ w.cell? (ad.add (i * 3)) = some (.int .i64 (xs.getD i z57).f0) ∧ w.cell? ⟨(ad.add (i * 3)).block, (ad.add (i * 3)).off + 1, none⟩ = some (.int .i64 (xs.getD i z57).f1) ∧ w.cell? ⟨(ad.add (i * 3)).block, (ad.add (i * 3)).off + 2, none⟩ = some (.slice AD (xs.getD i z57).f2.length cD) ∧ (xs.getD i z57).f2.length ≤ cD ∧ Kd.C kSS w AD (xs.getD i z57).f2.length (xs.getD i z57).f2 := by
  have hr : rd_T57 xs (i : Int) = xs.getD i z57 := by unfold rd_T57; rw [Int.toNat_natCast]
  obtain ⟨ad, AD, cD, h1, h2, h3, h4, h5, h6⟩ := at_T57 h (i : Int) (by omega) (by omega)
  rw [hr, Int.toNat_natCast] at h2 h3 h4
  rw [hr] at h5 h6
  exact ⟨ad, AD, cD, h1, h2, h3, h4, h5, h6⟩
theorem row_cells {e g n cap base : Nat} {ok : Nat → Prop} {W : World} {y : List SS} (h : Kd.R kSS e W base ok (.slice (some ⟨g, 0, none⟩) n cap) y) (j : Nat) (hj : j < y.length * 8) : (W.cell? ⟨g, j, none⟩).isSome = true ∧ W.frozen? ⟨g, j, none⟩ = false := by
  have hn := (Kd.R_reads' h).1
  obtain ⟨c, hcl, _, hcc, hfr⟩ := Kd.R_elem h z52 ((j / 8 : Nat) : Int) (by omega) (by omega)
  rw [Int.toNat_natCast] at hcc hfr
  have hcl' : c.length = 8 := hcl
  have h1 := hcc (j % 8) c[j % 8] (List.getElem?_eq_getElem (by omega))
  have h2 := hfr (j % 8)
  rw [show j / 8 * kSS.sz + j % 8 = j by show j / 8 * 8 + j % 8 = j; omega] at h1 h2
  exact ⟨by rw [h1]; rfl, h2⟩
theorem image_Apply.calls (A0 : Option Addr) (c0 : Nat) (l0 : List (List SS)) (A1 : Option Addr) (c1 : Nat) (l1 : List WS) (r1 : List (List SS)) (r2 : Int) (r3 : Int) (w : World) (hr0 : Kd.C (Kd.slice 52 kSS) w A0 l0.length l0) (hc0 : l0.length ≤ c0) (hr1 : Kd.C kWS w A1 l1.length l1) (hc1 : l1.length ≤ c1) (h : image_Apply.f l0 l1 = some (r1, r2, r3)) :
    Calls Try.prog 18 #[.slice A0 l0.length c0, .slice A1 l1.length c1] w fun e w' => ∃ v0_ : Value, e = .returned (.tuple #[v0_, .int .i64 r2, .int .i64 r3]) ∧ Kd.S (Kd.slice 52 kSS) 49 w' w.heap.size (fun _ => True) v0_ r1 ∧ Below w.heap.size w w' := by
  unfold image_Apply.f at h
  by_cases hnk : ¬ okW l0 l1
  · rw [if_neg hnk] at h; cases h
  have hok := Decidable.not_not.1 hnk
  rw [if_pos hok] at h
  clear hnk
  simp only [Option.some.injEq] at h
  have hchk := fun (W : World) (hW : Below w.heap.size w W) => image_Check.calls A0 c0 l0 _ W (C_step hr0 hW) hc0 (show image_Check.f l0 = some (sizesErr (lens l0)) by unfold image_Check.f; rw [if_pos hok.1])
  have hmax1 := Kd.C_max hr1
  unfold applyX at h
  by_cases hs : sizesErr (lens l0) = 0
  · rw [if_pos hs] at h
    rw [hs] at hchk
    have hsz := sizes_le hs
    have hpos : 0 < l0.length := by
      unfold sizesErr at hs
      split at hs
      · cases hs
      · rename_i hb; rw [lens_len] at hb; omega
    have hcop := fun (W : World) (hW : Below w.heap.size w W) => image_copied.calls0 A0 c0 l0 W (C_step hr0 hW) hc0 hok.1 (fun i hi => by have := hsz i hi; omega)
    have HSZ := Aside0.mk hsz
    have HR1 := Aside0.mk hr1
    have HH := Aside0.mk h
    have HOK := Aside0.mk hok
    have HP := Aside0.mk hpos
    clear hs hsz hr0 hr1 h hok hpos
    go_enter Try.func18, Try.ntmps18
    go_wp2_with (first | (go_at_call 38; refine (hchk _ (Below.refl _ _)).mono ?_; rintro e w1 ⟨rfl, h1⟩; have n1 := Aside0.mk h1; clear h1) | (go_at_call 42; refine (hcop _ n1.out).mono ?_; rintro e w2 ⟨v, rfl, h2, h3⟩; obtain ⟨g, c8, rfl, hg1, hg2, hg3⟩ := Kd.S_form h2 HP.out; have HG := Aside0.mk (Nat.le_trans n1.out.size hg1); have HS := Aside0.mk (Kd.S_lower h2 n1.out.size); have n2 := Aside0.mk (below_then n1.out n1.out.size h3); clear h2 h3 hg1 hg2 hg3))
    clear hchk hcop
    go_loopg [21] l1.length (fun gg s21 wr => ∃ (kk : Nat) (out : Img), kk ≤ l1.length ∧ l1.length - kk ≤ gg ∧ s21 = .int .i64 kk ∧ Aside0 (Below w.heap.size w wr) ∧ Aside0 (Kd.S kImg 49 wr w.heap.size (fun _ => True) (.slice (some ⟨g, 0, none⟩) l0.length c8) out) ∧ Aside0 (lens out = lens l0) ∧ Aside0 (appG kk (l1.drop kk) out = (r1, r2, r3)))
    case atStart => exact ⟨0, l0, Nat.zero_le _, by omega, rfl, n2, HS, ⟨rfl⟩, HH⟩
    case round =>
      obtain ⟨kk, out, hkk, hgg, rfl, BW, HO, HL, HE⟩ := hrel
      obtain ⟨hol, hov⟩ := lens_vol HL.out
      have HRV := Aside0.mk hov
      have HRL := Aside0.mk hol
      clear hov hol
      by_cases hlt : kk < l1.length
      · obtain ⟨ad, AD, cD, rfl, hw0, hw1, hw2, hcD, hCD⟩ := C_at_wr (C_step HR1.out BW.out) kk hlt
        have happ := appG_drop l1 kk hlt z57 out
        rw [HE.out] at happ
        have hxm : (l1.getD kk z57).f2.length ≤ 1048576 := by rw [List.getD_eq_getElem?_getD, List.getElem?_eq_getElem hlt]; exact HOK.out.2.2 _ (List.getElem_mem hlt)
        have HD := Aside0.mk hCD
        clear hCD
        obtain ⟨-, hc8, hCO⟩ := Kd.S_reads' HO.out
        have HCO := Aside0.mk hCO
        have HC8 := Aside0.mk (show out.length ≤ c8 by have := HRL.out; omega)
        clear hCO hc8
        generalize l1.getD kk z57 = x at hw0 hw1 hw2 hcD HD happ hxm
        have hev := ev_fits out x (fun v hv => by rw [HRV.out v hv]; exact HSZ.out v (by have := HRL.out; omega)) hxm
        obtain ⟨kf, hkf⟩ := hev.rounds
        have hfit := fun (W : World) (h1 : Kd.C kImg W (some ⟨g, 0, none⟩) out.length out) (h2 : Kd.C kSS W AD x.f2.length x.f2) => image_fits.calls kf (some ⟨g, 0, none⟩) c8 out x.f0 x.f1 AD cD x.f2 (fitsC out x) W h1 HC8.out h2 hcD hkf
        rw [HRL.out] at hfit
        have HCO' := Aside0.mk (show Kd.C kImg wr (some ⟨g, 0, none⟩) l0.length out by have := HCO.out; rwa [HRL.out] at this)
        clear HCO hev hkf
        by_cases q : fitsC out x = 0
        · rw [q] at hfit
          rw [if_pos q] at happ
          have HAPP := Aside0.mk happ
          have HQ := Aside0.mk q
          obtain ⟨t0, t1, t2, t3, t4⟩ := fitsC_zero q
          clear q happ
          have HT1 := Aside0.mk t1
          have t1' : x.f0 < (l0.length : Int) := by have := HRL.out; omega
          clear t1
          go_wp2_with (go_at_call 43; refine (hfit _ (Kd.C_alloc HCO'.out _) (Kd.C_alloc HD.out _)).mono ?_; rintro e w3 ⟨rfl, h3⟩; have n3 := Aside0.mk h3; clear h3)
          have ht0 : (x.f0.toNat : Int) = x.f0 := Int.toNat_of_nonneg t0
          have hbw3 := below_alloc (Below.refl wr.heap.size wr) (.cells #[.int .i64 x.f0, .int .i64 x.f1, .slice AD x.f2.length cD] 57)
          have hbb := below_then hbw3 hbw3.size n3.out
          have hblk : w3.heap[wr.heap.size]? = some (.cells #[.int .i64 x.f0, .int .i64 x.f1, .slice AD x.f2.length cD] 57 (0, 0)) := (n3.out.block _ (by simp)).trans (heap_alloc_new wr _)
          have hB0 : w3.cell? ⟨wr.heap.size, 0, none⟩ = some (.int .i64 x.f0) := (blk_cell hblk 0).trans rfl
          have hB1 : w3.cell? ⟨wr.heap.size, 1, none⟩ = some (.int .i64 x.f1) := (blk_cell hblk 1).trans rfl
          have hB2' : w3.cell? ⟨wr.heap.size, 2, none⟩ = some (.slice AD x.f2.length cD) := (blk_cell hblk 2).trans rfl
          obtain ⟨aD, rfl, hsrc⟩ := secs_read HD.out t2
          have hB2 := hB2'
          have HSRC := Aside0.mk (fun (j : Nat) (v : Value) (hv : (encSs x.f2)[j]? = some v) => (hbb.cell (World.block_lt_of_cell? _ _ (hsrc j v hv))).trans (hsrc j v hv))
          have HO3 := Kd.S_drew (Kd.S_below HO.out hbb)
          obtain ⟨oki, cc, hcl, hM, hcc, hoki, hback⟩ := Kd.S_borrow HO3 [] (x.f0.toNat : Int) (by omega) (by omega)
          rw [Int.toNat_natCast] at hM hcc hback
          have HBACK := Aside0.mk @hback
          clear hback
          obtain ⟨vr, rfl, hRr⟩ := hM
          have hRow0 := hcc 0 vr rfl
          obtain ⟨y, hy⟩ : ∃ y, y = out.getD x.f0.toNat [] := ⟨_, rfl⟩
          rw [← hy] at hRr t4
          have hylen : 0 < y.length := by omega
          obtain ⟨gr, cr, rfl, hgr1, hgr2, hgr3⟩ := Kd.R_form hRr hylen
          have hyc := (Kd.R_reads' hRr).2.1
          have hym : y.length ≤ 4096 := by rw [hy, HRV.out _ (by have := HRL.out; omega)]; exact HSZ.out _ (by omega)
          have hRow : w3.cell? ⟨g, x.f0.toNat, none⟩ = some (.slice (some ⟨gr, 0, none⟩) y.length cr) := by
            have h := hRow0
            rw [add_plain, show x.f0.toNat * kImg.sz + 0 = x.f0.toNat by show x.f0.toNat * 1 + 0 = x.f0.toNat; omega] at h
            exact h
          have HRR := Aside0.mk hRr
          have HBB := Aside0.mk hbb
          have HYY := Aside0.mk hy
          have HOKI := Aside0.mk hoki
          clear hcc hRow0 hRr hbb hy hoki hB2' hsrc hbw3 hblk HO3
          refine start_ (n := 11) (S := fun w' => w'.cell? ⟨wr.heap.size, 0, none⟩ = some (.int .i64 x.f0) ∧ w'.cell? ⟨wr.heap.size, 1, none⟩ = some (.int .i64 x.f1) ∧ w'.cell? ⟨wr.heap.size, 2, none⟩ = some (.slice (some aD) x.f2.length cD) ∧ w'.cell? ⟨g, x.f0.toNat, none⟩ = some (.slice (some ⟨gr, 0, none⟩) y.length cr)) (ds := [10]) #[false, false, false, false, false, false, false, false, false, false, false] (by kernel_rfl) rfl rfl ⟨hB0, hB1, hB2, hRow⟩ (fun hHeld => ?_)
          refine pure_ (i := 0) (N := some 33) (v := ?_) (a' := ?_) #[true, false, false, false, false, false, false, false, false, false, false] rfl rfl (by kernel_rfl) (fun _ _ _ h => h) (Or.inl ⟨by rfl, ?_⟩) ?_ ?_
          rotate_left
          · intro w'
            go_simp
            with_reducible rfl
          rotate_left
          · simp only [Act.put, List.setIfInBounds_toArray, List.set_cons_zero, List.set_cons_succ, i64_w, i32_w]
            rfl
          refine pure_ (i := 1) (N := some 34) (v := ?_) (a' := ?_) #[true, true, false, false, false, false, false, false, false, false, false] rfl rfl (by kernel_rfl) (fun _ _ _ h => h) (Or.inl ⟨by rfl, ?_⟩) ?_ ?_
          rotate_left
          · intro w'
            go_simp
            with_reducible rfl
          rotate_left
          · simp only [Act.put, List.setIfInBounds_toArray, List.set_cons_zero, List.set_cons_succ, i64_w, i32_w]
            rfl
          refine take_ (i := 2) (N := some 35) (v := ?_) (a' := ?_) #[true, true, true, false, false, false, false, false, false, false, false] rfl rfl (by kernel_rfl) (fun _ _ _ h => h) (Or.inl ⟨by rfl, ?_⟩) hHeld ?_ ?_
          rotate_left
          · rintro w' ⟨s0, s1, s2, s3⟩
            go_simp
            with_reducible rfl
          rotate_left
          · simp only [Act.put, List.setIfInBounds_toArray, List.set_cons_zero, List.set_cons_succ, i64_w, i32_w]
            rfl
          refine pure_ (i := 3) (N := some 36) (v := ?_) (a' := ?_) #[true, true, true, true, false, false, false, false, false, false, false] rfl rfl (by kernel_rfl) (fun _ _ _ h => h) (Or.inl ⟨by rfl, ?_⟩) ?_ ?_
          rotate_left
          · intro w'
            go_simp
            with_reducible rfl
          rotate_left
          · simp only [Act.put, List.setIfInBounds_toArray, List.set_cons_zero, List.set_cons_succ, i64_w, i32_w]
            rfl
          refine take_ (i := 4) (N := some 37) (v := ?_) (a' := ?_) #[true, true, true, true, true, false, false, false, false, false, false] rfl rfl (by kernel_rfl) (fun _ _ _ h => h) (Or.inl ⟨by rfl, ?_⟩) hHeld ?_ ?_
          rotate_left
          · rintro w' ⟨s0, s1, s2, s3⟩
            go_simp
            with_reducible rfl
          rotate_left
          · simp only [Act.put, List.setIfInBounds_toArray, List.set_cons_zero, List.set_cons_succ, i64_w, i32_w]
            rfl
          refine pure_ (i := 5) (N := some 38) (v := ?_) (a' := ?_) #[true, true, true, true, true, true, false, false, false, false, false] rfl rfl (by kernel_rfl) (fun _ _ _ h => h) (Or.inl ⟨by rfl, ?_⟩) ?_ ?_
          rotate_left
          · intro w'
            go_simp
            with_reducible rfl
          rotate_left
          · simp only [Act.put, List.setIfInBounds_toArray, List.set_cons_zero, List.set_cons_succ, i64_w, i32_w]
            rfl
          refine take_ (i := 6) (N := some 39) (v := ?_) (a' := ?_) #[true, true, true, true, true, true, true, false, false, false, false] rfl rfl (by kernel_rfl) (fun _ _ _ h => h) (Or.inl ⟨by rfl, ?_⟩) hHeld ?_ ?_
          rotate_left
          · rintro w' ⟨s0, s1, s2, s3⟩
            go_simp
            with_reducible rfl
          rotate_left
          · simp only [Act.put, List.setIfInBounds_toArray, List.set_cons_zero, List.set_cons_succ, i64_w, i32_w]
            rfl
          refine pure_ (i := 7) (N := some 40) (v := .slice (some ⟨gr, x.f1.toNat * 8, none⟩) (y.length - x.f1.toNat) (cr - x.f1.toNat)) (a' := ?_) #[true, true, true, true, true, true, true, true, false, false, false] rfl rfl (by kernel_rfl) (fun _ _ _ h => h) (Or.inl ⟨by rfl, ?_⟩) ?_ ?_
          · intro w'
            go_simp
            rw [if_pos (by omega), if_neg (show ¬ cr = x.f1.toNat by omega)]
          rotate_left
          · simp only [Act.put, List.setIfInBounds_toArray, List.set_cons_zero, List.set_cons_succ, i64_w, i32_w]
            rfl
          refine pure_ (i := 8) (N := some 41) (v := ?_) (a' := ?_) #[true, true, true, true, true, true, true, true, true, false, false] rfl rfl (by kernel_rfl) (fun _ _ _ h => h) (Or.inl ⟨by rfl, ?_⟩) ?_ ?_
          rotate_left
          · intro w'
            go_simp
            with_reducible rfl
          rotate_left
          · simp only [Act.put, List.setIfInBounds_toArray, List.set_cons_zero, List.set_cons_succ, i64_w, i32_w]
            rfl
          refine take_ (i := 9) (N := some 42) (v := ?_) (a' := ?_) #[true, true, true, true, true, true, true, true, true, true, false] rfl rfl (by kernel_rfl) (fun _ _ _ h => h) (Or.inl ⟨by rfl, ?_⟩) hHeld ?_ ?_
          rotate_left
          · rintro w' ⟨s0, s1, s2, s3⟩
            go_simp
            with_reducible rfl
          rotate_left
          · simp only [Act.put, List.setIfInBounds_toArray, List.set_cons_zero, List.set_cons_succ, i64_w, i32_w]
            rfl
          refine last_ (i := 10) (N := some 43) #[true, true, true, true, true, true, true, true, true, true, true] rfl rfl (by kernel_rfl) (by decide) (fun K hK => ?_)
          have hcl := encSs_len x.f2
          refine step_copy_size rfl (.tmp 40) (.tmp 42) 49 49 rfl 52 8 Try.underlying49 (by kernel_rfl) gr (x.f1.toNat * 8) _ _ aD _ _ x.f2.length rfl rfl (encSs x.f2) (Nat.min_eq_left (by omega)) hcl HSRC.out (fun j hj => (row_cells HRR.out _ (by omega)).1) (fun j hj => (row_cells HRR.out _ (by omega)).2) (encSs_one _) ?_
          obtain ⟨h4, hg4⟩ := R_spl x.f2 y x.f1.toNat w3.drew (by omega) HRR.out
          generalize w3.drew.setCells gr (x.f1.toNat * 8) (encSs x.f2) = w4 at h4 hg4
          refine hK.out _ _ ?_
          refine done_ (by kernel_rfl) ?_
          have HO4 := HBACK.out (x' := spl y x.f1.toNat x.f2) hg4 (fun k e => HRR.out.1 k (by rw [← e]; simp [Value.ownBlock])) ⟨_, rfl, h4⟩
          have hput : out.set x.f0.toNat (spl y x.f1.toNat x.f2) = putW out x := by rw [HYY.out]; rfl
          rw [hput] at HO4
          have HB4 := Aside0.mk ((below_drew (below_then BW.out BW.out.size HBB.out)).grown hg4 (by have := BW.out.size; have := HBB.out.size; simp; omega) (fun k e => by cases e; exact hgr1))
          have HO5 := Aside0.mk HO4
          have HL5 := Aside0.mk (show lens (putW out x) = lens l0 by rw [lens_putW HQ.out, HL.out])
          have HE5 := Aside0.mk HAPP.out.symm
          simp only [Act.put, List.setIfInBounds_toArray, List.set_cons_zero, List.set_cons_succ]
          clear h4 hg4 hput HO4 hHeld hB0 hB1 hB2 hRow
          go_wp2
          go_roundg (l1.length - (kk + 1))
          case measure => omega
          case rel => exact ⟨kk + 1, putW out x, by omega, by omega, by go_num, HB4, HO5, HL5, HE5⟩
        · rw [if_neg q] at happ
          have q1 : (fitsC out x == 0) = false := by simpa using q
          have q2 : (fitsC out x != 0) = true := by simpa using q
          have q3 : decide (fitsC out x = 0) = false := by simpa using q
          simp only [Prod.mk.injEq] at happ
          obtain ⟨rfl, rfl, rfl⟩ := happ
          clear q HE HH
          obtain ⟨fc, hfc⟩ : ∃ fc, fc = fitsC out x := ⟨_, rfl⟩
          rw [← hfc] at hfit q1 q2 q3
          have HFC := Aside0.mk hfc
          clear hfc
          go_wp2_with (go_at_call 43; refine (hfit _ (Kd.C_alloc HCO'.out _) (Kd.C_alloc HD.out _)).mono ?_; rintro e w3 ⟨rfl, h3⟩; have n3 := Aside0.mk h3; clear h3)
          go_ret3
          exact ⟨.slice none 0 0, by rw [← HFC.out]; rfl, Kd.S_nil _ _ _ _ _, below_then (below_alloc BW.out _) (by have := BW.out.size; simp; omega) n3.out⟩
      · have hk : kk = l1.length := by omega
        have h := HE.out
        rw [hk, List.drop_length, appG] at h
        simp only [Prod.mk.injEq] at h
        obtain ⟨rfl, rfl, rfl⟩ := h
        clear HE HH HRV HRL HL
        subst hk
        go_wp2
        go_ret3
        exact ⟨_, rfl, HO.out, BW.out⟩
  · rw [if_neg hs] at h
    have q1 : (sizesErr (lens l0) == 0) = false := by simpa using hs
    have q2 : (sizesErr (lens l0) != 0) = true := by simpa using hs
    have q3 : decide (sizesErr (lens l0) = 0) = false := by simpa using hs
    simp only [Prod.mk.injEq] at h
    obtain ⟨rfl, rfl, rfl⟩ := h
    generalize sizesErr (lens l0) = fx at hchk q1 q2 q3
    clear hs hr0 hr1 hok
    go_enter Try.func18, Try.ntmps18
    go_wp2_with (go_at_call 38; refine (hchk _ (Below.refl _ _)).mono ?_; rintro e w1 ⟨rfl, h1⟩; have n1 := Aside0.mk h1; clear h1)
    go_ret3
    exact ⟨_, rfl, Kd.S_nil _ _ _ _ _, n1.out⟩
end Go.Proofs.Ytoichhdbomcdaaa.Pq
end
section
namespace Go.Proofs.Ytoichhdbomcdaaa.Pq
open Go.RowKit Go.Proofs.YtoichhdbomcdaaaW.PrintWords Go.Proofs.YtoichhdbomcdaaaW.PrintLast Go.Proofs.YtoichhdbomcdaaaW.PrintMore
attribute [local go_sem] max2_int min2_int max_two min_two max_three min_three max_four min_four
set_option linter.unusedVariables false
set_option linter.unusedSimpArgs false
mutual
def standbylaw45_ResyncEquals.j0 : Nat → List (List (S52)) → List (List (S52)) → List (List (S54)) → Bool → Option (Bool)
  | 0, _, _, _, _ => none
  | k + 1, x0, x1, x2, x35 => if x35 = true then ((standbylaw45_awake.f k).bind fun t348 => (some t348)) else ((resync_Writes.f x0 x2).bind fun bt349 => ((resync_Needed.f x0 x1 x2).bind fun bt353 => (if bt349.2 = 0 then (standbylaw45_ResyncEquals.j1 k x0 x1 x2 bt349.1 bt353.1 (bt353.2 != 0)) else (standbylaw45_ResyncEquals.j1 k x0 x1 x2 bt349.1 bt353.1 true))))
def standbylaw45_ResyncEquals.j1 : Nat → List (List (S52)) → List (List (S52)) → List (List (S54)) → List (S57) → List (List (S54)) → Bool → Option (Bool)
  | 0, _, _, _, _, _, _ => none
  | k + 1, x0, x1, x2, x7, x9, x55 => if x55 = true then ((standbylaw45_awake.f k).bind fun t357 => (some t357)) else ((resync_Writes.f x0 x9).bind fun bt358 => (if bt358.2 = 0 then ((standbylaw45_differing.f k x0 x1 x2).bind fun bt362 => ((image_Apply.f x1 x7).bind fun bt364 => ((image_Apply.f x1 bt358.1).bind fun bt369 => ((resync_Exact.f x0 x1 x9).bind fun bt374 => (if bt364.2.2 = 0 then (if bt369.2.2 = 0 then (if bt374.2 = 0 then (if (bt374.1 != (bt362.2 == 0)) = true then (standbylaw45_ResyncEquals.j2 k x2 x9 bt358.1 bt362.1 bt362.2 true) else ((standbyref07_Same.f k bt364.1 bt369.1).bind fun t376 => (if t376 = true then ((standbyref07_Same.f k bt364.1 x0).bind fun t377 => (standbylaw45_ResyncEquals.j2 k x2 x9 bt358.1 bt362.1 bt362.2 (t377 != (bt362.2 == 0)))) else (standbylaw45_ResyncEquals.j2 k x2 x9 bt358.1 bt362.1 bt362.2 true)))) else (standbylaw45_ResyncEquals.j2 k x2 x9 bt358.1 bt362.1 bt362.2 true)) else (standbylaw45_ResyncEquals.j2 k x2 x9 bt358.1 bt362.1 bt362.2 true)) else (standbylaw45_ResyncEquals.j2 k x2 x9 bt358.1 bt362.1 bt362.2 true)))))) else (some false)))
def standbylaw45_ResyncEquals.j2 : Nat → List (List (S54)) → List (List (S54)) → List (S57) → Int → Int → Bool → Option (Bool)
  | 0, _, _, _, _, _, _ => none
  | k + 1, x2, x9, x11, x13, x14, x122 => if x122 = true then (some false) else ((standbylaw45_awake.f k).bind fun t378 => (if t378 = true then ((resync_Cost.f x9).bind fun t379 => (if t379 = (wrap64 (x13 - x14)) then ((resync_Cost.f x9).bind fun t380 => ((resync_Cost.f x2).bind fun t381 => (if t380 ≤ t381 then ((standbyref22_Sectors.f k x11).bind fun t382 => ((resync_Cost.f x9).bind fun t383 => (some (t382 == t383)))) else (some false)))) else (some false))) else (some false)))
end
def standbylaw45_ResyncEquals.f (k : Nat) (l0 : List (List (S52))) (l1 : List (List (S52))) (l2 : List (List (S54))) : Option (Bool) := (standbyref07_Few.f k l0).bind fun t345 => (if t345 = true then ((standbyref07_Few.f k l1).bind fun t346 => (if t346 = true then ((standbyref45_FewLists.f k l2).bind fun t347 => (standbylaw45_ResyncEquals.j0 k l0 l1 l2 (!t347))) else (standbylaw45_ResyncEquals.j0 k l0 l1 l2 true))) else (standbylaw45_ResyncEquals.j0 k l0 l1 l2 true))
set_option maxHeartbeats 8000000 in
set_option maxRecDepth 100000 in
theorem standbylaw45_ResyncEquals.calls (k : Nat) (A0 : Option Addr) (c0 : Nat) (l0 : List (List (S52))) (A1 : Option Addr) (c1 : Nat) (l1 : List (List (S52))) (A2 : Option Addr) (c2 : Nat) (l2 : List (List (S54))) (r : Bool) (w : World) (hr0 : Kd.C (Kd.slice 52 k52) w A0 l0.length l0) (hc0 : l0.length ≤ c0) (hr1 : Kd.C (Kd.slice 52 k52) w A1 l1.length l1) (hc1 : l1.length ≤ c1) (hr2 : Kd.C (Kd.slice 54 k54) w A2 l2.length l2) (hc2 : l2.length ≤ c2) (h : standbylaw45_ResyncEquals.f k l0 l1 l2 = some r) :
    Calls Try.prog 5 #[.slice A0 l0.length c0, .slice A1 l1.length c1, .slice A2 l2.length c2] w fun e w' => e = .returned (.bool r) ∧ Below w.heap.size w w' := by
  have HR0 := Aside0.mk hr0
  have HC0 := Aside0.mk hc0
  clear hr0 hc0
  have HR1 := Aside0.mk hr1
  have HC1 := Aside0.mk hc1
  clear hr1 hc1
  have HR2 := Aside0.mk hr2
  have HC2 := Aside0.mk hc2
  clear hr2 hc2
  have HB := Aside0.mk (Below.refl w.heap.size w)
  have H : ((standbyref07_Few.f k l0).bind fun t345 => (if t345 = true then ((standbyref07_Few.f k l1).bind fun t346 => (if t346 = true then ((standbyref45_FewLists.f k l2).bind fun t347 => (standbylaw45_ResyncEquals.j0 k l0 l1 l2 (!t347))) else (standbylaw45_ResyncEquals.j0 k l0 l1 l2 true))) else (standbylaw45_ResyncEquals.j0 k l0 l1 l2 true))) = some r := h
  clear h
  have HC4 := Aside0.mk H
  clear H
  go_enter Try.func5, Try.ntmps5
  go_upto_region 1 with (fail)
  go_cut [35] (fun v35 wc => ∃ (kq : Nat) (x35_3 : Bool), v35 = .bool x35_3 ∧ Aside0 (standbylaw45_ResyncEquals.j0 kq l0 l1 l2 x35_3 = some r) ∧ Aside0 (kq ≤ k) ∧ Aside0 (Below w.heap.size w wc))
  case first =>
    have H := HC4.out
    clear HC4
    replace H := Option.bind_eq_some_iff.mp H
    obtain ⟨t345, A50, H⟩ := H
    replace H : (if t345 = true then ((standbyref07_Few.f k l1).bind fun t346 => (if t346 = true then ((standbyref45_FewLists.f k l2).bind fun t347 => (standbylaw45_ResyncEquals.j0 k l0 l1 l2 (!t347))) else (standbylaw45_ResyncEquals.j0 k l0 l1 l2 true))) else (standbylaw45_ResyncEquals.j0 k l0 l1 l2 true)) = some r := H
    have A5 := Aside0.mk A50
    clear A50
    by_cases c6 : t345 = true
    · subst c6
      have H1 : ((standbyref07_Few.f k l1).bind fun t346 => (if t346 = true then ((standbyref45_FewLists.f k l2).bind fun t347 => (standbylaw45_ResyncEquals.j0 k l0 l1 l2 (!t347))) else (standbylaw45_ResyncEquals.j0 k l0 l1 l2 true))) = some r := by rw [if_pos rfl] at H; exact H
      clear H
      have H := H1
      clear H1
      replace H := Option.bind_eq_some_iff.mp H
      obtain ⟨t346, A70, H⟩ := H
      replace H : (if t346 = true then ((standbyref45_FewLists.f k l2).bind fun t347 => (standbylaw45_ResyncEquals.j0 k l0 l1 l2 (!t347))) else (standbylaw45_ResyncEquals.j0 k l0 l1 l2 true)) = some r := H
      have A7 := Aside0.mk A70
      clear A70
      by_cases c8 : t346 = true
      · subst c8
        have H1 : ((standbyref45_FewLists.f k l2).bind fun t347 => (standbylaw45_ResyncEquals.j0 k l0 l1 l2 (!t347))) = some r := by rw [if_pos rfl] at H; exact H
        clear H
        have H := H1
        clear H1
        replace H := Option.bind_eq_some_iff.mp H
        obtain ⟨t347, A90, H⟩ := H
        replace H : (standbylaw45_ResyncEquals.j0 k l0 l1 l2 (!t347)) = some r := H
        have A9 := Aside0.mk A90
        clear A90
        have H' := Aside0.mk H
        clear H
        go_wp2_with (first | ((with_reducible refine gate_callee (f := 6) rfl ?_); refine goesL_ (some 24) rfl rfl Try.func6 (by kernel_rfl) rfl #[.slice A0 l0.length c0] rfl (by (try simp only [List.map_toArray, List.map_cons, List.map_nil]); first | done | rfl | (simp only [List.length_drop, List.length_take]; rfl)) ?_; (with_reducible refine (standbyref07_Few.calls k _ _ l0 true _ ?side1 ?side2 A5.out).mono ?_); (case side1 => repeat (first | exact (Kd.C_below HR0.out HB.out) | (with_reducible refine Kd.C_alloc ?_ _) | (with_reducible refine Kd.C_drewN ?_ _) | (with_reducible refine Kd.C_drew ?_))); (case side2 => exact HC0.out); rintro e w' ⟨rfl, ⟨nd, rfl⟩⟩; refine ⟨_, rfl, ?_⟩) | (go_at_call 6; (with_reducible refine (standbyref07_Few.calls k _ _ l1 true _ ?side1 ?side2 A7.out).mono ?_); (case side1 => repeat (first | exact (Kd.C_below HR1.out (by repeat (first | (with_reducible first | exact HB.out | apply below_alloc | apply pw_below_drewN | apply below_drew1) | exact HB.out))) | (with_reducible refine Kd.C_alloc ?_ _) | (with_reducible refine Kd.C_drewN ?_ _) | (with_reducible refine Kd.C_drew ?_))); (case side2 => exact HC1.out); rintro e w' ⟨rfl, ⟨nd, rfl⟩⟩) | (go_at_call 7; (with_reducible refine (standbyref45_FewLists.calls k _ _ l2 t347 _ ?side1 ?side2 A9.out).mono ?_); (case side1 => repeat (first | exact (Kd.C_below HR2.out (by repeat (first | (with_reducible first | exact HB.out | apply below_alloc | apply pw_below_drewN | apply below_drew1) | exact HB.out))) | (with_reducible refine Kd.C_alloc ?_ _) | (with_reducible refine Kd.C_drewN ?_ _) | (with_reducible refine Kd.C_drew ?_))); (case side2 => exact HC2.out); rintro e w' ⟨rfl, ⟨nd, rfl⟩⟩))
        go_meet
        case rel => exact ⟨_, (!t347), (by first | rfl | (simp; done) | (simp [*]; done)), H', ⟨by first | omega | exact Nat.le_refl _⟩, ⟨by repeat (first | (with_reducible first | exact HB.out | apply below_alloc | apply pw_below_drewN | apply below_drew1) | exact HB.out)⟩⟩
      · replace c8 := Bool.eq_false_iff.mpr c8
        subst c8
        have H1 : (standbylaw45_ResyncEquals.j0 k l0 l1 l2 true) = some r := by rw [if_neg (show ¬ (false = true) by decide)] at H; exact H
        clear H
        have H := H1
        clear H1
        have H' := Aside0.mk H
        clear H
        go_wp2_with (first | ((with_reducible refine gate_callee (f := 6) rfl ?_); refine goesL_ (some 24) rfl rfl Try.func6 (by kernel_rfl) rfl #[.slice A0 l0.length c0] rfl (by (try simp only [List.map_toArray, List.map_cons, List.map_nil]); first | done | rfl | (simp only [List.length_drop, List.length_take]; rfl)) ?_; (with_reducible refine (standbyref07_Few.calls k _ _ l0 true _ ?side1 ?side2 A5.out).mono ?_); (case side1 => repeat (first | exact (Kd.C_below HR0.out HB.out) | (with_reducible refine Kd.C_alloc ?_ _) | (with_reducible refine Kd.C_drewN ?_ _) | (with_reducible refine Kd.C_drew ?_))); (case side2 => exact HC0.out); rintro e w' ⟨rfl, ⟨nd, rfl⟩⟩; refine ⟨_, rfl, ?_⟩) | (go_at_call 6; (with_reducible refine (standbyref07_Few.calls k _ _ l1 false _ ?side1 ?side2 A7.out).mono ?_); (case side1 => repeat (first | exact (Kd.C_below HR1.out (by repeat (first | (with_reducible first | exact HB.out | apply below_alloc | apply pw_below_drewN | apply below_drew1) | exact HB.out))) | (with_reducible refine Kd.C_alloc ?_ _) | (with_reducible refine Kd.C_drewN ?_ _) | (with_reducible refine Kd.C_drew ?_))); (case side2 => exact HC1.out); rintro e w' ⟨rfl, ⟨nd, rfl⟩⟩))
        go_meet
        case rel => exact ⟨_, (true), (by first | rfl | (simp; done) | (simp [*]; done)), H', ⟨by first | omega | exact Nat.le_refl _⟩, ⟨by repeat (first | (with_reducible first | exact HB.out | apply below_alloc | apply pw_below_drewN | apply below_drew1) | exact HB.out)⟩⟩
    · replace c6 := Bool.eq_false_iff.mpr c6
      subst c6
      have H1 : (standbylaw45_ResyncEquals.j0 k l0 l1 l2 true) = some r := by rw [if_neg (show ¬ (false = true) by decide)] at H; exact H
      clear H
      have H := H1
      clear H1
      have H' := Aside0.mk H
      clear H
      go_wp2_with (first | ((with_reducible refine gate_callee (f := 6) rfl ?_); refine goesL_ (some 24) rfl rfl Try.func6 (by kernel_rfl) rfl #[.slice A0 l0.length c0] rfl (by (try simp only [List.map_toArray, List.map_cons, List.map_nil]); first | done | rfl | (simp only [List.length_drop, List.length_take]; rfl)) ?_; (with_reducible refine (standbyref07_Few.calls k _ _ l0 false _ ?side1 ?side2 A5.out).mono ?_); (case side1 => repeat (first | exact (Kd.C_below HR0.out HB.out) | (with_reducible refine Kd.C_alloc ?_ _) | (with_reducible refine Kd.C_drewN ?_ _) | (with_reducible refine Kd.C_drew ?_))); (case side2 => exact HC0.out); rintro e w' ⟨rfl, ⟨nd, rfl⟩⟩; refine ⟨_, rfl, ?_⟩))
      go_meet
      case rel => exact ⟨_, (true), (by first | rfl | (simp; done) | (simp [*]; done)), H', ⟨by first | omega | exact Nat.le_refl _⟩, ⟨by repeat (first | (with_reducible first | exact HB.out | apply below_alloc | apply pw_below_drewN | apply below_drew1) | exact HB.out)⟩⟩
  case rest =>
    clear HC4
    try clear c1
    try clear c2
    try clear p2
    try clear c5
    try clear c6
    try clear c8
    obtain ⟨kq, x35_3, rfl, HA, HJ3, HB⟩ := hcut
    cases kq with
    | zero => exact absurd HA.out (by simp [standbylaw45_ResyncEquals.j0])
    | succ kj3 =>
      have H := HA.out
      clear HA
      simp only [standbylaw45_ResyncEquals.j0] at H
      by_cases c10 : x35_3 = true
      · subst c10
        have H1 : ((standbylaw45_awake.f kj3).bind fun t348 => (some t348)) = some r := by rw [if_pos rfl] at H; exact H
        clear H
        have H := H1
        clear H1
        replace H := Option.bind_eq_some_iff.mp H
        obtain ⟨t348, A110, H⟩ := H
        replace H : (some t348) = some r := H
        have A11 := Aside0.mk A110
        clear A110
        obtain rfl := Option.some.inj H
        go_wp2_with (first | ((with_reducible refine gate_callee (f := 8) rfl ?_); refine goesL_ (some 36) rfl rfl Try.func8 (by kernel_rfl) rfl #[] rfl (by (try simp only [List.map_toArray, List.map_cons, List.map_nil]); first | done | rfl | (simp only [List.length_drop, List.length_take]; rfl)) ?_; (with_reducible refine (standbylaw45_awake.calls kj3  t348 _ A11.out).mono ?_); rintro e w12 ⟨rfl, hb⟩; refine ⟨_, rfl, ?_⟩; have n0_ := Aside0.mk (below_step (by repeat (first | (with_reducible first | exact HB.out | apply below_alloc | apply pw_below_drewN | apply below_drew1) | exact HB.out)) hb); clear HB; have HB := n0_; clear n0_; (try clear hb); (try clear hb2); (try clear hk); (try clear hi)))
        go_ret
        exact ⟨by first | rfl | (simp [errW_none, errW_some] <;> rfl) | (simp [*, errW_none, errW_some] <;> rfl), by repeat (first | (with_reducible first | exact HB.out | apply below_alloc | apply pw_below_drewN | apply below_drew1) | exact HB.out)⟩
      · replace c10 := Bool.eq_false_iff.mpr c10
        subst c10
        have H1 : ((resync_Writes.f l0 l2).bind fun bt349 => ((resync_Needed.f l0 l1 l2).bind fun bt353 => (if bt349.2 = 0 then (standbylaw45_ResyncEquals.j1 kj3 l0 l1 l2 bt349.1 bt353.1 (bt353.2 != 0)) else (standbylaw45_ResyncEquals.j1 kj3 l0 l1 l2 bt349.1 bt353.1 true)))) = some r := by rw [if_neg (show ¬ (false = true) by decide)] at H; exact H
        clear H
        have H := H1
        clear H1
        replace H := Option.bind_eq_some_iff.mp H
        obtain ⟨⟨t349, t350⟩, A130, H⟩ := H
        replace H : ((resync_Needed.f l0 l1 l2).bind fun bt353 => (if t350 = 0 then (standbylaw45_ResyncEquals.j1 kj3 l0 l1 l2 t349 bt353.1 (bt353.2 != 0)) else (standbylaw45_ResyncEquals.j1 kj3 l0 l1 l2 t349 bt353.1 true))) = some r := H
        have A13 := Aside0.mk A130
        clear A130
        replace H := Option.bind_eq_some_iff.mp H
        obtain ⟨⟨t353, t354⟩, A140, H⟩ := H
        replace H : (if t350 = 0 then (standbylaw45_ResyncEquals.j1 kj3 l0 l1 l2 t349 t353 (t354 != 0)) else (standbylaw45_ResyncEquals.j1 kj3 l0 l1 l2 t349 t353 true)) = some r := H
        have A14 := Aside0.mk A140
        clear A140
        have HC15 := Aside0.mk H
        clear H
        go_upto_region 5 with (first | ((with_reducible refine gate_callee (f := 16) rfl ?_); refine goesL_ (some 40) rfl rfl Try.func16 (by kernel_rfl) rfl #[.slice A0 l0.length c0, .slice A2 l2.length c2] rfl (by (try simp only [List.map_toArray, List.map_cons, List.map_nil]); first | done | rfl | (simp only [List.length_drop, List.length_take]; rfl)) ?_; (with_reducible refine (resync_Writes.calls _ _ l0 _ _ l2 t349 t350 _ ?side1 ?side2 ?side3 ?side4 A13.out).mono ?_); (case side1 => repeat (first | exact (Kd.C_below HR0.out HB.out) | (with_reducible refine Kd.C_alloc ?_ _) | (with_reducible refine Kd.C_drewN ?_ _) | (with_reducible refine Kd.C_drew ?_))); (case side2 => exact HC0.out); (case side3 => repeat (first | exact (Kd.C_below HR2.out HB.out) | (with_reducible refine Kd.C_alloc ?_ _) | (with_reducible refine Kd.C_drewN ?_ _) | (with_reducible refine Kd.C_drew ?_))); (case side4 => exact HC2.out); rintro e w16 ⟨v351, rfl, ho0, hb⟩; refine ⟨_, rfl, ?_⟩; have n0_ := Aside0.mk (Kd.S_lower ho0 (below_size (by repeat (first | (with_reducible first | exact HB.out | apply below_alloc | apply pw_below_drewN | apply below_drew1) | exact HB.out)))); have n1_ := Aside0.mk (below_step (by repeat (first | (with_reducible first | exact HB.out | apply below_alloc | apply pw_below_drewN | apply below_drew1) | exact HB.out)) hb); clear HB; have HO352 := n0_; have HB := n1_; clear n0_ n1_; (try clear hb); (try clear hb2); (try clear hk); (try clear hi); (try clear ho0)) | ((with_reducible refine gate_callee (f := 9) rfl ?_); refine goesL_ (some 47) rfl rfl Try.func9 (by kernel_rfl) rfl #[.slice A0 l0.length c0, .slice A1 l1.length c1, .slice A2 l2.length c2] rfl (by (try simp only [List.map_toArray, List.map_cons, List.map_nil]); first | done | rfl | (simp only [List.length_drop, List.length_take]; rfl)) ?_; (with_reducible refine (resync_Needed.calls _ _ l0 _ _ l1 _ _ l2 t353 t354 _ ?side1 ?side2 ?side3 ?side4 ?side5 ?side6 A14.out).mono ?_); (case side1 => repeat (first | exact (Kd.C_below HR0.out HB.out) | (with_reducible refine Kd.C_alloc ?_ _) | (with_reducible refine Kd.C_drewN ?_ _) | (with_reducible refine Kd.C_drew ?_))); (case side2 => exact HC0.out); (case side3 => repeat (first | exact (Kd.C_below HR1.out HB.out) | (with_reducible refine Kd.C_alloc ?_ _) | (with_reducible refine Kd.C_drewN ?_ _) | (with_reducible refine Kd.C_drew ?_))); (case side4 => exact HC1.out); (case side5 => repeat (first | exact (Kd.C_below HR2.out HB.out) | (with_reducible refine Kd.C_alloc ?_ _) | (with_reducible refine Kd.C_drewN ?_ _) | (with_reducible refine Kd.C_drew ?_))); (case side6 => exact HC2.out); rintro e w17 ⟨v355, rfl, ho0, hb⟩; refine ⟨_, rfl, ?_⟩; have n0_ := Aside0.mk (Kd.S_below (by (with_reducible repeat (first | apply Kd.S_alloc | apply Kd.S_drewN | apply Kd.S_drew)); exact HO352.out) hb); have n1_ := Aside0.mk (Kd.S_lower ho0 (below_size (by repeat (first | (with_reducible first | exact HB.out | apply below_alloc | apply pw_below_drewN | apply below_drew1) | exact HB.out)))); have n2_ := Aside0.mk (below_step (by repeat (first | (with_reducible first | exact HB.out | apply below_alloc | apply pw_below_drewN | apply below_drew1) | exact HB.out)) hb); clear HO352; clear HB; have HO352 := n0_; have HO356 := n1_; have HB := n2_; clear n0_ n1_ n2_; (try clear hb); (try clear hb2); (try clear hk); (try clear hi); (try clear ho0)))
        (try simp only [Act.put, List.setIfInBounds_toArray, List.set_cons_zero, List.set_cons_succ])
        go_cut [55] (fun v55 wc => ∃ (kq : Nat) (x55_14 : Bool), v55 = .bool x55_14 ∧ Aside0 (standbylaw45_ResyncEquals.j1 kq l0 l1 l2 t349 t353 x55_14 = some r) ∧ Aside0 (kq ≤ kj3) ∧ Aside0 (Kd.S k57 57 wc w.heap.size (fun _ => True) v351 t349) ∧ Aside0 (Kd.S (Kd.slice 54 k54) 50 wc w.heap.size (fun _ => True) v355 t353) ∧ Aside0 (Below w.heap.size w wc))
        case first =>
          have H := HC15.out
          clear HC15
          by_cases c18 : t350 = 0
          · rw [if_pos c18] at H
            have c18b0 : (t350 == 0) = true := beq_iff_eq.mpr c18
            have c18b1 : (t350 != 0) = false := bne_eq_false_iff_eq.mpr c18
            clear c18
            (first | rw [c18b0] | (simp only [i64_w, i32_w]; rw [c18b0]) | skip)
            have H' := Aside0.mk H
            clear H
            go_wp2
            go_meet
            case rel => exact ⟨_, ((t354 != 0)), (by first | rfl | (simp; done) | (simp [*]; done)), H', ⟨by have := HJ3.out; first | omega | exact Nat.le_refl _⟩, ⟨by (with_reducible repeat (first | apply Kd.S_alloc | apply Kd.S_drewN | apply Kd.S_drew)); exact HO352.out⟩, ⟨by (with_reducible repeat (first | apply Kd.S_alloc | apply Kd.S_drewN | apply Kd.S_drew)); exact HO356.out⟩, ⟨by repeat (first | (with_reducible first | exact HB.out | apply below_alloc | apply pw_below_drewN | apply below_drew1) | exact HB.out)⟩⟩
          · rw [if_neg c18] at H
            have c18b0 : (t350 == 0) = false := beq_eq_false_iff_ne.mpr c18
            have c18b1 : (t350 != 0) = true := bne_iff_ne.mpr c18
            (first | rw [c18b0] | (simp only [i64_w, i32_w]; rw [c18b0]) | skip)
            have H' := Aside0.mk H
            clear H
            go_wp2
            go_meet
            case rel => exact ⟨_, (true), (by first | rfl | (simp; done) | (simp [*]; done)), H', ⟨by have := HJ3.out; first | omega | exact Nat.le_refl _⟩, ⟨by (with_reducible repeat (first | apply Kd.S_alloc | apply Kd.S_drewN | apply Kd.S_drew)); exact HO352.out⟩, ⟨by (with_reducible repeat (first | apply Kd.S_alloc | apply Kd.S_drewN | apply Kd.S_drew)); exact HO356.out⟩, ⟨by repeat (first | (with_reducible first | exact HB.out | apply below_alloc | apply pw_below_drewN | apply below_drew1) | exact HB.out)⟩⟩
        case rest =>
          clear HC15
          try clear c1
          try clear c2
          try clear p2
          try clear c5
          try clear c6
          try clear c8
          try clear c9
          try clear c10
          try clear c16
          try clear c18
          try clear c18b0
          try clear c18b1
          try clear p2
          obtain ⟨kq, x55_14, rfl, HA, HJ14, HO_7, HO_9, HB⟩ := hcut
          cases kq with
          | zero => exact absurd HA.out (by simp [standbylaw45_ResyncEquals.j1])
          | succ kj14 =>
            have H := HA.out
            clear HA
            simp only [standbylaw45_ResyncEquals.j1] at H
            by_cases c19 : x55_14 = true
            · subst c19
              have H1 : ((standbylaw45_awake.f kj14).bind fun t357 => (some t357)) = some r := by rw [if_pos rfl] at H; exact H
              clear H
              have H := H1
              clear H1
              replace H := Option.bind_eq_some_iff.mp H
              obtain ⟨t357, A200, H⟩ := H
              replace H : (some t357) = some r := H
              have A20 := Aside0.mk A200
              clear A200
              obtain rfl := Option.some.inj H
              go_wp2_with (first | ((with_reducible refine gate_callee (f := 8) rfl ?_); refine goesL_ (some 56) rfl rfl Try.func8 (by kernel_rfl) rfl #[] rfl (by (try simp only [List.map_toArray, List.map_cons, List.map_nil]); first | done | rfl | (simp only [List.length_drop, List.length_take]; rfl)) ?_; (with_reducible refine (standbylaw45_awake.calls kj14  t357 _ A20.out).mono ?_); rintro e w21 ⟨rfl, hb⟩; refine ⟨_, rfl, ?_⟩; have n0_ := Aside0.mk (Kd.S_below (by (with_reducible repeat (first | apply Kd.S_alloc | apply Kd.S_drewN | apply Kd.S_drew)); exact HO_7.out) hb); have n1_ := Aside0.mk (Kd.S_below (by (with_reducible repeat (first | apply Kd.S_alloc | apply Kd.S_drewN | apply Kd.S_drew)); exact HO_9.out) hb); have n2_ := Aside0.mk (below_step (by repeat (first | (with_reducible first | exact HB.out | apply below_alloc | apply pw_below_drewN | apply below_drew1) | exact HB.out)) hb); clear HO_7; clear HO_9; clear HB; have HO_7 := n0_; have HO_9 := n1_; have HB := n2_; clear n0_ n1_ n2_; (try clear hb); (try clear hb2); (try clear hk); (try clear hi)))
              go_ret
              exact ⟨by first | rfl | (simp [errW_none, errW_some] <;> rfl) | (simp [*, errW_none, errW_some] <;> rfl), by repeat (first | (with_reducible first | exact HB.out | apply below_alloc | apply pw_below_drewN | apply below_drew1) | exact HB.out)⟩
            · replace c19 := Bool.eq_false_iff.mpr c19
              subst c19
              have H1 : ((resync_Writes.f l0 t353).bind fun bt358 => (if bt358.2 = 0 then ((standbylaw45_differing.f kj14 l0 l1 l2).bind fun bt362 => ((image_Apply.f l1 t349).bind fun bt364 => ((image_Apply.f l1 bt358.1).bind fun bt369 => ((resync_Exact.f l0 l1 t353).bind fun bt374 => (if bt364.2.2 = 0 then (if bt369.2.2 = 0 then (if bt374.2 = 0 then (if (bt374.1 != (bt362.2 == 0)) = true then (standbylaw45_ResyncEquals.j2 kj14 l2 t353 bt358.1 bt362.1 bt362.2 true) else ((standbyref07_Same.f kj14 bt364.1 bt369.1).bind fun t376 => (if t376 = true then ((standbyref07_Same.f kj14 bt364.1 l0).bind fun t377 => (standbylaw45_ResyncEquals.j2 kj14 l2 t353 bt358.1 bt362.1 bt362.2 (t377 != (bt362.2 == 0)))) else (standbylaw45_ResyncEquals.j2 kj14 l2 t353 bt358.1 bt362.1 bt362.2 true)))) else (standbylaw45_ResyncEquals.j2 kj14 l2 t353 bt358.1 bt362.1 bt362.2 true)) else (standbylaw45_ResyncEquals.j2 kj14 l2 t353 bt358.1 bt362.1 bt362.2 true)) else (standbylaw45_ResyncEquals.j2 kj14 l2 t353 bt358.1 bt362.1 bt362.2 true)))))) else (some false))) = some r := by rw [if_neg (show ¬ (false = true) by decide)] at H; exact H
              clear H
              have H := H1
              clear H1
              replace H := Option.bind_eq_some_iff.mp H
              obtain ⟨⟨t358, t359⟩, A220, H⟩ := H
              replace H : (if t359 = 0 then ((standbylaw45_differing.f kj14 l0 l1 l2).bind fun bt362 => ((image_Apply.f l1 t349).bind fun bt364 => ((image_Apply.f l1 t358).bind fun bt369 => ((resync_Exact.f l0 l1 t353).bind fun bt374 => (if bt364.2.2 = 0 then (if bt369.2.2 = 0 then (if bt374.2 = 0 then (if (bt374.1 != (bt362.2 == 0)) = true then (standbylaw45_ResyncEquals.j2 kj14 l2 t353 t358 bt362.1 bt362.2 true) else ((standbyref07_Same.f kj14 bt364.1 bt369.1).bind fun t376 => (if t376 = true then ((standbyref07_Same.f kj14 bt364.1 l0).bind fun t377 => (standbylaw45_ResyncEquals.j2 kj14 l2 t353 t358 bt362.1 bt362.2 (t377 != (bt362.2 == 0)))) else (standbylaw45_ResyncEquals.j2 kj14 l2 t353 t358 bt362.1 bt362.2 true)))) else (standbylaw45_ResyncEquals.j2 kj14 l2 t353 t358 bt362.1 bt362.2 true)) else (standbylaw45_ResyncEquals.j2 kj14 l2 t353 t358 bt362.1 bt362.2 true)) else (standbylaw45_ResyncEquals.j2 kj14 l2 t353 t358 bt362.1 bt362.2 true)))))) else (some false)) = some r := H
              have A22 := Aside0.mk A220
              clear A220
              by_cases c23 : t359 = 0
              · rw [if_pos c23] at H
                have c23b0 : (t359 == 0) = true := beq_iff_eq.mpr c23
                have c23b1 : (t359 != 0) = false := bne_eq_false_iff_eq.mpr c23
                clear c23
                replace H := Option.bind_eq_some_iff.mp H
                obtain ⟨⟨t362, t363⟩, A240, H⟩ := H
                replace H : ((image_Apply.f l1 t349).bind fun bt364 => ((image_Apply.f l1 t358).bind fun bt369 => ((resync_Exact.f l0 l1 t353).bind fun bt374 => (if bt364.2.2 = 0 then (if bt369.2.2 = 0 then (if bt374.2 = 0 then (if (bt374.1 != (t363 == 0)) = true then (standbylaw45_ResyncEquals.j2 kj14 l2 t353 t358 t362 t363 true) else ((standbyref07_Same.f kj14 bt364.1 bt369.1).bind fun t376 => (if t376 = true then ((standbyref07_Same.f kj14 bt364.1 l0).bind fun t377 => (standbylaw45_ResyncEquals.j2 kj14 l2 t353 t358 t362 t363 (t377 != (t363 == 0)))) else (standbylaw45_ResyncEquals.j2 kj14 l2 t353 t358 t362 t363 true)))) else (standbylaw45_ResyncEquals.j2 kj14 l2 t353 t358 t362 t363 true)) else (standbylaw45_ResyncEquals.j2 kj14 l2 t353 t358 t362 t363 true)) else (standbylaw45_ResyncEquals.j2 kj14 l2 t353 t358 t362 t363 true))))) = some r := H
                have A24 := Aside0.mk A240
                clear A240
                replace H := Option.bind_eq_some_iff.mp H
                obtain ⟨⟨t364, t365, t366⟩, A250, H⟩ := H
                replace H : ((image_Apply.f l1 t358).bind fun bt369 => ((resync_Exact.f l0 l1 t353).bind fun bt374 => (if t366 = 0 then (if bt369.2.2 = 0 then (if bt374.2 = 0 then (if (bt374.1 != (t363 == 0)) = true then (standbylaw45_ResyncEquals.j2 kj14 l2 t353 t358 t362 t363 true) else ((standbyref07_Same.f kj14 t364 bt369.1).bind fun t376 => (if t376 = true then ((standbyref07_Same.f kj14 t364 l0).bind fun t377 => (standbylaw45_ResyncEquals.j2 kj14 l2 t353 t358 t362 t363 (t377 != (t363 == 0)))) else (standbylaw45_ResyncEquals.j2 kj14 l2 t353 t358 t362 t363 true)))) else (standbylaw45_ResyncEquals.j2 kj14 l2 t353 t358 t362 t363 true)) else (standbylaw45_ResyncEquals.j2 kj14 l2 t353 t358 t362 t363 true)) else (standbylaw45_ResyncEquals.j2 kj14 l2 t353 t358 t362 t363 true)))) = some r := H
                have A25 := Aside0.mk A250
                clear A250
                replace H := Option.bind_eq_some_iff.mp H
                obtain ⟨⟨t369, t370, t371⟩, A260, H⟩ := H
                replace H : ((resync_Exact.f l0 l1 t353).bind fun bt374 => (if t366 = 0 then (if t371 = 0 then (if bt374.2 = 0 then (if (bt374.1 != (t363 == 0)) = true then (standbylaw45_ResyncEquals.j2 kj14 l2 t353 t358 t362 t363 true) else ((standbyref07_Same.f kj14 t364 t369).bind fun t376 => (if t376 = true then ((standbyref07_Same.f kj14 t364 l0).bind fun t377 => (standbylaw45_ResyncEquals.j2 kj14 l2 t353 t358 t362 t363 (t377 != (t363 == 0)))) else (standbylaw45_ResyncEquals.j2 kj14 l2 t353 t358 t362 t363 true)))) else (standbylaw45_ResyncEquals.j2 kj14 l2 t353 t358 t362 t363 true)) else (standbylaw45_ResyncEquals.j2 kj14 l2 t353 t358 t362 t363 true)) else (standbylaw45_ResyncEquals.j2 kj14 l2 t353 t358 t362 t363 true))) = some r := H
                have A26 := Aside0.mk A260
                clear A260
                replace H := Option.bind_eq_some_iff.mp H
                obtain ⟨⟨t374, t375⟩, A270, H⟩ := H
                replace H : (if t366 = 0 then (if t371 = 0 then (if t375 = 0 then (if (t374 != (t363 == 0)) = true then (standbylaw45_ResyncEquals.j2 kj14 l2 t353 t358 t362 t363 true) else ((standbyref07_Same.f kj14 t364 t369).bind fun t376 => (if t376 = true then ((standbyref07_Same.f kj14 t364 l0).bind fun t377 => (standbylaw45_ResyncEquals.j2 kj14 l2 t353 t358 t362 t363 (t377 != (t363 == 0)))) else (standbylaw45_ResyncEquals.j2 kj14 l2 t353 t358 t362 t363 true)))) else (standbylaw45_ResyncEquals.j2 kj14 l2 t353 t358 t362 t363 true)) else (standbylaw45_ResyncEquals.j2 kj14 l2 t353 t358 t362 t363 true)) else (standbylaw45_ResyncEquals.j2 kj14 l2 t353 t358 t362 t363 true)) = some r := H
                have A27 := Aside0.mk A270
                clear A270
                have HC28 := Aside0.mk H
                clear H
                obtain ⟨Ao29, co29, eo29⟩ := Kd.S_slice HO_9.out
                subst eo29
                go_upto_region 14 with (first | ((with_reducible refine gate_callee (f := 16) rfl ?_); refine goesL_ (some 60) rfl rfl Try.func16 (by kernel_rfl) rfl #[.slice A0 l0.length c0, .slice Ao29 t353.length co29] rfl (by (try simp only [List.map_toArray, List.map_cons, List.map_nil]); first | done | rfl | (simp only [List.length_drop, List.length_take]; rfl)) ?_; (with_reducible refine (resync_Writes.calls _ _ l0 _ _ t353 t358 t359 _ ?side1 ?side2 ?side3 ?side4 A22.out).mono ?_); (case side1 => repeat (first | exact (Kd.C_below HR0.out HB.out) | (with_reducible refine Kd.C_alloc ?_ _) | (with_reducible refine Kd.C_drewN ?_ _) | (with_reducible refine Kd.C_drew ?_))); (case side2 => exact HC0.out); (case side3 => repeat (first | exact (Kd.S_reads' HO_9.out).2.2 | (with_reducible refine Kd.C_alloc ?_ _) | (with_reducible refine Kd.C_drewN ?_ _) | (with_reducible refine Kd.C_drew ?_))); (case side4 => exact (Kd.S_reads' HO_9.out).2.1); rintro e w30 ⟨v360, rfl, ho0, hb⟩; refine ⟨_, rfl, ?_⟩; have n0_ := Aside0.mk (Kd.S_elder' (by (with_reducible repeat (first | apply Kd.S_alloc | apply Kd.S_drewN | apply Kd.S_drew)); exact HO_7.out) (Kd.S_base ho0) hb); have n1_ := Aside0.mk (Kd.S_below (by (with_reducible repeat (first | apply Kd.S_alloc | apply Kd.S_drewN | apply Kd.S_drew)); exact HO_9.out) hb); have n2_ := Aside0.mk (Kd.S_lower (Kd.S_new' ho0 (Kd.S_lt (by (with_reducible repeat (first | apply Kd.S_alloc | apply Kd.S_drewN | apply Kd.S_drew)); exact HO_7.out))) (below_size (by repeat (first | (with_reducible first | exact HB.out | apply below_alloc | apply pw_below_drewN | apply below_drew1) | exact HB.out)))); have n3_ := Aside0.mk (below_step (by repeat (first | (with_reducible first | exact HB.out | apply below_alloc | apply pw_below_drewN | apply below_drew1) | exact HB.out)) hb); clear HO_7; clear HO_9; clear HB; have HO_7 := n0_; have HO_9 := n1_; have HO361 := n2_; have HB := n3_; clear n0_ n1_ n2_ n3_; (try clear hb); (try clear hb2); (try clear hk); (try clear hi); (try clear ho0)) | ((with_reducible refine gate_callee (f := 17) rfl ?_); refine goesL_ (some 69) rfl rfl Try.func17 (by kernel_rfl) rfl #[.slice A0 l0.length c0, .slice A1 l1.length c1, .slice A2 l2.length c2] rfl (by (try simp only [List.map_toArray, List.map_cons, List.map_nil]); first | done | rfl | (simp only [List.length_drop, List.length_take]; rfl)) ?_; (with_reducible refine (standbylaw45_differing.calls kj14 _ _ l0 _ _ l1 _ _ l2 t362 t363 _ ?side1 ?side2 ?side3 ?side4 ?side5 ?side6 A24.out).mono ?_); (case side1 => repeat (first | exact (Kd.C_below HR0.out HB.out) | (with_reducible refine Kd.C_alloc ?_ _) | (with_reducible refine Kd.C_drewN ?_ _) | (with_reducible refine Kd.C_drew ?_))); (case side2 => exact HC0.out); (case side3 => repeat (first | exact (Kd.C_below HR1.out HB.out) | (with_reducible refine Kd.C_alloc ?_ _) | (with_reducible refine Kd.C_drewN ?_ _) | (with_reducible refine Kd.C_drew ?_))); (case side4 => exact HC1.out); (case side5 => repeat (first | exact (Kd.C_below HR2.out HB.out) | (with_reducible refine Kd.C_alloc ?_ _) | (with_reducible refine Kd.C_drewN ?_ _) | (with_reducible refine Kd.C_drew ?_))); (case side6 => exact HC2.out); rintro e w31 ⟨rfl, hb⟩; refine ⟨_, rfl, ?_⟩; have n0_ := Aside0.mk (Kd.S_below (by (with_reducible repeat (first | apply Kd.S_alloc | apply Kd.S_drewN | apply Kd.S_drew)); exact HO_7.out) hb); have n1_ := Aside0.mk (Kd.S_below (by (with_reducible repeat (first | apply Kd.S_alloc | apply Kd.S_drewN | apply Kd.S_drew)); exact HO_9.out) hb); have n2_ := Aside0.mk (Kd.S_below (by (with_reducible repeat (first | apply Kd.S_alloc | apply Kd.S_drewN | apply Kd.S_drew)); exact HO361.out) hb); have n3_ := Aside0.mk (below_step (by repeat (first | (with_reducible first | exact HB.out | apply below_alloc | apply pw_below_drewN | apply below_drew1) | exact HB.out)) hb); clear HO_7; clear HO_9; clear HO361; clear HB; have HO_7 := n0_; have HO_9 := n1_; have HO361 := n2_; have HB := n3_; clear n0_ n1_ n2_ n3_; (try clear hb); (try clear hb2); (try clear hk); (try clear hi); obtain ⟨Ao32, co32, eo32⟩ := Kd.S_slice HO_7.out; subst eo32) | ((with_reducible refine gate_callee (f := 18) rfl ?_); refine goesL_ (some 75) rfl rfl Try.func18 (by kernel_rfl) rfl #[.slice A1 l1.length c1, .slice Ao32 t349.length co32] rfl (by (try simp only [List.map_toArray, List.map_cons, List.map_nil]); first | done | rfl | (simp only [List.length_drop, List.length_take]; rfl)) ?_; (with_reducible refine (image_Apply.calls _ _ l1 _ _ t349 t364 t365 t366 _ ?side1 ?side2 ?side3 ?side4 A25.out).mono ?_); (case side1 => repeat (first | exact (Kd.C_below HR1.out HB.out) | (with_reducible refine Kd.C_alloc ?_ _) | (with_reducible refine Kd.C_drewN ?_ _) | (with_reducible refine Kd.C_drew ?_))); (case side2 => exact HC1.out); (case side3 => repeat (first | exact (Kd.S_reads' HO_7.out).2.2 | (with_reducible refine Kd.C_alloc ?_ _) | (with_reducible refine Kd.C_drewN ?_ _) | (with_reducible refine Kd.C_drew ?_))); (case side4 => exact (Kd.S_reads' HO_7.out).2.1); rintro e w33 ⟨v367, rfl, ho0, hb⟩; refine ⟨_, rfl, ?_⟩; have n0_ := Aside0.mk (Kd.S_below (by (with_reducible repeat (first | apply Kd.S_alloc | apply Kd.S_drewN | apply Kd.S_drew)); exact HO_7.out) hb); have n1_ := Aside0.mk (Kd.S_below (by (with_reducible repeat (first | apply Kd.S_alloc | apply Kd.S_drewN | apply Kd.S_drew)); exact HO_9.out) hb); have n2_ := Aside0.mk (Kd.S_below (by (with_reducible repeat (first | apply Kd.S_alloc | apply Kd.S_drewN | apply Kd.S_drew)); exact HO361.out) hb); have n3_ := Aside0.mk (Kd.S_lower ho0 (below_size (by repeat (first | (with_reducible first | exact HB.out | apply below_alloc | apply pw_below_drewN | apply below_drew1) | exact HB.out)))); have n4_ := Aside0.mk (below_step (by repeat (first | (with_reducible first | exact HB.out | apply below_alloc | apply pw_below_drewN | apply below_drew1) | exact HB.out)) hb); clear HO_7; clear HO_9; clear HO361; clear HB; have HO_7 := n0_; have HO_9 := n1_; have HO361 := n2_; have HO368 := n3_; have HB := n4_; clear n0_ n1_ n2_ n3_ n4_; (try clear hb); (try clear hb2); (try clear hk); (try clear hi); (try clear ho0); obtain ⟨Ao34, co34, eo34⟩ := Kd.S_slice HO361.out; subst eo34) | ((with_reducible refine gate_callee (f := 18) rfl ?_); refine goesL_ (some 82) rfl rfl Try.func18 (by kernel_rfl) rfl #[.slice A1 l1.length c1, .slice Ao34 t358.length co34] rfl (by (try simp only [List.map_toArray, List.map_cons, List.map_nil]); first | done | rfl | (simp only [List.length_drop, List.length_take]; rfl)) ?_; (with_reducible refine (image_Apply.calls _ _ l1 _ _ t358 t369 t370 t371 _ ?side1 ?side2 ?side3 ?side4 A26.out).mono ?_); (case side1 => repeat (first | exact (Kd.C_below HR1.out HB.out) | (with_reducible refine Kd.C_alloc ?_ _) | (with_reducible refine Kd.C_drewN ?_ _) | (with_reducible refine Kd.C_drew ?_))); (case side2 => exact HC1.out); (case side3 => repeat (first | exact (Kd.S_reads' HO361.out).2.2 | (with_reducible refine Kd.C_alloc ?_ _) | (with_reducible refine Kd.C_drewN ?_ _) | (with_reducible refine Kd.C_drew ?_))); (case side4 => exact (Kd.S_reads' HO361.out).2.1); rintro e w35 ⟨v372, rfl, ho0, hb⟩; refine ⟨_, rfl, ?_⟩; have n0_ := Aside0.mk (Kd.S_below (by (with_reducible repeat (first | apply Kd.S_alloc | apply Kd.S_drewN | apply Kd.S_drew)); exact HO_7.out) hb); have n1_ := Aside0.mk (Kd.S_below (by (with_reducible repeat (first | apply Kd.S_alloc | apply Kd.S_drewN | apply Kd.S_drew)); exact HO_9.out) hb); have n2_ := Aside0.mk (Kd.S_below (by (with_reducible repeat (first | apply Kd.S_alloc | apply Kd.S_drewN | apply Kd.S_drew)); exact HO361.out) hb); have n3_ := Aside0.mk (Kd.S_elder' (by (with_reducible repeat (first | apply Kd.S_alloc | apply Kd.S_drewN | apply Kd.S_drew)); exact HO368.out) (Kd.S_base ho0) hb); have n4_ := Aside0.mk (Kd.S_lower (Kd.S_new' ho0 (Kd.S_lt (by (with_reducible repeat (first | apply Kd.S_alloc | apply Kd.S_drewN | apply Kd.S_drew)); exact HO368.out))) (below_size (by repeat (first | (with_reducible first | exact HB.out | apply below_alloc | apply pw_below_drewN | apply below_drew1) | exact HB.out)))); have n5_ := Aside0.mk (below_step (by repeat (first | (with_reducible first | exact HB.out | apply below_alloc | apply pw_below_drewN | apply below_drew1) | exact HB.out)) hb); clear HO_7; clear HO_9; clear HO361; clear HO368; clear HB; have HO_7 := n0_; have HO_9 := n1_; have HO361 := n2_; have HO368 := n3_; have HO373 := n4_; have HB := n5_; clear n0_ n1_ n2_ n3_ n4_ n5_; (try clear hb); (try clear hb2); (try clear hk); (try clear hi); (try clear ho0)) | ((with_reducible refine gate_callee (f := 11) rfl ?_); refine goesL_ (some 90) rfl rfl Try.func11 (by kernel_rfl) rfl #[.slice A0 l0.length c0, .slice A1 l1.length c1, .slice Ao29 t353.length co29] rfl (by (try simp only [List.map_toArray, List.map_cons, List.map_nil]); first | done | rfl | (simp only [List.length_drop, List.length_take]; rfl)) ?_; (with_reducible refine (resync_Exact.calls _ _ l0 _ _ l1 _ _ t353 t374 t375 _ ?side1 ?side2 ?side3 ?side4 ?side5 ?side6 A27.out).mono ?_); (case side1 => repeat (first | exact (Kd.C_below HR0.out HB.out) | (with_reducible refine Kd.C_alloc ?_ _) | (with_reducible refine Kd.C_drewN ?_ _) | (with_reducible refine Kd.C_drew ?_))); (case side2 => exact HC0.out); (case side3 => repeat (first | exact (Kd.C_below HR1.out HB.out) | (with_reducible refine Kd.C_alloc ?_ _) | (with_reducible refine Kd.C_drewN ?_ _) | (with_reducible refine Kd.C_drew ?_))); (case side4 => exact HC1.out); (case side5 => repeat (first | exact (Kd.S_reads' HO_9.out).2.2 | (with_reducible refine Kd.C_alloc ?_ _) | (with_reducible refine Kd.C_drewN ?_ _) | (with_reducible refine Kd.C_drew ?_))); (case side6 => exact (Kd.S_reads' HO_9.out).2.1); rintro e w36 ⟨rfl, hb⟩; refine ⟨_, rfl, ?_⟩; have n0_ := Aside0.mk (Kd.S_below (by (with_reducible repeat (first | apply Kd.S_alloc | apply Kd.S_drewN | apply Kd.S_drew)); exact HO_7.out) hb); have n1_ := Aside0.mk (Kd.S_below (by (with_reducible repeat (first | apply Kd.S_alloc | apply Kd.S_drewN | apply Kd.S_drew)); exact HO_9.out) hb); have n2_ := Aside0.mk (Kd.S_below (by (with_reducible repeat (first | apply Kd.S_alloc | apply Kd.S_drewN | apply Kd.S_drew)); exact HO361.out) hb); have n3_ := Aside0.mk (Kd.S_below (by (with_reducible repeat (first | apply Kd.S_alloc | apply Kd.S_drewN | apply Kd.S_drew)); exact HO368.out) hb); have n4_ := Aside0.mk (Kd.S_below (by (with_reducible repeat (first | apply Kd.S_alloc | apply Kd.S_drewN | apply Kd.S_drew)); exact HO373.out) hb); have n5_ := Aside0.mk (below_step (by repeat (first | (with_reducible first | exact HB.out | apply below_alloc | apply pw_below_drewN | apply below_drew1) | exact HB.out)) hb); clear HO_7; clear HO_9; clear HO361; clear HO368; clear HO373; clear HB; have HO_7 := n0_; have HO_9 := n1_; have HO361 := n2_; have HO368 := n3_; have HO373 := n4_; have HB := n5_; clear n0_ n1_ n2_ n3_ n4_ n5_; (try clear hb); (try clear hb2); (try clear hk); (try clear hi)))
                (try simp only [Act.put, List.setIfInBounds_toArray, List.set_cons_zero, List.set_cons_succ])
                go_cut [122] (fun v122 wc => ∃ (kq : Nat) (x122_27 : Bool), v122 = .bool x122_27 ∧ Aside0 (standbylaw45_ResyncEquals.j2 kq l2 t353 t358 t362 t363 x122_27 = some r) ∧ Aside0 (kq ≤ kj14) ∧ Aside0 (Kd.S (Kd.slice 54 k54) 50 wc w.heap.size (fun _ => True) (.slice Ao29 t353.length co29) t353) ∧ Aside0 (Kd.S k57 57 wc w.heap.size (fun _ => True) (.slice Ao34 t358.length co34) t358) ∧ Aside0 (Below w.heap.size w wc))
                case first =>
                  have H := HC28.out
                  clear HC28
                  by_cases c37 : t366 = 0
                  · rw [if_pos c37] at H
                    have c37b0 : (t366 == 0) = true := beq_iff_eq.mpr c37
                    have c37b1 : (t366 != 0) = false := bne_eq_false_iff_eq.mpr c37
                    clear c37
                    (first | rw [c37b0] | (simp only [i64_w, i32_w]; rw [c37b0]) | skip)
                    by_cases c38 : t371 = 0
                    · rw [if_pos c38] at H
                      have c38b0 : (t371 == 0) = true := beq_iff_eq.mpr c38
                      have c38b1 : (t371 != 0) = false := bne_eq_false_iff_eq.mpr c38
                      clear c38
                      by_cases c39 : t375 = 0
                      · rw [if_pos c39] at H
                        have c39b0 : (t375 == 0) = true := beq_iff_eq.mpr c39
                        have c39b1 : (t375 != 0) = false := bne_eq_false_iff_eq.mpr c39
                        clear c39
                        by_cases c40 : (t374 != (t363 == 0)) = true
                        · rw [if_pos c40] at H
                          have c40b0 : (t374 != (t363 == 0)) = true := c40
                          (try (have c40b1 : decide (t374 = (t363 == 0)) = false := by simpa using c40))
                          (try (have c40b2 : (t374 == (t363 == 0)) = false := by simpa using c40))
                          (try (have c40b3 : ¬ (t374 = (t363 == 0)) := by simpa using c40))
                          clear c40
                          have H' := Aside0.mk H
                          clear H
                          go_wp2
                          go_meet
                          case rel => exact ⟨_, (true), (by first | rfl | (simp; done) | (simp [*]; done)), H', ⟨by have := HJ3.out; have := HJ14.out; first | omega | exact Nat.le_refl _⟩, ⟨by (with_reducible repeat (first | apply Kd.S_alloc | apply Kd.S_drewN | apply Kd.S_drew)); exact HO_9.out⟩, ⟨by (with_reducible repeat (first | apply Kd.S_alloc | apply Kd.S_drewN | apply Kd.S_drew)); exact Kd.S_mono HO361.out (fun _ hk => trivial)⟩, ⟨by repeat (first | (with_reducible first | exact HB.out | apply below_alloc | apply pw_below_drewN | apply below_drew1) | exact HB.out)⟩⟩
                        · rw [if_neg c40] at H
                          have c40b0 : (t374 != (t363 == 0)) = false := by simpa using c40
                          (try (have c40b1 : decide (t374 = (t363 == 0)) = true := by simpa using c40))
                          (try (have c40b2 : (t374 == (t363 == 0)) = true := by simpa using c40))
                          clear c40
                          replace H := Option.bind_eq_some_iff.mp H
                          obtain ⟨t376, A410, H⟩ := H
                          replace H : (if t376 = true then ((standbyref07_Same.f kj14 t364 l0).bind fun t377 => (standbylaw45_ResyncEquals.j2 kj14 l2 t353 t358 t362 t363 (t377 != (t363 == 0)))) else (standbylaw45_ResyncEquals.j2 kj14 l2 t353 t358 t362 t363 true)) = some r := H
                          have A41 := Aside0.mk A410
                          clear A410
                          by_cases c42 : t376 = true
                          · subst c42
                            have H1 : ((standbyref07_Same.f kj14 t364 l0).bind fun t377 => (standbylaw45_ResyncEquals.j2 kj14 l2 t353 t358 t362 t363 (t377 != (t363 == 0)))) = some r := by rw [if_pos rfl] at H; exact H
                            clear H
                            have H := H1
                            clear H1
                            replace H := Option.bind_eq_some_iff.mp H
                            obtain ⟨t377, A430, H⟩ := H
                            replace H : (standbylaw45_ResyncEquals.j2 kj14 l2 t353 t358 t362 t363 (t377 != (t363 == 0))) = some r := H
                            have A43 := Aside0.mk A430
                            clear A430
                            have H' := Aside0.mk H
                            clear H
                            obtain ⟨Ao44, co44, eo44⟩ := Kd.S_slice HO368.out
                            subst eo44
                            obtain ⟨Ao45, co45, eo45⟩ := Kd.S_slice HO373.out
                            subst eo45
                            go_wp2_with (first | (go_at_call 19; (with_reducible refine (standbyref07_Same.calls kj14 _ _ t364 _ _ t369 true _ ?side1 ?side2 ?side3 ?side4 A41.out).mono ?_); (case side1 => repeat (first | exact (Kd.S_reads' HO368.out).2.2 | (with_reducible refine Kd.C_alloc ?_ _) | (with_reducible refine Kd.C_drewN ?_ _) | (with_reducible refine Kd.C_drew ?_))); (case side2 => exact (Kd.S_reads' HO368.out).2.1); (case side3 => repeat (first | exact (Kd.S_reads' HO373.out).2.2 | (with_reducible refine Kd.C_alloc ?_ _) | (with_reducible refine Kd.C_drewN ?_ _) | (with_reducible refine Kd.C_drew ?_))); (case side4 => exact (Kd.S_reads' HO373.out).2.1); rintro e w' ⟨rfl, ⟨nd, rfl⟩⟩) | (go_at_call 19; (with_reducible refine (standbyref07_Same.calls kj14 _ _ t364 _ _ l0 t377 _ ?side1 ?side2 ?side3 ?side4 A43.out).mono ?_); (case side1 => repeat (first | exact (Kd.S_reads' HO368.out).2.2 | (with_reducible refine Kd.C_alloc ?_ _) | (with_reducible refine Kd.C_drewN ?_ _) | (with_reducible refine Kd.C_drew ?_))); (case side2 => exact (Kd.S_reads' HO368.out).2.1); (case side3 => repeat (first | exact (Kd.C_below HR0.out (by repeat (first | (with_reducible first | exact HB.out | apply below_alloc | apply pw_below_drewN | apply below_drew1) | exact HB.out))) | (with_reducible refine Kd.C_alloc ?_ _) | (with_reducible refine Kd.C_drewN ?_ _) | (with_reducible refine Kd.C_drew ?_))); (case side4 => exact HC0.out); rintro e w' ⟨rfl, ⟨nd, rfl⟩⟩))
                            go_meet
                            case rel => exact ⟨_, ((t377 != (t363 == 0))), (by first | rfl | (simp; done) | (simp [*]; done)), H', ⟨by have := HJ3.out; have := HJ14.out; first | omega | exact Nat.le_refl _⟩, ⟨by (with_reducible repeat (first | apply Kd.S_alloc | apply Kd.S_drewN | apply Kd.S_drew)); exact HO_9.out⟩, ⟨by (with_reducible repeat (first | apply Kd.S_alloc | apply Kd.S_drewN | apply Kd.S_drew)); exact Kd.S_mono HO361.out (fun _ hk => trivial)⟩, ⟨by repeat (first | (with_reducible first | exact HB.out | apply below_alloc | apply pw_below_drewN | apply below_drew1) | exact HB.out)⟩⟩
                          · replace c42 := Bool.eq_false_iff.mpr c42
                            subst c42
                            have H1 : (standbylaw45_ResyncEquals.j2 kj14 l2 t353 t358 t362 t363 true) = some r := by rw [if_neg (show ¬ (false = true) by decide)] at H; exact H
                            clear H
                            have H := H1
                            clear H1
                            have H' := Aside0.mk H
                            clear H
                            obtain ⟨Ao46, co46, eo46⟩ := Kd.S_slice HO368.out
                            subst eo46
                            obtain ⟨Ao47, co47, eo47⟩ := Kd.S_slice HO373.out
                            subst eo47
                            go_wp2_with (first | (go_at_call 19; (with_reducible refine (standbyref07_Same.calls kj14 _ _ t364 _ _ t369 false _ ?side1 ?side2 ?side3 ?side4 A41.out).mono ?_); (case side1 => repeat (first | exact (Kd.S_reads' HO368.out).2.2 | (with_reducible refine Kd.C_alloc ?_ _) | (with_reducible refine Kd.C_drewN ?_ _) | (with_reducible refine Kd.C_drew ?_))); (case side2 => exact (Kd.S_reads' HO368.out).2.1); (case side3 => repeat (first | exact (Kd.S_reads' HO373.out).2.2 | (with_reducible refine Kd.C_alloc ?_ _) | (with_reducible refine Kd.C_drewN ?_ _) | (with_reducible refine Kd.C_drew ?_))); (case side4 => exact (Kd.S_reads' HO373.out).2.1); rintro e w' ⟨rfl, ⟨nd, rfl⟩⟩))
                            go_meet
                            case rel => exact ⟨_, (true), (by first | rfl | (simp; done) | (simp [*]; done)), H', ⟨by have := HJ3.out; have := HJ14.out; first | omega | exact Nat.le_refl _⟩, ⟨by (with_reducible repeat (first | apply Kd.S_alloc | apply Kd.S_drewN | apply Kd.S_drew)); exact HO_9.out⟩, ⟨by (with_reducible repeat (first | apply Kd.S_alloc | apply Kd.S_drewN | apply Kd.S_drew)); exact Kd.S_mono HO361.out (fun _ hk => trivial)⟩, ⟨by repeat (first | (with_reducible first | exact HB.out | apply below_alloc | apply pw_below_drewN | apply below_drew1) | exact HB.out)⟩⟩
                      · rw [if_neg c39] at H
                        have c39b0 : (t375 == 0) = false := beq_eq_false_iff_ne.mpr c39
                        have c39b1 : (t375 != 0) = true := bne_iff_ne.mpr c39
                        have H' := Aside0.mk H
                        clear H
                        go_wp2
                        go_meet
                        case rel => exact ⟨_, (true), (by first | rfl | (simp; done) | (simp [*]; done)), H', ⟨by have := HJ3.out; have := HJ14.out; first | omega | exact Nat.le_refl _⟩, ⟨by (with_reducible repeat (first | apply Kd.S_alloc | apply Kd.S_drewN | apply Kd.S_drew)); exact HO_9.out⟩, ⟨by (with_reducible repeat (first | apply Kd.S_alloc | apply Kd.S_drewN | apply Kd.S_drew)); exact Kd.S_mono HO361.out (fun _ hk => trivial)⟩, ⟨by repeat (first | (with_reducible first | exact HB.out | apply below_alloc | apply pw_below_drewN | apply below_drew1) | exact HB.out)⟩⟩
                    · rw [if_neg c38] at H
                      have c38b0 : (t371 == 0) = false := beq_eq_false_iff_ne.mpr c38
                      have c38b1 : (t371 != 0) = true := bne_iff_ne.mpr c38
                      have H' := Aside0.mk H
                      clear H
                      go_wp2
                      go_meet
                      case rel => exact ⟨_, (true), (by first | rfl | (simp; done) | (simp [*]; done)), H', ⟨by have := HJ3.out; have := HJ14.out; first | omega | exact Nat.le_refl _⟩, ⟨by (with_reducible repeat (first | apply Kd.S_alloc | apply Kd.S_drewN | apply Kd.S_drew)); exact HO_9.out⟩, ⟨by (with_reducible repeat (first | apply Kd.S_alloc | apply Kd.S_drewN | apply Kd.S_drew)); exact Kd.S_mono HO361.out (fun _ hk => trivial)⟩, ⟨by repeat (first | (with_reducible first | exact HB.out | apply below_alloc | apply pw_below_drewN | apply below_drew1) | exact HB.out)⟩⟩
                  · rw [if_neg c37] at H
                    have c37b0 : (t366 == 0) = false := beq_eq_false_iff_ne.mpr c37
                    have c37b1 : (t366 != 0) = true := bne_iff_ne.mpr c37
                    (first | rw [c37b0] | (simp only [i64_w, i32_w]; rw [c37b0]) | skip)
                    have H' := Aside0.mk H
                    clear H
                    go_wp2
                    go_meet
                    case rel => exact ⟨_, (true), (by first | rfl | (simp; done) | (simp [*]; done)), H', ⟨by have := HJ3.out; have := HJ14.out; first | omega | exact Nat.le_refl _⟩, ⟨by (with_reducible repeat (first | apply Kd.S_alloc | apply Kd.S_drewN | apply Kd.S_drew)); exact HO_9.out⟩, ⟨by (with_reducible repeat (first | apply Kd.S_alloc | apply Kd.S_drewN | apply Kd.S_drew)); exact Kd.S_mono HO361.out (fun _ hk => trivial)⟩, ⟨by repeat (first | (with_reducible first | exact HB.out | apply below_alloc | apply pw_below_drewN | apply below_drew1) | exact HB.out)⟩⟩
                case rest =>
                  clear HC28
                  try clear c1
                  try clear c2
                  try clear p2
                  try clear c3
                  try clear c4
                  try clear c5
                  try clear c6
                  try clear c8
                  try clear c9
                  try clear c10
                  try clear c11
                  try clear c16
                  try clear c17
                  try clear c18
                  try clear c18b0
                  try clear c18b1
                  try clear c19
                  try clear c23
                  try clear c23b0
                  try clear c23b1
                  try clear c37
                  try clear c37b0
                  try clear c37b1
                  try clear c38
                  try clear c38b0
                  try clear c38b1
                  try clear c39
                  try clear c39b0
                  try clear c39b1
                  try clear c40
                  try clear c40b0
                  try clear c40b1
                  try clear c40b2
                  try clear c42
                  try clear p2
                  obtain ⟨kq, x122_27, rfl, HA, HJ27, HO_9, HO_11, HB⟩ := hcut
                  cases kq with
                  | zero => exact absurd HA.out (by simp [standbylaw45_ResyncEquals.j2])
                  | succ kj27 =>
                    have H := HA.out
                    clear HA
                    simp only [standbylaw45_ResyncEquals.j2] at H
                    by_cases c48 : x122_27 = true
                    · subst c48
                      have H1 : (some false) = some r := by rw [if_pos rfl] at H; exact H
                      clear H
                      have H := H1
                      clear H1
                      obtain rfl := Option.some.inj H
                      go_wp2
                      go_ret
                      exact ⟨by first | rfl | (simp [errW_none, errW_some] <;> rfl) | (simp [*, errW_none, errW_some] <;> rfl), by repeat (first | (with_reducible first | exact HB.out | apply below_alloc | apply pw_below_drewN | apply below_drew1) | exact HB.out)⟩
                    · replace c48 := Bool.eq_false_iff.mpr c48
                      subst c48
                      have H1 : ((standbylaw45_awake.f kj27).bind fun t378 => (if t378 = true then ((resync_Cost.f t353).bind fun t379 => (if t379 = (wrap64 (t362 - t363)) then ((resync_Cost.f t353).bind fun t380 => ((resync_Cost.f l2).bind fun t381 => (if t380 ≤ t381 then ((standbyref22_Sectors.f kj27 t358).bind fun t382 => ((resync_Cost.f t353).bind fun t383 => (some (t382 == t383)))) else (some false)))) else (some false))) else (some false))) = some r := by rw [if_neg (show ¬ (false = true) by decide)] at H; exact H
                      clear H
                      have H := H1
                      clear H1
                      replace H := Option.bind_eq_some_iff.mp H
                      obtain ⟨t378, A490, H⟩ := H
                      replace H : (if t378 = true then ((resync_Cost.f t353).bind fun t379 => (if t379 = (wrap64 (t362 - t363)) then ((resync_Cost.f t353).bind fun t380 => ((resync_Cost.f l2).bind fun t381 => (if t380 ≤ t381 then ((standbyref22_Sectors.f kj27 t358).bind fun t382 => ((resync_Cost.f t353).bind fun t383 => (some (t382 == t383)))) else (some false)))) else (some false))) else (some false)) = some r := H
                      have A49 := Aside0.mk A490
                      clear A490
                      by_cases c50 : t378 = true
                      · subst c50
                        have H1 : ((resync_Cost.f t353).bind fun t379 => (if t379 = (wrap64 (t362 - t363)) then ((resync_Cost.f t353).bind fun t380 => ((resync_Cost.f l2).bind fun t381 => (if t380 ≤ t381 then ((standbyref22_Sectors.f kj27 t358).bind fun t382 => ((resync_Cost.f t353).bind fun t383 => (some (t382 == t383)))) else (some false)))) else (some false))) = some r := by rw [if_pos rfl] at H; exact H
                        clear H
                        have H := H1
                        clear H1
                        replace H := Option.bind_eq_some_iff.mp H
                        obtain ⟨t379, A510, H⟩ := H
                        replace H : (if t379 = (wrap64 (t362 - t363)) then ((resync_Cost.f t353).bind fun t380 => ((resync_Cost.f l2).bind fun t381 => (if t380 ≤ t381 then ((standbyref22_Sectors.f kj27 t358).bind fun t382 => ((resync_Cost.f t353).bind fun t383 => (some (t382 == t383)))) else (some false)))) else (some false)) = some r := H
                        have A51 := Aside0.mk A510
                        clear A510
                        by_cases c52 : t379 = (wrap64 (t362 - t363))
                        · rw [if_pos c52] at H
                          have c52b0 : (t379 == (wrap64 (t362 - t363))) = true := beq_iff_eq.mpr c52
                          have c52b1 : (t379 != (wrap64 (t362 - t363))) = false := bne_eq_false_iff_eq.mpr c52
                          clear c52
                          replace H := Option.bind_eq_some_iff.mp H
                          obtain ⟨t380, A530, H⟩ := H
                          replace H : ((resync_Cost.f l2).bind fun t381 => (if t380 ≤ t381 then ((standbyref22_Sectors.f kj27 t358).bind fun t382 => ((resync_Cost.f t353).bind fun t383 => (some (t382 == t383)))) else (some false))) = some r := H
                          have A53 := Aside0.mk A530
                          clear A530
                          obtain rfl : t379 = t380 := Option.some.inj (A51.out.symm.trans A53.out)
                          replace H := Option.bind_eq_some_iff.mp H
                          obtain ⟨t381, A540, H⟩ := H
                          replace H : (if t379 ≤ t381 then ((standbyref22_Sectors.f kj27 t358).bind fun t382 => ((resync_Cost.f t353).bind fun t383 => (some (t382 == t383)))) else (some false)) = some r := H
                          have A54 := Aside0.mk A540
                          clear A540
                          by_cases c55 : t379 ≤ t381
                          · rw [if_pos c55] at H
                            have c55b0 : decide (t379 ≤ t381) = true := decide_eq_true c55
                            clear c55
                            replace H := Option.bind_eq_some_iff.mp H
                            obtain ⟨t382, A560, H⟩ := H
                            replace H : ((resync_Cost.f t353).bind fun t383 => (some (t382 == t383))) = some r := H
                            have A56 := Aside0.mk A560
                            clear A560
                            replace H := Option.bind_eq_some_iff.mp H
                            obtain ⟨t383, A570, H⟩ := H
                            replace H : (some (t382 == t383)) = some r := H
                            have A57 := Aside0.mk A570
                            clear A570
                            obtain rfl : t379 = t383 := Option.some.inj (A51.out.symm.trans A57.out)
                            obtain rfl := Option.some.inj H
                            go_wp2_with (first | ((with_reducible refine gate_callee (f := 8) rfl ?_); refine goesL_ (some 123) rfl rfl Try.func8 (by kernel_rfl) rfl #[] rfl (by (try simp only [List.map_toArray, List.map_cons, List.map_nil]); first | done | rfl | (simp only [List.length_drop, List.length_take]; rfl)) ?_; (with_reducible refine (standbylaw45_awake.calls kj27  true _ A49.out).mono ?_); rintro e w58 ⟨rfl, hb⟩; refine ⟨_, rfl, ?_⟩; have n0_ := Aside0.mk (Kd.S_below (by (with_reducible repeat (first | apply Kd.S_alloc | apply Kd.S_drewN | apply Kd.S_drew)); exact HO_9.out) hb); have n1_ := Aside0.mk (Kd.S_below (by (with_reducible repeat (first | apply Kd.S_alloc | apply Kd.S_drewN | apply Kd.S_drew)); exact HO_11.out) hb); have n2_ := Aside0.mk (below_step (by repeat (first | (with_reducible first | exact HB.out | apply below_alloc | apply pw_below_drewN | apply below_drew1) | exact HB.out)) hb); clear HO_9; clear HO_11; clear HB; have HO_9 := n0_; have HO_11 := n1_; have HB := n2_; clear n0_ n1_ n2_; (try clear hb); (try clear hb2); (try clear hk); (try clear hi)) | (go_at_call 14; (with_reducible refine (resync_Cost.calls _ _ t353 t379 _ ?side1 ?side2 A51.out).mono ?_); (case side1 => repeat (first | exact (Kd.S_reads' HO_9.out).2.2 | (with_reducible refine Kd.C_alloc ?_ _) | (with_reducible refine Kd.C_drewN ?_ _) | (with_reducible refine Kd.C_drew ?_))); (case side2 => exact (Kd.S_reads' HO_9.out).2.1); rintro e w59 ⟨rfl, hb⟩; have n0_ := Aside0.mk (Kd.S_below (by (with_reducible repeat (first | apply Kd.S_alloc | apply Kd.S_drewN | apply Kd.S_drew)); exact HO_9.out) hb); have n1_ := Aside0.mk (Kd.S_below (by (with_reducible repeat (first | apply Kd.S_alloc | apply Kd.S_drewN | apply Kd.S_drew)); exact HO_11.out) hb); have n2_ := Aside0.mk (below_step (by repeat (first | (with_reducible first | exact HB.out | apply below_alloc | apply pw_below_drewN | apply below_drew1) | exact HB.out)) hb); clear HO_9; clear HO_11; clear HB; have HO_9 := n0_; have HO_11 := n1_; have HB := n2_; clear n0_ n1_ n2_; (try clear hb); (try clear hb2); (try clear hk); (try clear hi)) | (go_at_call 14; (with_reducible refine (resync_Cost.calls _ _ t353 t379 _ ?side1 ?side2 A53.out).mono ?_); (case side1 => repeat (first | exact (Kd.S_reads' HO_9.out).2.2 | (with_reducible refine Kd.C_alloc ?_ _) | (with_reducible refine Kd.C_drewN ?_ _) | (with_reducible refine Kd.C_drew ?_))); (case side2 => exact (Kd.S_reads' HO_9.out).2.1); rintro e w60 ⟨rfl, hb⟩; have n0_ := Aside0.mk (Kd.S_below (by (with_reducible repeat (first | apply Kd.S_alloc | apply Kd.S_drewN | apply Kd.S_drew)); exact HO_9.out) hb); have n1_ := Aside0.mk (Kd.S_below (by (with_reducible repeat (first | apply Kd.S_alloc | apply Kd.S_drewN | apply Kd.S_drew)); exact HO_11.out) hb); have n2_ := Aside0.mk (below_step (by repeat (first | (with_reducible first | exact HB.out | apply below_alloc | apply pw_below_drewN | apply below_drew1) | exact HB.out)) hb); clear HO_9; clear HO_11; clear HB; have HO_9 := n0_; have HO_11 := n1_; have HB := n2_; clear n0_ n1_ n2_; (try clear hb); (try clear hb2); (try clear hk); (try clear hi)) | (go_at_call 14; (with_reducible refine (resync_Cost.calls _ _ l2 t381 _ ?side1 ?side2 A54.out).mono ?_); (case side1 => repeat (first | exact (Kd.C_below HR2.out HB.out) | (with_reducible refine Kd.C_alloc ?_ _) | (with_reducible refine Kd.C_drewN ?_ _) | (with_reducible refine Kd.C_drew ?_))); (case side2 => exact HC2.out); rintro e w61 ⟨rfl, hb⟩; have n0_ := Aside0.mk (Kd.S_below (by (with_reducible repeat (first | apply Kd.S_alloc | apply Kd.S_drewN | apply Kd.S_drew)); exact HO_9.out) hb); have n1_ := Aside0.mk (Kd.S_below (by (with_reducible repeat (first | apply Kd.S_alloc | apply Kd.S_drewN | apply Kd.S_drew)); exact HO_11.out) hb); have n2_ := Aside0.mk (below_step (by repeat (first | (with_reducible first | exact HB.out | apply below_alloc | apply pw_below_drewN | apply below_drew1) | exact HB.out)) hb); clear HO_9; clear HO_11; clear HB; have HO_9 := n0_; have HO_11 := n1_; have HB := n2_; clear n0_ n1_ n2_; (try clear hb); (try clear hb2); (try clear hk); (try clear hi)) | (go_at_call 20; (with_reducible refine (standbyref22_Sectors.calls kj27 _ _ t358 t382 _ ?side1 ?side2 A56.out).mono ?_); (case side1 => repeat (first | exact (Kd.S_reads' HO_11.out).2.2 | (with_reducible refine Kd.C_alloc ?_ _) | (with_reducible refine Kd.C_drewN ?_ _) | (with_reducible refine Kd.C_drew ?_))); (case side2 => exact (Kd.S_reads' HO_11.out).2.1); rintro e w' ⟨rfl, ⟨nd, rfl⟩⟩) | (go_at_call 14; (with_reducible refine (resync_Cost.calls _ _ t353 t379 _ ?side1 ?side2 A57.out).mono ?_); (case side1 => repeat (first | exact (Kd.S_reads' HO_9.out).2.2 | (with_reducible refine Kd.C_alloc ?_ _) | (with_reducible refine Kd.C_drewN ?_ _) | (with_reducible refine Kd.C_drew ?_))); (case side2 => exact (Kd.S_reads' HO_9.out).2.1); rintro e w62 ⟨rfl, hb⟩; have n0_ := Aside0.mk (Kd.S_below (by (with_reducible repeat (first | apply Kd.S_alloc | apply Kd.S_drewN | apply Kd.S_drew)); exact HO_9.out) hb); have n1_ := Aside0.mk (Kd.S_below (by (with_reducible repeat (first | apply Kd.S_alloc | apply Kd.S_drewN | apply Kd.S_drew)); exact HO_11.out) hb); have n2_ := Aside0.mk (below_step (by repeat (first | (with_reducible first | exact HB.out | apply below_alloc | apply pw_below_drewN | apply below_drew1) | exact HB.out)) hb); clear HO_9; clear HO_11; clear HB; have HO_9 := n0_; have HO_11 := n1_; have HB := n2_; clear n0_ n1_ n2_; (try clear hb); (try clear hb2); (try clear hk); (try clear hi)))
                            go_ret
                            exact ⟨by first | rfl | (simp [errW_none, errW_some] <;> rfl) | (simp [*, errW_none, errW_some] <;> rfl), by repeat (first | (with_reducible first | exact HB.out | apply below_alloc | apply pw_below_drewN | apply below_drew1) | exact HB.out)⟩
                          · rw [if_neg c55] at H
                            have c55b0 : decide (t379 ≤ t381) = false := decide_eq_false c55
                            clear c55
                            obtain rfl := Option.some.inj H
                            go_wp2_with (first | ((with_reducible refine gate_callee (f := 8) rfl ?_); refine goesL_ (some 123) rfl rfl Try.func8 (by kernel_rfl) rfl #[] rfl (by (try simp only [List.map_toArray, List.map_cons, List.map_nil]); first | done | rfl | (simp only [List.length_drop, List.length_take]; rfl)) ?_; (with_reducible refine (standbylaw45_awake.calls kj27  true _ A49.out).mono ?_); rintro e w63 ⟨rfl, hb⟩; refine ⟨_, rfl, ?_⟩; have n0_ := Aside0.mk (Kd.S_below (by (with_reducible repeat (first | apply Kd.S_alloc | apply Kd.S_drewN | apply Kd.S_drew)); exact HO_9.out) hb); have n1_ := Aside0.mk (Kd.S_below (by (with_reducible repeat (first | apply Kd.S_alloc | apply Kd.S_drewN | apply Kd.S_drew)); exact HO_11.out) hb); have n2_ := Aside0.mk (below_step (by repeat (first | (with_reducible first | exact HB.out | apply below_alloc | apply pw_below_drewN | apply below_drew1) | exact HB.out)) hb); clear HO_9; clear HO_11; clear HB; have HO_9 := n0_; have HO_11 := n1_; have HB := n2_; clear n0_ n1_ n2_; (try clear hb); (try clear hb2); (try clear hk); (try clear hi)) | (go_at_call 14; (with_reducible refine (resync_Cost.calls _ _ t353 t379 _ ?side1 ?side2 A51.out).mono ?_); (case side1 => repeat (first | exact (Kd.S_reads' HO_9.out).2.2 | (with_reducible refine Kd.C_alloc ?_ _) | (with_reducible refine Kd.C_drewN ?_ _) | (with_reducible refine Kd.C_drew ?_))); (case side2 => exact (Kd.S_reads' HO_9.out).2.1); rintro e w64 ⟨rfl, hb⟩; have n0_ := Aside0.mk (Kd.S_below (by (with_reducible repeat (first | apply Kd.S_alloc | apply Kd.S_drewN | apply Kd.S_drew)); exact HO_9.out) hb); have n1_ := Aside0.mk (Kd.S_below (by (with_reducible repeat (first | apply Kd.S_alloc | apply Kd.S_drewN | apply Kd.S_drew)); exact HO_11.out) hb); have n2_ := Aside0.mk (below_step (by repeat (first | (with_reducible first | exact HB.out | apply below_alloc | apply pw_below_drewN | apply below_drew1) | exact HB.out)) hb); clear HO_9; clear HO_11; clear HB; have HO_9 := n0_; have HO_11 := n1_; have HB := n2_; clear n0_ n1_ n2_; (try clear hb); (try clear hb2); (try clear hk); (try clear hi)) | (go_at_call 14; (with_reducible refine (resync_Cost.calls _ _ t353 t379 _ ?side1 ?side2 A53.out).mono ?_); (case side1 => repeat (first | exact (Kd.S_reads' HO_9.out).2.2 | (with_reducible refine Kd.C_alloc ?_ _) | (with_reducible refine Kd.C_drewN ?_ _) | (with_reducible refine Kd.C_drew ?_))); (case side2 => exact (Kd.S_reads' HO_9.out).2.1); rintro e w65 ⟨rfl, hb⟩; have n0_ := Aside0.mk (Kd.S_below (by (with_reducible repeat (first | apply Kd.S_alloc | apply Kd.S_drewN | apply Kd.S_drew)); exact HO_9.out) hb); have n1_ := Aside0.mk (Kd.S_below (by (with_reducible repeat (first | apply Kd.S_alloc | apply Kd.S_drewN | apply Kd.S_drew)); exact HO_11.out) hb); have n2_ := Aside0.mk (below_step (by repeat (first | (with_reducible first | exact HB.out | apply below_alloc | apply pw_below_drewN | apply below_drew1) | exact HB.out)) hb); clear HO_9; clear HO_11; clear HB; have HO_9 := n0_; have HO_11 := n1_; have HB := n2_; clear n0_ n1_ n2_; (try clear hb); (try clear hb2); (try clear hk); (try clear hi)) | (go_at_call 14; (with_reducible refine (resync_Cost.calls _ _ l2 t381 _ ?side1 ?side2 A54.out).mono ?_); (case side1 => repeat (first | exact (Kd.C_below HR2.out HB.out) | (with_reducible refine Kd.C_alloc ?_ _) | (with_reducible refine Kd.C_drewN ?_ _) | (with_reducible refine Kd.C_drew ?_))); (case side2 => exact HC2.out); rintro e w66 ⟨rfl, hb⟩; have n0_ := Aside0.mk (Kd.S_below (by (with_reducible repeat (first | apply Kd.S_alloc | apply Kd.S_drewN | apply Kd.S_drew)); exact HO_9.out) hb); have n1_ := Aside0.mk (Kd.S_below (by (with_reducible repeat (first | apply Kd.S_alloc | apply Kd.S_drewN | apply Kd.S_drew)); exact HO_11.out) hb); have n2_ := Aside0.mk (below_step (by repeat (first | (with_reducible first | exact HB.out | apply below_alloc | apply pw_below_drewN | apply below_drew1) | exact HB.out)) hb); clear HO_9; clear HO_11; clear HB; have HO_9 := n0_; have HO_11 := n1_; have HB := n2_; clear n0_ n1_ n2_; (try clear hb); (try clear hb2); (try clear hk); (try clear hi)))
                            go_ret
                            exact ⟨by first | rfl | (simp [errW_none, errW_some] <;> rfl) | (simp [*, errW_none, errW_some] <;> rfl), by repeat (first | (with_reducible first | exact HB.out | apply below_alloc | apply pw_below_drewN | apply below_drew1) | exact HB.out)⟩
                        · rw [if_neg c52] at H
                          have c52b0 : (t379 == (wrap64 (t362 - t363))) = false := beq_eq_false_iff_ne.mpr c52
                          have c52b1 : (t379 != (wrap64 (t362 - t363))) = true := bne_iff_ne.mpr c52
                          obtain rfl := Option.some.inj H
                          go_wp2_with (first | ((with_reducible refine gate_callee (f := 8) rfl ?_); refine goesL_ (some 123) rfl rfl Try.func8 (by kernel_rfl) rfl #[] rfl (by (try simp only [List.map_toArray, List.map_cons, List.map_nil]); first | done | rfl | (simp only [List.length_drop, List.length_take]; rfl)) ?_; (with_reducible refine (standbylaw45_awake.calls kj27  true _ A49.out).mono ?_); rintro e w67 ⟨rfl, hb⟩; refine ⟨_, rfl, ?_⟩; have n0_ := Aside0.mk (Kd.S_below (by (with_reducible repeat (first | apply Kd.S_alloc | apply Kd.S_drewN | apply Kd.S_drew)); exact HO_9.out) hb); have n1_ := Aside0.mk (Kd.S_below (by (with_reducible repeat (first | apply Kd.S_alloc | apply Kd.S_drewN | apply Kd.S_drew)); exact HO_11.out) hb); have n2_ := Aside0.mk (below_step (by repeat (first | (with_reducible first | exact HB.out | apply below_alloc | apply pw_below_drewN | apply below_drew1) | exact HB.out)) hb); clear HO_9; clear HO_11; clear HB; have HO_9 := n0_; have HO_11 := n1_; have HB := n2_; clear n0_ n1_ n2_; (try clear hb); (try clear hb2); (try clear hk); (try clear hi)) | (go_at_call 14; (with_reducible refine (resync_Cost.calls _ _ t353 t379 _ ?side1 ?side2 A51.out).mono ?_); (case side1 => repeat (first | exact (Kd.S_reads' HO_9.out).2.2 | (with_reducible refine Kd.C_alloc ?_ _) | (with_reducible refine Kd.C_drewN ?_ _) | (with_reducible refine Kd.C_drew ?_))); (case side2 => exact (Kd.S_reads' HO_9.out).2.1); rintro e w68 ⟨rfl, hb⟩; have n0_ := Aside0.mk (Kd.S_below (by (with_reducible repeat (first | apply Kd.S_alloc | apply Kd.S_drewN | apply Kd.S_drew)); exact HO_9.out) hb); have n1_ := Aside0.mk (Kd.S_below (by (with_reducible repeat (first | apply Kd.S_alloc | apply Kd.S_drewN | apply Kd.S_drew)); exact HO_11.out) hb); have n2_ := Aside0.mk (below_step (by repeat (first | (with_reducible first | exact HB.out | apply below_alloc | apply pw_below_drewN | apply below_drew1) | exact HB.out)) hb); clear HO_9; clear HO_11; clear HB; have HO_9 := n0_; have HO_11 := n1_; have HB := n2_; clear n0_ n1_ n2_; (try clear hb); (try clear hb2); (try clear hk); (try clear hi)))
                          go_ret
                          exact ⟨by first | rfl | (simp [errW_none, errW_some] <;> rfl) | (simp [*, errW_none, errW_some] <;> rfl), by repeat (first | (with_reducible first | exact HB.out | apply below_alloc | apply pw_below_drewN | apply below_drew1) | exact HB.out)⟩
                      · replace c50 := Bool.eq_false_iff.mpr c50
                        subst c50
                        have H1 : (some false) = some r := by rw [if_neg (show ¬ (false = true) by decide)] at H; exact H
                        clear H
                        have H := H1
                        clear H1
                        obtain rfl := Option.some.inj H
                        go_wp2_with (first | ((with_reducible refine gate_callee (f := 8) rfl ?_); refine goesL_ (some 123) rfl rfl Try.func8 (by kernel_rfl) rfl #[] rfl (by (try simp only [List.map_toArray, List.map_cons, List.map_nil]); first | done | rfl | (simp only [List.length_drop, List.length_take]; rfl)) ?_; (with_reducible refine (standbylaw45_awake.calls kj27  false _ A49.out).mono ?_); rintro e w69 ⟨rfl, hb⟩; refine ⟨_, rfl, ?_⟩; have n0_ := Aside0.mk (Kd.S_below (by (with_reducible repeat (first | apply Kd.S_alloc | apply Kd.S_drewN | apply Kd.S_drew)); exact HO_9.out) hb); have n1_ := Aside0.mk (Kd.S_below (by (with_reducible repeat (first | apply Kd.S_alloc | apply Kd.S_drewN | apply Kd.S_drew)); exact HO_11.out) hb); have n2_ := Aside0.mk (below_step (by repeat (first | (with_reducible first | exact HB.out | apply below_alloc | apply pw_below_drewN | apply below_drew1) | exact HB.out)) hb); clear HO_9; clear HO_11; clear HB; have HO_9 := n0_; have HO_11 := n1_; have HB := n2_; clear n0_ n1_ n2_; (try clear hb); (try clear hb2); (try clear hk); (try clear hi)))
                        go_ret
                        exact ⟨by first | rfl | (simp [errW_none, errW_some] <;> rfl) | (simp [*, errW_none, errW_some] <;> rfl), by repeat (first | (with_reducible first | exact HB.out | apply below_alloc | apply pw_below_drewN | apply below_drew1) | exact HB.out)⟩
              · rw [if_neg c23] at H
                have c23b0 : (t359 == 0) = false := beq_eq_false_iff_ne.mpr c23
                have c23b1 : (t359 != 0) = true := bne_iff_ne.mpr c23
                obtain rfl := Option.some.inj H
                obtain ⟨Ao70, co70, eo70⟩ := Kd.S_slice HO_9.out
                subst eo70
                go_wp2_with (first | ((with_reducible refine gate_callee (f := 16) rfl ?_); refine goesL_ (some 60) rfl rfl Try.func16 (by kernel_rfl) rfl #[.slice A0 l0.length c0, .slice Ao70 t353.length co70] rfl (by (try simp only [List.map_toArray, List.map_cons, List.map_nil]); first | done | rfl | (simp only [List.length_drop, List.length_take]; rfl)) ?_; (with_reducible refine (resync_Writes.calls _ _ l0 _ _ t353 t358 t359 _ ?side1 ?side2 ?side3 ?side4 A22.out).mono ?_); (case side1 => repeat (first | exact (Kd.C_below HR0.out HB.out) | (with_reducible refine Kd.C_alloc ?_ _) | (with_reducible refine Kd.C_drewN ?_ _) | (with_reducible refine Kd.C_drew ?_))); (case side2 => exact HC0.out); (case side3 => repeat (first | exact (Kd.S_reads' HO_9.out).2.2 | (with_reducible refine Kd.C_alloc ?_ _) | (with_reducible refine Kd.C_drewN ?_ _) | (with_reducible refine Kd.C_drew ?_))); (case side4 => exact (Kd.S_reads' HO_9.out).2.1); rintro e w71 ⟨v360, rfl, ho0, hb⟩; refine ⟨_, rfl, ?_⟩; have n0_ := Aside0.mk (Kd.S_elder' (by (with_reducible repeat (first | apply Kd.S_alloc | apply Kd.S_drewN | apply Kd.S_drew)); exact HO_7.out) (Kd.S_base ho0) hb); have n1_ := Aside0.mk (Kd.S_below (by (with_reducible repeat (first | apply Kd.S_alloc | apply Kd.S_drewN | apply Kd.S_drew)); exact HO_9.out) hb); have n2_ := Aside0.mk (Kd.S_lower (Kd.S_new' ho0 (Kd.S_lt (by (with_reducible repeat (first | apply Kd.S_alloc | apply Kd.S_drewN | apply Kd.S_drew)); exact HO_7.out))) (below_size (by repeat (first | (with_reducible first | exact HB.out | apply below_alloc | apply pw_below_drewN | apply below_drew1) | exact HB.out)))); have n3_ := Aside0.mk (below_step (by repeat (first | (with_reducible first | exact HB.out | apply below_alloc | apply pw_below_drewN | apply below_drew1) | exact HB.out)) hb); clear HO_7; clear HO_9; clear HB; have HO_7 := n0_; have HO_9 := n1_; have HO361 := n2_; have HB := n3_; clear n0_ n1_ n2_ n3_; (try clear hb); (try clear hb2); (try clear hk); (try clear hi); (try clear ho0)))
                go_ret
                exact ⟨by first | rfl | (simp [errW_none, errW_some] <;> rfl) | (simp [*, errW_none, errW_some] <;> rfl), by repeat (first | (with_reducible first | exact HB.out | apply below_alloc | apply pw_below_drewN | apply below_drew1) | exact HB.out)⟩
end Go.Proofs.Ytoichhdbomcdaaa.Pq
end
section
namespace Go.Proofs.Ytoichhdbomcdaaa.Pq
open Go.RowKit Go.Proofs.YtoichhdbomcdaaaW.PrintWords Go.Proofs.YtoichhdbomcdaaaW.PrintLast Go.Proofs.YtoichhdbomcdaaaW.PrintMore
set_option linter.unusedVariables false
set_option linter.unusedSimpArgs false
def eqSs : List SS → List SS → Bool
  | [], [] => true
  | x :: r, y :: t => eqS x y && eqSs r t
  | _, _ => false
theorem eqSs_iff : ∀ (a b : List SS), eqSs a b = true ↔ a = b
  | [], [] => by simp [eqSs]
  | [], _ :: _ => by simp [eqSs]
  | _ :: _, [] => by simp [eqSs]
  | x :: r, y :: t => by simp [eqSs, eqS_iff, eqSs_iff r t]
def eqIs : Img → Img → Bool
  | [], [] => true
  | x :: r, y :: t => eqSs x y && eqIs r t
  | _, _ => false
theorem eqIs_iff : ∀ (a b : Img), eqIs a b = true ↔ a = b
  | [], [] => by simp [eqIs]
  | [], _ :: _ => by simp [eqIs]
  | _ :: _, [] => by simp [eqIs]
  | x :: r, y :: t => by simp [eqIs, eqSs_iff, eqIs_iff r t]
theorem neS (x y : SS) : ((!(x.f0 == y.f0)) || (!(x.f1 == y.f1) || (!(x.f2 == y.f2) || (!(x.f3 == y.f3) || (!(x.f4 == y.f4) || (!(x.f5 == y.f5) || (!(x.f6 == y.f6) || (!(x.f7 == y.f7))))))))) = !eqS x y := by
  unfold eqS; simp only [Bool.not_and]
theorem ev_rvol_loop (a b : List SS) (ha : a.length ≤ 1048576) (hb : b.length = a.length) : ∀ (n j : Nat), a.length - j = n → j ≤ a.length → Ev (fun k => standbyref07_SameVolume.l0 k a b (j : Int)) (eqSs (a.drop j) (b.drop j))
  | 0, j, hn, hj => by
    rw [List.drop_eq_nil_of_le (by omega), List.drop_eq_nil_of_le (by omega)]
    exact Ev.step (f := fun _ => some true) (fun k => by rw [standbyref07_SameVolume.l0, if_neg (by omega)]) (Ev.now true)
  | n + 1, j, hn, hj => by
    have h1 : j < a.length := by omega
    have h2 : j < b.length := by omega
    have ih := ev_rvol_loop a b ha hb n (j + 1) (by omega) (by omega)
    have hunf : ∀ k, standbyref07_SameVolume.l0 (k + 1) a b (j : Int) = (if (!eqS a[j] b[j]) = true then some false else standbyref07_SameVolume.l0 k a b ((j + 1 : Nat) : Int)) := fun k => by
      rw [standbyref07_SameVolume.l0, rdSS, rdSS, getD_at _ _ _ h1, getD_at _ _ _ h2, if_pos (by omega), if_pos (by omega), if_pos (by omega), up1 j a.length h1 ha, neS]
    rw [List.drop_eq_getElem_cons h1, List.drop_eq_getElem_cons h2, eqSs]
    cases e : eqS a[j] b[j] with
    | true => exact Ev.step (fun k => by rw [hunf, e, if_neg (by simp)]) ih
    | false => exact Ev.step (f := fun _ => some false) (fun k => by rw [hunf, e, if_pos (by simp)]) (Ev.now false)
theorem eqSs_len : ∀ (l m : List SS), l.length ≠ m.length → eqSs l m = false
  | [], [], h => absurd rfl h
  | [], _ :: _, _ => rfl
  | _ :: _, [], _ => rfl
  | x :: r, y :: t, h => by rw [eqSs, eqSs_len r t (fun e => h (by simp [e])), Bool.and_false]
theorem ev_rvol (a b : List SS) (ha : a.length ≤ 1048576) : Ev (fun k => standbyref07_SameVolume.f k a b) (eqSs a b) := by
  by_cases h : (a.length : Int) = (b.length : Int)
  · exact Ev.congr (fun k => by unfold standbyref07_SameVolume.f; rw [if_pos h]; rfl) (ev_rvol_loop a b ha (by omega) a.length 0 (by omega) (by omega))
  · rw [eqSs_len a b (fun e => h (by rw [e]))]
    exact Ev.congr (f := fun _ => some false) (fun k => by unfold standbyref07_SameVolume.f; rw [if_neg h]) (Ev.now false)
theorem ev_rimg_loop (a b : Img) (ha : a.length ≤ 1048576) (hr : ∀ v, v < a.length → (a.getD v []).length ≤ 1048576) (hb : b.length = a.length) : ∀ (n j : Nat), a.length - j = n → j ≤ a.length → Ev (fun k => standbyref07_Same.l0 k a b (j : Int)) (eqIs (a.drop j) (b.drop j))
  | 0, j, hn, hj => by
    rw [List.drop_eq_nil_of_le (by omega), List.drop_eq_nil_of_le (by omega)]
    exact Ev.step (f := fun _ => some true) (fun k => by rw [standbyref07_Same.l0, if_neg (by omega)]) (Ev.now true)
  | n + 1, j, hn, hj => by
    have h1 : j < a.length := by omega
    have h2 : j < b.length := by omega
    have ih := ev_rimg_loop a b ha hr hb n (j + 1) (by omega) (by omega)
    have hv := ev_rvol (a.getD j []) (b.getD j []) (hr j h1)
    rw [getD_at _ _ _ h1, getD_at _ _ _ h2] at hv
    rw [List.drop_eq_getElem_cons h1, List.drop_eq_getElem_cons h2, eqIs]
    refine Ev.step (f := fun k => (standbyref07_SameVolume.f k a[j] b[j]).bind fun t => (if t = true then standbyref07_Same.l0 k a b ((j + 1 : Nat) : Int) else some false)) (fun k => by rw [standbyref07_Same.l0, rdS, rdS, getD_at _ _ _ h1, getD_at _ _ _ h2, if_pos (by omega), if_pos (by omega), if_pos (by omega), up1 j a.length h1 ha]) (Ev.bind hv ?_)
    cases e : eqSs a[j] b[j] with
    | true => simp only [if_true, Bool.true_and]; exact ih
    | false => exact Ev.now false
theorem ev_rimg (a b : Img) (ha : a.length ≤ 1048576) (hr : ∀ v, v < a.length → (a.getD v []).length ≤ 1048576) (hb : b.length = a.length) : Ev (fun k => standbyref07_Same.f k a b) (eqIs a b) :=
  Ev.congr (fun k => by unfold standbyref07_Same.f; rw [if_pos (by omega)]; rfl) (ev_rimg_loop a b ha hr hb a.length 0 (by omega) (by omega))
theorem ev_sectors_loop (l : List WS) (hl : l.length ≤ 1048576) (hd : ∀ w ∈ l, w.f2.length ≤ 1048576) : ∀ (n j : Nat) (s : Int), l.length - j = n → j ≤ l.length → 0 ≤ s → s ≤ 1048576 * j → s + sumI ((l.drop j).map fun w => (w.f2.length : Int)) = sumI (l.map fun w => (w.f2.length : Int)) → Ev (fun k => standbyref22_Sectors.l0 k l s (j : Int)) (sumI (l.map fun w => (w.f2.length : Int)))
  | 0, j, s, hn, hj, h0, h1, he => by
    rw [List.drop_eq_nil_of_le (by omega)] at he
    rw [← he]
    simp only [List.map_nil, sumI, Int.add_zero]
    exact Ev.step (f := fun _ => some s) (fun k => by rw [standbyref22_Sectors.l0, if_neg (by omega)]) (Ev.now _)
  | n + 1, j, s, hn, hj, h0, h1, he => by
    have hlt : j < l.length := by omega
    have hrd : rd_T57 l (j : Int) = l[j] := by unfold rd_T57; rw [Int.toNat_natCast, getD_at _ _ _ hlt]
    have hb := hd _ (List.getElem_mem hlt)
    rw [List.drop_eq_getElem_cons hlt, List.map_cons, sumI] at he
    have ih := ev_sectors_loop l hl hd n (j + 1) (s + (l[j].f2.length : Int)) (by omega) (by omega) (by omega) (by omega) (by rw [← he]; omega)
    exact Ev.step (fun k => by rw [standbyref22_Sectors.l0, if_pos (by omega), if_pos (by omega), hrd, up1 j l.length hlt hl, w64 (by omega) (by omega)]) ih
theorem ev_sectors (l : List WS) (hl : l.length ≤ 1048576) (hd : ∀ w ∈ l, w.f2.length ≤ 1048576) : Ev (fun k => standbyref22_Sectors.f k l) (sumI (l.map fun w => (w.f2.length : Int))) :=
  ev_sectors_loop l hl hd l.length 0 0 (by omega) (by omega) (by omega) (by omega) (by rw [List.drop_zero, Int.zero_add])
theorem ev_dif_in (s t : Img) (l : List (List XE)) (R : Int × Int) (hs : s.length ≤ 1048576) (v : Nat) (hv : v < s.length) (hvt : v < t.length) (hvl : v < l.length) (hr : (s.getD v []).length ≤ 4096) (hrt : (t.getD v []).length = (s.getD v []).length) (hx : ∀ e ∈ l.getD v [], okX e)
    (a m : Int) (ha : 0 ≤ a) (ha1 : a ≤ 4096 * v) (hm : 0 ≤ m) (hm1 : m ≤ 4096 * v)
    (hnext : Ev (fun k => standbylaw45_differing.l0 k s t l (a + countp (pd (s.getD v []) (t.getD v [])) (s.getD v []).length) (m + countp (fun j => pd (s.getD v []) (t.getD v []) j && !inL (l.getD v []) j) (s.getD v []).length) ((v + 1 : Nat) : Int)) R) :
    ∀ (n i : Nat), (s.getD v []).length - i = n → i ≤ (s.getD v []).length → Ev (fun k => standbylaw45_differing.l1 k s t l (a + countp (pd (s.getD v []) (t.getD v [])) i) (m + countp (fun j => pd (s.getD v []) (t.getD v []) j && !inL (l.getD v []) j) i) (v : Int) (i : Int)) R
  | 0, i, hn, hi => by
    have : i = (s.getD v []).length := by omega
    subst this
    exact Ev.step (fun k => by rw [standbylaw45_differing.l1, if_pos (by omega), if_pos (by omega), rdS, if_neg (by omega), up1 v s.length hv hs]) hnext
  | n + 1, i, hn, hi => by
    have h1 : i < (s.getD v []).length := by omega
    have ih := ev_dif_in s t l R hs v hv hvt hvl hr hrt hx a m ha ha1 hm hm1 hnext n (i + 1) (by omega) (by omega)
    obtain ⟨c1, c2⟩ := countp_le (pd (s.getD v []) (t.getD v [])) i
    obtain ⟨d1, d2⟩ := countp_le (fun j => pd (s.getD v []) (t.getD v []) j && !inL (l.getD v []) j) i
    have hunf : ∀ k x y, standbylaw45_differing.l1 (k + 1) s t l x y (v : Int) (i : Int) = (if eqS ((s.getD v []).getD i z52) ((t.getD v []).getD i z52) = true then standbylaw45_differing.l1 k s t l x y (v : Int) ((i + 1 : Nat) : Int) else (extent_Contains.f (l.getD v []) (i : Int)).bind fun t209 => (if t209 = true then standbylaw45_differing.l1 k s t l (wrap64 (x + 1)) y (v : Int) ((i + 1 : Nat) : Int) else standbylaw45_differing.l1 k s t l (wrap64 (x + 1)) (wrap64 (y + 1)) (v : Int) ((i + 1 : Nat) : Int))) := fun k x y => by
      rw [standbylaw45_differing.l1, if_pos (by omega), if_pos (by omega), rdS, rdS, rdE, if_pos (by omega), if_pos (by omega), if_pos (by omega), if_pos (by omega), rdSS, rdSS, up1 i (s.getD v []).length h1 (by omega), if_pos (show (v : Int) < (l.length : Int) by omega)]
      rfl
    have hpd : pd (s.getD v []) (t.getD v []) (i : Int) = !eqS ((s.getD v []).getD i z52) ((t.getD v []).getD i z52) := by unfold pd; rw [Int.toNat_natCast]
    simp only [countp, hpd] at ih
    cases e : eqS ((s.getD v []).getD i z52) ((t.getD v []).getD i z52) with
    | true =>
      rw [e] at ih
      simp only [Bool.not_true, Bool.false_and, Bool.false_eq_true, if_false] at ih
      exact Ev.step (fun k => by rw [hunf, e, if_pos rfl]) ih
    | false =>
      rw [e] at ih
      simp only [Bool.not_false, Bool.true_and, if_true] at ih
      have hc : extent_Contains.f (l.getD v []) (i : Int) = some (inL (l.getD v []) (i : Int)) := by unfold extent_Contains.f; rw [if_pos hx]; rfl
      cases hq : inL (l.getD v []) (i : Int) with
      | true =>
        rw [hq] at ih
        simp only [Bool.not_true, Bool.false_eq_true, if_false] at ih
        refine Ev.step (fun k => by rw [hunf, e, if_neg (by simp), hc, hq, Option.bind_some, if_pos rfl, w64 (by omega) (by omega), Int.add_assoc]) ih
      | false =>
        rw [hq] at ih
        simp only [Bool.not_false, if_true] at ih
        refine Ev.step (fun k => by rw [hunf, e, if_neg (by simp), hc, hq, Option.bind_some, if_neg (by simp), w64 (by omega) (by omega), w64 (by omega) (by omega), Int.add_assoc, Int.add_assoc]) ih
theorem ev_dif_loop (s t : Img) (l : List (List XE)) (hs : s.length ≤ 1048576) (hst : t.length = s.length) (hsl : l.length = s.length) (hr : ∀ v, v < s.length → (s.getD v []).length ≤ 4096) (hrt : ∀ v, v < s.length → (t.getD v []).length = (s.getD v []).length) (hx : ∀ x ∈ l, ∀ e ∈ x, okX e) :
    ∀ (n v : Nat) (a m : Int), s.length - v = n → v ≤ s.length → 0 ≤ a → a ≤ 4096 * v → 0 ≤ m → m ≤ 4096 * v →
      a + sumI (mp (fun v x => countp (pd x (t.getD v [])) x.length) v (s.drop v)) = allX s t → m + sumI (mp (fun v x => countp (fun j => pd x (t.getD v []) j && !inL (l.getD v []) j) x.length) v (s.drop v)) = misX s t l → Ev (fun k => standbylaw45_differing.l0 k s t l a m (v : Int)) (allX s t, misX s t l)
  | 0, v, a, m, hn, hv, ha, ha1, hm, hm1, e1, e2 => by
    rw [List.drop_eq_nil_of_le (by omega)] at e1 e2
    rw [← e1, ← e2]
    simp only [mp, sumI, Int.add_zero]
    exact Ev.step (f := fun _ => some (a, m)) (fun k => by rw [standbylaw45_differing.l0, if_neg (by omega)]) (Ev.now _)
  | n + 1, v, a, m, hn, hv, ha, ha1, hm, hm1, e1, e2 => by
    have h1 : v < s.length := by omega
    have hlen := hr v h1
    obtain ⟨c1, c2⟩ := countp_le (pd (s.getD v []) (t.getD v [])) (s.getD v []).length
    obtain ⟨d1, d2⟩ := countp_le (fun j => pd (s.getD v []) (t.getD v []) j && !inL (l.getD v []) j) (s.getD v []).length
    rw [mp_drop _ s [] v h1, sumI] at e1 e2
    have ih := ev_dif_loop s t l hs hst hsl hr hrt hx n (v + 1) (a + countp (pd (s.getD v []) (t.getD v [])) (s.getD v []).length) (m + countp (fun j => pd (s.getD v []) (t.getD v []) j && !inL (l.getD v []) j) (s.getD v []).length) (by omega) (by omega) (by omega) (by omega) (by omega) (by omega) (by rw [← e1]; omega) (by rw [← e2]; omega)
    have hin := ev_dif_in s t l _ hs v h1 (by omega) (by omega) hlen (hrt v h1) (by rw [getD_at _ _ _ (by omega : v < l.length)]; exact hx _ (List.getElem_mem _)) a m ha ha1 hm hm1 ih _ 0 rfl (by omega)
    simp only [countp, Int.add_zero] at hin
    exact Ev.step (fun k => by rw [standbylaw45_differing.l0, if_pos (by omega)]; rfl) hin
theorem volL_le (c : Nat) : ∀ (ls : List (List XE)) (k : Nat), (∀ l ∈ ls, l.length ≤ c) → (volL k ls).length ≤ c * ls.length
  | [], _, _ => by simp [volL]
  | l :: r, k, h => by
    have h1 := h l (List.mem_cons_self ..)
    have h2 := volL_le c r (k + 1) (fun x hx => h x (List.mem_cons_of_mem _ hx))
    simp only [volL, List.length_append, List.length_map, List.length_cons, Nat.mul_succ]; omega
theorem ev_law_equals (s t : Img) (l : List (List XE)) (hx : ∀ x ∈ l, ∀ e ∈ x, okX e) : Ev (fun k => standbylaw45_ResyncEquals.f k s t l) true := by
  have yes : Ev (fun k => standbylaw45_ResyncEquals.j0 k s t l true) true := Ev.step (f := fun k => (standbylaw45_awake.f k).bind fun t => some t) (fun k => by rw [standbylaw45_ResyncEquals.j0, if_pos rfl]) (Ev.bind ev_awake (Ev.now true))
  refine Ev.bind (ev_few s) ?_
  cases h1 : fewI s with
  | false => exact yes
  | true =>
    simp only [if_true]
    refine Ev.bind (ev_few t) ?_
    cases h2 : fewI t with
    | false => exact yes
    | true =>
      simp only [if_true]
      refine Ev.bind (ev_fewl l) ?_
      cases h3 : fewL l with
      | false => exact yes
      | true =>
        obtain ⟨a1, b1⟩ := fewI_le h1
        obtain ⟨a2, b2⟩ := fewI_le h2
        obtain ⟨a3, a4⟩ := fewL_le h3
        have hok : okLs l := ⟨by omega, fun x hxl => ⟨hx x hxl, by have := a4 x hxl; omega⟩⟩
        have e1 : resync_Needed.f s t l = some (neededX s t l) := by unfold resync_Needed.f; rw [if_pos ⟨by omega, by omega, hok⟩]
        have e2 : resync_Writes.f s l = some (writesX s l) := by unfold resync_Writes.f; rw [if_pos ⟨by omega, hok⟩]
        have yes1 : ∀ x y, Ev (fun k => standbylaw45_ResyncEquals.j1 k s t l x y true) true := fun x y => Ev.step (f := fun k => (standbylaw45_awake.f k).bind fun t => some t) (fun k => by rw [standbylaw45_ResyncEquals.j1, if_pos rfl]) (Ev.bind ev_awake (Ev.now true))
        refine Ev.step (f := fun k => (if (writesX s l).2 = 0 then (standbylaw45_ResyncEquals.j1 k s t l (writesX s l).1 (neededX s t l).1 ((neededX s t l).2 != 0)) else (standbylaw45_ResyncEquals.j1 k s t l (writesX s l).1 (neededX s t l).1 true))) (fun k => by rw [standbylaw45_ResyncEquals.j0, if_neg (by simp), e2]; simp only [Option.bind_some]; rw [e1]; simp only [Option.bind_some]) ?_
        by_cases hw : (writesX s l).2 = 0
        · simp only [hw, if_true]
          by_cases hn : (neededX s t l).2 = 0
          · have hpf : pairX s t = 0 ∧ fitsX s l = 0 := by
              have h' := hn
              unfold neededX at h'
              by_cases hp : pairX s t = 0
              · rw [if_pos hp] at h'
                by_cases hf : fitsX s l = 0
                · exact ⟨hp, hf⟩
                · rw [if_neg hf] at h'; exact absurd h' hf
              · rw [if_neg hp] at h'; exact absurd h' hp
            obtain ⟨hp, hf⟩ := hpf
            obtain ⟨hs0, hl0⟩ := pair_sizes hp
            obtain ⟨hlst, hvst⟩ := lens_vol hl0
            have hN : neededX s t l = (nedX s t l, 0) := by unfold neededX nedX; rw [if_pos hp, if_pos hf]
            have hW : writesX s l = ((volL 0 l).map (sliceX s), 0) := by unfold writesX; rw [if_pos hs0, if_pos hf]
            have hfn := ned_fits (l := l) hp
            have hX : writesX s (nedX s t l) = ((volL 0 (nedX s t l)).map (sliceX s), 0) := by unfold writesX; rw [if_pos hs0, if_pos hfn]
            have hnl : (nedX s t l).length = s.length := ned_len hp
            have hnr : ∀ x ∈ nedX s t l, x.length ≤ 4096 := by
              intro x hx'
              obtain ⟨i, y, rfl⟩ := mp_mem _ _ _ _ hx'
              exact canon_len _ 4096
            have hokn : okLs (nedX s t l) := ⟨by omega, fun x hx' => by
              obtain ⟨i, y, rfl⟩ := mp_mem _ _ _ _ hx'
              exact canon_okL _ 4096 (by omega)⟩
            have e3 : resync_Writes.f s (nedX s t l) = some ((volL 0 (nedX s t l)).map (sliceX s), 0) := by unfold resync_Writes.f; rw [if_pos ⟨by omega, hokn⟩, hX]
            have hdl : ∀ (ls : List (List XE)), fitsX s ls = 0 → ∀ w ∈ (volL 0 ls).map (sliceX s), w.f2.length ≤ 1048576 := by
              intro ls hfl w hwm
              obtain ⟨p, hpm, rfl⟩ := List.mem_map.1 hwm
              have hfp := fits_mem hfl p hpm
              have hlen := sliceX_len (im := s) (p := p) hfp
              have := sizes_le hs0 p.1.toNat (by omega)
              omega
            have hW1 : ((volL 0 l).map (sliceX s)).length ≤ 1048576 := by rw [List.length_map]; have := volL_le 40 l 0 a4; omega
            have hX1 : ((volL 0 (nedX s t l)).map (sliceX s)).length ≤ 1048576 := by rw [List.length_map]; have := volL_le 4096 _ 0 hnr; omega
            have e4 : image_Apply.f t ((volL 0 l).map (sliceX s)) = some (imgA s t l, 0, 0) := by unfold image_Apply.f; rw [if_pos ⟨by omega, hW1, hdl l hf⟩, (img_app hp hf).1]
            have e5 : image_Apply.f t ((volL 0 (nedX s t l)).map (sliceX s)) = some (imgA s t (nedX s t l), 0, 0) := by unfold image_Apply.f; rw [if_pos ⟨by omega, hX1, hdl _ hfn⟩, (img_app hp hfn).1]
            have hex : eqLs (difL s t) (nedX s t l) = (misX s t l == 0) := by rw [Bool.eq_iff_iff, exact_iff hp hf, beq_iff_eq]
            have e6 : resync_Exact.f s t (nedX s t l) = some (misX s t l == 0, 0) := by
              unfold resync_Exact.f exactX
              rw [if_pos ⟨by omega, by omega, hokn⟩, show (neededX s t (nedX s t l)).2 = 0 from by unfold neededX; rw [if_pos hp, if_pos hfn], if_pos rfl, hex]
            have e7 : resync_Cost.f (nedX s t l) = some (costX (nedX s t l)) := by unfold resync_Cost.f; rw [if_pos hokn]
            have e8 : resync_Cost.f l = some (costX l) := by unfold resync_Cost.f; rw [if_pos hok]
            have hdif : Ev (fun k => standbylaw45_differing.f k s t l) (allX s t, misX s t l) := ev_dif_loop s t l (by omega) hlst.symm (fits_len hf) (sizes_le hs0) (fun v hv => (hvst v hv).symm) hx s.length 0 0 0 (by omega) (by omega) (by omega) (by omega) (by omega) (by omega) (by rw [Int.zero_add, List.drop_zero]; rfl) (by rw [Int.zero_add, List.drop_zero]; rfl)
            obtain ⟨_, hA⟩ := img_app hp hf
            obtain ⟨_, hB⟩ := img_app hp hfn
            obtain ⟨hAl, hAv⟩ := lens_vol hA
            obtain ⟨hBl, _⟩ := lens_vol hB
            have hArow : ∀ v, v < (imgA s t l).length → ((imgA s t l).getD v []).length ≤ 1048576 := fun v hv => by rw [hAv v hv]; have := sizes_le hs0 v (by omega); omega
            have hsame : Ev (fun k => standbyref07_Same.f k (imgA s t l) (imgA s t (nedX s t l))) true := by
              have := ev_rimg (imgA s t l) (imgA s t (nedX s t l)) (by omega) hArow (by omega)
              rwa [(eqIs_iff _ _).2 (img_same hp hf)] at this
            have hsame2 : Ev (fun k => standbyref07_Same.f k (imgA s t l) s) (misX s t l == 0) := by
              have := ev_rimg (imgA s t l) s (by omega) hArow (by omega)
              rwa [show eqIs (imgA s t l) s = (misX s t l == 0) from by rw [Bool.eq_iff_iff, eqIs_iff, img_eq hp hf, beq_iff_eq]] at this
            have hsec := ev_sectors ((volL 0 (nedX s t l)).map (sliceX s)) hX1 (hdl _ hfn)
            rw [ned_sectors hp] at hsec
            have hsplit := all_split (l := l) hp
            have hle := ned_le hp hf
            have hcb : 0 ≤ costX (nedX s t l) ∧ costX (nedX s t l) ≤ 4096 * 9 := by
              have := sumI_take (mp (fun _ x => countp (inL x) 4096) 0 (nedX s t l)) (fun x hx' => by obtain ⟨i, y, rfl⟩ := mp_mem _ _ _ _ hx'; exact countp_le _ 4096) (mp (fun _ x => countp (inL x) 4096) 0 (nedX s t l)).length
              rw [List.take_length, mp_len, hnl] at this
              exact ⟨this.1, by have := this.2; unfold costX; omega⟩
            rw [hW, hN]
            have last : Ev (fun k => standbylaw45_ResyncEquals.j2 k l (nedX s t l) ((volL 0 (nedX s t l)).map (sliceX s)) (allX s t) (misX s t l) false) true := by
              refine Ev.step (f := fun k => (standbylaw45_awake.f k).bind fun t249 => (if t249 = true then ((standbyref22_Sectors.f k ((volL 0 (nedX s t l)).map (sliceX s))).bind fun t253 => some (t253 == costX (nedX s t l))) else (some false))) (fun k => ?_) ?_
              · rw [standbylaw45_ResyncEquals.j2, if_neg (by simp), e7]
                simp only [Option.bind_some]
                rw [if_pos (show costX (nedX s t l) = wrap64 (allX s t - misX s t l) by rw [w64 (by omega) (by omega)]; omega), e8]
                simp only [Option.bind_some]
                rw [if_pos hle]
              · refine Ev.bind ev_awake ?_
                simp only [if_true]
                refine Ev.bind hsec ?_
                rw [beq_self_eq_true]
                exact Ev.now true
            simp only [bne_self_eq_false]
            refine Ev.step (f := fun k => (standbylaw45_differing.f k s t l).bind fun bt233 => (if (((misX s t l == 0) != (bt233.2 == 0)) = true) then (standbylaw45_ResyncEquals.j2 k l (nedX s t l) ((volL 0 (nedX s t l)).map (sliceX s)) bt233.1 bt233.2 true) else ((standbyref07_Same.f k (imgA s t l) (imgA s t (nedX s t l))).bind fun t247 => (if t247 = true then ((standbyref07_Same.f k (imgA s t l) s).bind fun t248 => (standbylaw45_ResyncEquals.j2 k l (nedX s t l) ((volL 0 (nedX s t l)).map (sliceX s)) bt233.1 bt233.2 (t248 != (bt233.2 == 0)))) else (standbylaw45_ResyncEquals.j2 k l (nedX s t l) ((volL 0 (nedX s t l)).map (sliceX s)) bt233.1 bt233.2 true))))) (fun k => ?_) ?_
            · rw [standbylaw45_ResyncEquals.j1, if_neg (by simp), e3]
              simp only [Option.bind_some, if_true]
              rw [e4]
              simp only [Option.bind_some]
              rw [e5]
              simp only [Option.bind_some]
              rw [e6]
              simp only [Option.bind_some, if_true]
            · refine Ev.bind hdif ?_
              simp only [bne_self_eq_false, Bool.false_eq_true, if_false]
              refine Ev.bind hsame ?_
              simp only [if_true]
              refine Ev.bind hsame2 ?_
              rw [bne_self_eq_false]
              exact last
          · have : ((neededX s t l).2 != 0) = true := by simpa using hn
            rw [this]
            exact yes1 _ _
        · simp only [hw, if_false]
          exact yes1 _ _
end Go.Proofs.Ytoichhdbomcdaaa.Pq
end
