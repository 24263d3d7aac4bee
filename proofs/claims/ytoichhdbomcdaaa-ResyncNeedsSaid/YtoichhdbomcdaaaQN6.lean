import Derived.Test.YtoichhdbomcdaaaQN5
section
namespace Go.Proofs.Ytoichhdbomcdaaa.Pq
open Go.RowKit Go.Proofs.YtoichhdbomcdaaaW.PrintWords Go.Proofs.YtoichhdbomcdaaaW.PrintLast Go.Proofs.YtoichhdbomcdaaaW.PrintMore
attribute [local go_sem] max2_int min2_int max_two min_two max_three min_three max_four min_four
set_option linter.unusedVariables false
set_option linter.unusedSimpArgs false
attribute [local go_sem high] eqA52
def standbyref07_VolumeDiffer.l0 : Nat → List (S52) → List (S52) → List (S54) → Int → Option ((List (S54)))
  | 0, _, _, _, _ => none
  | k + 1, x0, x1, x5, x6 => if x6 < (x0.length : Int) then (if 0 ≤ x6 then (if x6 < (x1.length : Int) then (if (((rd_T52 x0 x6).f0) == ((rd_T52 x1 x6).f0) && (((rd_T52 x0 x6).f1) == ((rd_T52 x1 x6).f1) && (((rd_T52 x0 x6).f2) == ((rd_T52 x1 x6).f2) && (((rd_T52 x0 x6).f3) == ((rd_T52 x1 x6).f3) && (((rd_T52 x0 x6).f4) == ((rd_T52 x1 x6).f4) && (((rd_T52 x0 x6).f5) == ((rd_T52 x1 x6).f5) && (((rd_T52 x0 x6).f6) == ((rd_T52 x1 x6).f6) && (((rd_T52 x0 x6).f7) == ((rd_T52 x1 x6).f7))))))))) = true then (standbyref07_VolumeDiffer.l0 k x0 x1 x5 (wrap64 (x6 + 1))) else (if (x5.length : Int) > 0 then (if 0 ≤ (wrap64 ((x5.length : Int) - 1)) then (if (wrap64 ((x5.length : Int) - 1)) < (x5.length : Int) then (if (wrap64 (((rd_T54 x5 (wrap64 ((x5.length : Int) - 1))).f0) + ((rd_T54 x5 (wrap64 ((x5.length : Int) - 1))).f1))) = x6 then (standbyref07_VolumeDiffer.l0 k x0 x1 (x5.set ((wrap64 ((x5.length : Int) - 1)) : Int).toNat (⟨(rd_T54 x5 (wrap64 ((x5.length : Int) - 1))).f0, wrap64 (((rd_T54 x5 (wrap64 ((x5.length : Int) - 1))).f1) + 1)⟩ : S54)) (wrap64 (x6 + 1))) else (if x5.length < 8796093022208 then (standbyref07_VolumeDiffer.l0 k x0 x1 (x5 ++ [(⟨x6, 1⟩ : S54)]) (wrap64 (x6 + 1))) else (none))) else (none)) else (none)) else (if x5.length < 8796093022208 then (standbyref07_VolumeDiffer.l0 k x0 x1 (x5 ++ [(⟨x6, 1⟩ : S54)]) (wrap64 (x6 + 1))) else (none)))) else (none)) else (none)) else (some x5)
def standbyref07_VolumeDiffer.f (k : Nat) (l0 : List (S52)) (l1 : List (S52)) : Option ((List (S54))) := standbyref07_VolumeDiffer.l0 k l0 l1 ([] : List (S54)) 0
set_option maxHeartbeats 8000000 in
set_option maxRecDepth 100000 in
theorem standbyref07_VolumeDiffer.calls (k : Nat) (A0 : Option Addr) (c0 : Nat) (l0 : List (S52)) (A1 : Option Addr) (c1 : Nat) (l1 : List (S52)) (r : List (S54)) (w : World) (hr0 : Kd.C k52 w A0 l0.length l0) (hc0 : l0.length ≤ c0) (hr1 : Kd.C k52 w A1 l1.length l1) (hc1 : l1.length ≤ c1) (h : standbyref07_VolumeDiffer.f k l0 l1 = some r) :
    Calls Try.prog 56 #[.slice A0 l0.length c0, .slice A1 l1.length c1] w fun e w' => ∃ v0_ : Value, e = .returned (v0_) ∧ Kd.R k54 54 w' w.heap.size (fun _ => True) v0_ r ∧ Below w.heap.size w w' := by
  have hu52 := Try.underlying52
  have hu54 := Try.underlying54
  have HR0 := Aside0.mk hr0
  have HC0 := Aside0.mk hc0
  clear hr0 hc0
  have HR1 := Aside0.mk hr1
  have HC1 := Aside0.mk hc1
  clear hr1 hc1
  have HB := Aside0.mk (Below.refl w.heap.size w)
  have H : (standbyref07_VolumeDiffer.l0 k l0 l1 ([] : List (S54)) 0) = some r := h
  clear h
  have H' := Aside0.mk H
  clear H
  go_enter Try.func56, Try.ntmps56
  go_wp2
  repeat (go_quiet (fail); try go_wp2)
  go_loopg [5, 6] k (fun kq v5 v6 w' => ∃ (x5_1 : List (S54)) (x6_1 : Int), v6 = .int .i64 x6_1 ∧ Aside0 (standbyref07_VolumeDiffer.l0 kq l0 l1 x5_1 x6_1 = some r) ∧ Aside0 (kq ≤ k) ∧ Aside0 (Kd.R k54 54 w' w.heap.size (fun _ => True) v5 x5_1) ∧ Aside0 (Below w.heap.size w w'))
  case atStart => exact ⟨(([] : List (S54))), (0), (by first | rfl | (simp; done) | (simp [*]; done)), H', ⟨Nat.le_refl _⟩, ⟨by first | exact Kd.R_nil _ _ _ _ _ | exact Kd.N_nil _ _ _ _ _ | exact Kd.V_nil _ _ _ _ _ | exact Kd.Q_nil _ _ _ _ _ | exact Kd.S_nil _ _ _ _ _⟩, ⟨by repeat (first | (with_reducible first | exact HB.out | apply below_alloc | apply pw_below_drewN | apply below_drew1) | exact HB.out)⟩⟩
  case round =>
    clear H'
    try clear c1
    try clear p2
    obtain ⟨x5_1, x6_1, rfl, HA, HK1, HO_5, HB⟩ := hrel
    cases gk with
    | zero => exact absurd HA.out (by simp [standbyref07_VolumeDiffer.l0])
    | succ k1 =>
      have H := HA.out
      clear HA
      simp only [standbyref07_VolumeDiffer.l0] at H
      by_cases c3 : x6_1 < (l0.length : Int)
      · rw [if_pos c3] at H
        have c3b0 : decide (x6_1 < (l0.length : Int)) = true := decide_eq_true c3
        clear c3
        by_cases c4 : 0 ≤ x6_1
        · rw [if_pos c4] at H
          have c4b0 : decide (0 ≤ x6_1) = true := decide_eq_true c4
          clear c4
          by_cases c5 : x6_1 < (l1.length : Int)
          · rw [if_pos c5] at H
            have c5b0 : decide (x6_1 < (l1.length : Int)) = true := decide_eq_true c5
            clear c5
            by_cases c6 : (((rd_T52 l0 x6_1).f0) == ((rd_T52 l1 x6_1).f0) && (((rd_T52 l0 x6_1).f1) == ((rd_T52 l1 x6_1).f1) && (((rd_T52 l0 x6_1).f2) == ((rd_T52 l1 x6_1).f2) && (((rd_T52 l0 x6_1).f3) == ((rd_T52 l1 x6_1).f3) && (((rd_T52 l0 x6_1).f4) == ((rd_T52 l1 x6_1).f4) && (((rd_T52 l0 x6_1).f5) == ((rd_T52 l1 x6_1).f5) && (((rd_T52 l0 x6_1).f6) == ((rd_T52 l1 x6_1).f6) && (((rd_T52 l0 x6_1).f7) == ((rd_T52 l1 x6_1).f7))))))))) = true
            · rw [if_pos c6] at H
              have c6b0 : (((rd_T52 l0 x6_1).f0) == ((rd_T52 l1 x6_1).f0) && (((rd_T52 l0 x6_1).f1) == ((rd_T52 l1 x6_1).f1) && (((rd_T52 l0 x6_1).f2) == ((rd_T52 l1 x6_1).f2) && (((rd_T52 l0 x6_1).f3) == ((rd_T52 l1 x6_1).f3) && (((rd_T52 l0 x6_1).f4) == ((rd_T52 l1 x6_1).f4) && (((rd_T52 l0 x6_1).f5) == ((rd_T52 l1 x6_1).f5) && (((rd_T52 l0 x6_1).f6) == ((rd_T52 l1 x6_1).f6) && (((rd_T52 l0 x6_1).f7) == ((rd_T52 l1 x6_1).f7))))))))) = true := c6
              (try (have c6b1 : decide (((rd_T52 l0 x6_1).f0) = ((rd_T52 l1 x6_1).f0) && (((rd_T52 l0 x6_1).f1) == ((rd_T52 l1 x6_1).f1) && (((rd_T52 l0 x6_1).f2) == ((rd_T52 l1 x6_1).f2) && (((rd_T52 l0 x6_1).f3) == ((rd_T52 l1 x6_1).f3) && (((rd_T52 l0 x6_1).f4) == ((rd_T52 l1 x6_1).f4) && (((rd_T52 l0 x6_1).f5) == ((rd_T52 l1 x6_1).f5) && (((rd_T52 l0 x6_1).f6) == ((rd_T52 l1 x6_1).f6) && (((rd_T52 l0 x6_1).f7) == ((rd_T52 l1 x6_1).f7))))))))) = true := by simpa using c6))
              (try (have c6b2 : (((rd_T52 l0 x6_1).f0) == ((rd_T52 l1 x6_1).f0) && (((rd_T52 l0 x6_1).f1) == ((rd_T52 l1 x6_1).f1) && (((rd_T52 l0 x6_1).f2) == ((rd_T52 l1 x6_1).f2) && (((rd_T52 l0 x6_1).f3) == ((rd_T52 l1 x6_1).f3) && (((rd_T52 l0 x6_1).f4) == ((rd_T52 l1 x6_1).f4) && (((rd_T52 l0 x6_1).f5) == ((rd_T52 l1 x6_1).f5) && (((rd_T52 l0 x6_1).f6) == ((rd_T52 l1 x6_1).f6) && (((rd_T52 l0 x6_1).f7) == ((rd_T52 l1 x6_1).f7))))))))) = true := by simpa using c6))
              clear c6
              have H' := Aside0.mk H
              clear H
              have p217 : 0 ≤ (x6_1 : Int) := of_decide_eq_true (by first | (with_reducible assumption) | assumption)
              have q217 : x6_1 < (l0.length : Int) := of_decide_eq_true (by first | (with_reducible assumption) | assumption)
              obtain ⟨ad217, e217, hx217_0, hx217_1, hx217_2, hx217_3, hx217_4, hx217_5, hx217_6, hx217_7⟩ := at_T52 HR0.out x6_1 p217 q217
              cases e217
              replace hx217_0 := (HB.out.cell (World.block_lt_of_cell? w _ hx217_0)).trans hx217_0
              replace hx217_1 := (HB.out.cell (World.block_lt_of_cell? w _ hx217_1)).trans hx217_1
              replace hx217_2 := (HB.out.cell (World.block_lt_of_cell? w _ hx217_2)).trans hx217_2
              replace hx217_3 := (HB.out.cell (World.block_lt_of_cell? w _ hx217_3)).trans hx217_3
              replace hx217_4 := (HB.out.cell (World.block_lt_of_cell? w _ hx217_4)).trans hx217_4
              replace hx217_5 := (HB.out.cell (World.block_lt_of_cell? w _ hx217_5)).trans hx217_5
              replace hx217_6 := (HB.out.cell (World.block_lt_of_cell? w _ hx217_6)).trans hx217_6
              replace hx217_7 := (HB.out.cell (World.block_lt_of_cell? w _ hx217_7)).trans hx217_7
              replace p217 := eq_true p217
              replace q217 := eq_true q217
              have p218 : 0 ≤ (x6_1 : Int) := of_decide_eq_true (by first | (with_reducible assumption) | assumption)
              have q218 : x6_1 < (l1.length : Int) := of_decide_eq_true (by first | (with_reducible assumption) | assumption)
              obtain ⟨ad218, e218, hx218_0, hx218_1, hx218_2, hx218_3, hx218_4, hx218_5, hx218_6, hx218_7⟩ := at_T52 HR1.out x6_1 p218 q218
              cases e218
              replace hx218_0 := (HB.out.cell (World.block_lt_of_cell? w _ hx218_0)).trans hx218_0
              replace hx218_1 := (HB.out.cell (World.block_lt_of_cell? w _ hx218_1)).trans hx218_1
              replace hx218_2 := (HB.out.cell (World.block_lt_of_cell? w _ hx218_2)).trans hx218_2
              replace hx218_3 := (HB.out.cell (World.block_lt_of_cell? w _ hx218_3)).trans hx218_3
              replace hx218_4 := (HB.out.cell (World.block_lt_of_cell? w _ hx218_4)).trans hx218_4
              replace hx218_5 := (HB.out.cell (World.block_lt_of_cell? w _ hx218_5)).trans hx218_5
              replace hx218_6 := (HB.out.cell (World.block_lt_of_cell? w _ hx218_6)).trans hx218_6
              replace hx218_7 := (HB.out.cell (World.block_lt_of_cell? w _ hx218_7)).trans hx218_7
              replace p218 := eq_true p218
              replace q218 := eq_true q218
              go_wp2
              repeat (go_quiet (fail); try go_wp2)
              go_roundg k1
              case measure => have := HK1.out; omega
              case rel => exact ⟨(x5_1), (wrap64 (x6_1 + 1)), (by first | rfl | (simp; done) | (simp [*]; done)), H', ⟨by have := HK1.out; omega⟩, ⟨by (with_reducible repeat (first | apply Kd.R_alloc | apply Kd.R_drewN | apply Kd.R_drew)); exact HO_5.out⟩, ⟨by repeat (first | (with_reducible first | exact HB.out | apply below_alloc | apply pw_below_drewN | apply below_drew1) | exact HB.out)⟩⟩
            · rw [if_neg c6] at H
              have c6b0 : (((rd_T52 l0 x6_1).f0) == ((rd_T52 l1 x6_1).f0) && (((rd_T52 l0 x6_1).f1) == ((rd_T52 l1 x6_1).f1) && (((rd_T52 l0 x6_1).f2) == ((rd_T52 l1 x6_1).f2) && (((rd_T52 l0 x6_1).f3) == ((rd_T52 l1 x6_1).f3) && (((rd_T52 l0 x6_1).f4) == ((rd_T52 l1 x6_1).f4) && (((rd_T52 l0 x6_1).f5) == ((rd_T52 l1 x6_1).f5) && (((rd_T52 l0 x6_1).f6) == ((rd_T52 l1 x6_1).f6) && (((rd_T52 l0 x6_1).f7) == ((rd_T52 l1 x6_1).f7))))))))) = false := by simpa using c6
              (try (have c6b1 : decide (((rd_T52 l0 x6_1).f0) = ((rd_T52 l1 x6_1).f0) && (((rd_T52 l0 x6_1).f1) == ((rd_T52 l1 x6_1).f1) && (((rd_T52 l0 x6_1).f2) == ((rd_T52 l1 x6_1).f2) && (((rd_T52 l0 x6_1).f3) == ((rd_T52 l1 x6_1).f3) && (((rd_T52 l0 x6_1).f4) == ((rd_T52 l1 x6_1).f4) && (((rd_T52 l0 x6_1).f5) == ((rd_T52 l1 x6_1).f5) && (((rd_T52 l0 x6_1).f6) == ((rd_T52 l1 x6_1).f6) && (((rd_T52 l0 x6_1).f7) == ((rd_T52 l1 x6_1).f7))))))))) = false := by simpa using c6))
              (try (have c6b2 : (((rd_T52 l0 x6_1).f0) == ((rd_T52 l1 x6_1).f0) && (((rd_T52 l0 x6_1).f1) == ((rd_T52 l1 x6_1).f1) && (((rd_T52 l0 x6_1).f2) == ((rd_T52 l1 x6_1).f2) && (((rd_T52 l0 x6_1).f3) == ((rd_T52 l1 x6_1).f3) && (((rd_T52 l0 x6_1).f4) == ((rd_T52 l1 x6_1).f4) && (((rd_T52 l0 x6_1).f5) == ((rd_T52 l1 x6_1).f5) && (((rd_T52 l0 x6_1).f6) == ((rd_T52 l1 x6_1).f6) && (((rd_T52 l0 x6_1).f7) == ((rd_T52 l1 x6_1).f7))))))))) = false := by simpa using c6))
              (try (have c6b3 : ¬ (((rd_T52 l0 x6_1).f0) = ((rd_T52 l1 x6_1).f0) && (((rd_T52 l0 x6_1).f1) == ((rd_T52 l1 x6_1).f1) && (((rd_T52 l0 x6_1).f2) == ((rd_T52 l1 x6_1).f2) && (((rd_T52 l0 x6_1).f3) == ((rd_T52 l1 x6_1).f3) && (((rd_T52 l0 x6_1).f4) == ((rd_T52 l1 x6_1).f4) && (((rd_T52 l0 x6_1).f5) == ((rd_T52 l1 x6_1).f5) && (((rd_T52 l0 x6_1).f6) == ((rd_T52 l1 x6_1).f6) && (((rd_T52 l0 x6_1).f7) == ((rd_T52 l1 x6_1).f7))))))))) := by simpa using c6))
              clear c6
              by_cases c7 : (x5_1.length : Int) > 0
              · rw [if_pos c7] at H
                have c7b0 : decide (0 < (x5_1.length : Int)) = true := decide_eq_true c7
                have c7b1 : decide (0 < x5_1.length) = true := decide_eq_true (by omega)
                clear c7
                obtain ⟨ji8, hji8⟩ : ∃ j_ : Int, (wrap64 ((x5_1.length : Int) - 1)) = j_ := ⟨_, rfl⟩
                replace H : (if 0 ≤ (ji8) then (if (ji8) < (x5_1.length : Int) then (if (wrap64 (((rd_T54 x5_1 (ji8)).f0) + ((rd_T54 x5_1 (ji8)).f1))) = x6_1 then (standbyref07_VolumeDiffer.l0 k1 l0 l1 (x5_1.set ((ji8) : Int).toNat (⟨(rd_T54 x5_1 (ji8)).f0, wrap64 (((rd_T54 x5_1 (ji8)).f1) + 1)⟩ : S54)) (wrap64 (x6_1 + 1))) else (if x5_1.length < 8796093022208 then (standbyref07_VolumeDiffer.l0 k1 l0 l1 (x5_1 ++ [(⟨x6_1, 1⟩ : S54)]) (wrap64 (x6_1 + 1))) else (none))) else (none)) else (none)) = some r := by first | (rw [hji8] at H; exact H) | (simp only [hji8] at H ⊢; exact H)
                have hji8w : (IntKind.i64.wrap ((x5_1.length : Int) - 1)) = ji8 := (i64_w _).trans hji8
                by_cases c9 : 0 ≤ (ji8)
                · rw [if_pos c9] at H
                  have c9b0 : decide (0 ≤ (ji8)) = true := decide_eq_true c9
                  clear c9
                  by_cases c10 : (ji8) < (x5_1.length : Int)
                  · rw [if_pos c10] at H
                    have c10b0 : decide ((ji8) < (x5_1.length : Int)) = true := decide_eq_true c10
                    clear c10
                    by_cases c11 : (wrap64 (((rd_T54 x5_1 (ji8)).f0) + ((rd_T54 x5_1 (ji8)).f1))) = x6_1
                    · rw [if_pos c11] at H
                      have c11b0 : ((wrap64 (((rd_T54 x5_1 (ji8)).f0) + ((rd_T54 x5_1 (ji8)).f1))) == x6_1) = true := beq_iff_eq.mpr c11
                      have c11b1 : ((wrap64 (((rd_T54 x5_1 (ji8)).f0) + ((rd_T54 x5_1 (ji8)).f1))) != x6_1) = false := bne_eq_false_iff_eq.mpr c11
                      clear c11
                      obtain ⟨y222, hy222⟩ : ∃ y_ : List (S54), y_ = (x5_1.set ((ji8) : Int).toNat (⟨(rd_T54 x5_1 (ji8)).f0, wrap64 (((rd_T54 x5_1 (ji8)).f1) + 1)⟩ : S54)) := ⟨_, rfl⟩
                      replace H : (standbyref07_VolumeDiffer.l0 k1 l0 l1 y222 (wrap64 (x6_1 + 1))) = some r := by first | (rw [hy222]; with_reducible exact H) | (have H2_ := (Option.bind_some _ _).symm.trans H; rw [hy222]; with_reducible exact H2_) | (have H2_ := (Option.bind_some _ _).symm.trans H; with_reducible exact H2_) | with_reducible exact H | (rw [hy222]; exact H) | exact H
                      have Ny222 := Aside0.mk hy222
                      clear hy222
                      have H' := Aside0.mk H
                      clear H
                      have p217 : 0 ≤ (x6_1 : Int) := of_decide_eq_true (by first | (with_reducible assumption) | assumption)
                      have q217 : x6_1 < (l0.length : Int) := of_decide_eq_true (by first | (with_reducible assumption) | assumption)
                      obtain ⟨ad217, e217, hx217_0, hx217_1, hx217_2, hx217_3, hx217_4, hx217_5, hx217_6, hx217_7⟩ := at_T52 HR0.out x6_1 p217 q217
                      cases e217
                      replace hx217_0 := (HB.out.cell (World.block_lt_of_cell? w _ hx217_0)).trans hx217_0
                      replace hx217_1 := (HB.out.cell (World.block_lt_of_cell? w _ hx217_1)).trans hx217_1
                      replace hx217_2 := (HB.out.cell (World.block_lt_of_cell? w _ hx217_2)).trans hx217_2
                      replace hx217_3 := (HB.out.cell (World.block_lt_of_cell? w _ hx217_3)).trans hx217_3
                      replace hx217_4 := (HB.out.cell (World.block_lt_of_cell? w _ hx217_4)).trans hx217_4
                      replace hx217_5 := (HB.out.cell (World.block_lt_of_cell? w _ hx217_5)).trans hx217_5
                      replace hx217_6 := (HB.out.cell (World.block_lt_of_cell? w _ hx217_6)).trans hx217_6
                      replace hx217_7 := (HB.out.cell (World.block_lt_of_cell? w _ hx217_7)).trans hx217_7
                      replace p217 := eq_true p217
                      replace q217 := eq_true q217
                      have p218 : 0 ≤ (x6_1 : Int) := of_decide_eq_true (by first | (with_reducible assumption) | assumption)
                      have q218 : x6_1 < (l1.length : Int) := of_decide_eq_true (by first | (with_reducible assumption) | assumption)
                      obtain ⟨ad218, e218, hx218_0, hx218_1, hx218_2, hx218_3, hx218_4, hx218_5, hx218_6, hx218_7⟩ := at_T52 HR1.out x6_1 p218 q218
                      cases e218
                      replace hx218_0 := (HB.out.cell (World.block_lt_of_cell? w _ hx218_0)).trans hx218_0
                      replace hx218_1 := (HB.out.cell (World.block_lt_of_cell? w _ hx218_1)).trans hx218_1
                      replace hx218_2 := (HB.out.cell (World.block_lt_of_cell? w _ hx218_2)).trans hx218_2
                      replace hx218_3 := (HB.out.cell (World.block_lt_of_cell? w _ hx218_3)).trans hx218_3
                      replace hx218_4 := (HB.out.cell (World.block_lt_of_cell? w _ hx218_4)).trans hx218_4
                      replace hx218_5 := (HB.out.cell (World.block_lt_of_cell? w _ hx218_5)).trans hx218_5
                      replace hx218_6 := (HB.out.cell (World.block_lt_of_cell? w _ hx218_6)).trans hx218_6
                      replace hx218_7 := (HB.out.cell (World.block_lt_of_cell? w _ hx218_7)).trans hx218_7
                      replace p218 := eq_true p218
                      replace q218 := eq_true q218
                      obtain ⟨Ao13, co13, eo13⟩ := Kd.R_slice HO_5.out
                      subst eo13
                      have p219 : 0 ≤ ((ji8) : Int) := of_decide_eq_true (by first | (with_reducible assumption) | assumption)
                      have q219 : (ji8) < (x5_1.length : Int) := of_decide_eq_true (by first | (with_reducible assumption) | assumption)
                      obtain ⟨ad219, e219, hx219_0, hx219_1⟩ := at_T54 (Kd.R_reads' HO_5.out).2.2 (ji8) p219 q219
                      cases e219
                      replace p219 := eq_true p219
                      replace q219 := eq_true q219
                      have p220 : 0 ≤ ((ji8) : Int) := of_decide_eq_true (by first | (with_reducible assumption) | assumption)
                      have q220 : (ji8) < (x5_1.length : Int) := of_decide_eq_true (by first | (with_reducible assumption) | assumption)
                      obtain ⟨ad220, e220, hx220_0, hx220_1⟩ := at_T54 (Kd.R_reads' HO_5.out).2.2 (ji8) p220 q220
                      obtain rfl : ad219 = ad220 := (by injection e220)
                      replace p220 := eq_true p220
                      replace q220 := eq_true q220
                      have p221 : 0 ≤ ((ji8) : Int) := of_decide_eq_true (by first | (with_reducible assumption) | assumption)
                      have q221 : (ji8) < (x5_1.length : Int) := of_decide_eq_true (by first | (with_reducible assumption) | assumption)
                      obtain ⟨ad221, e221, hx221_0, hx221_1⟩ := at_T54 (Kd.R_reads' HO_5.out).2.2 (ji8) p221 q221
                      obtain rfl : ad219 = ad221 := (by injection e221)
                      replace p221 := eq_true p221
                      replace q221 := eq_true q221
                      have p12 : 0 ≤ ((ji8) : Int) := of_decide_eq_true (by first | (with_reducible assumption) | assumption)
                      have q12 : ((ji8) : Int) < ((x5_1.length : Int) : Int) := of_decide_eq_true (by first | (with_reducible assumption) | assumption)
                      obtain ⟨go12, co12, eo12, gb12, gl12, cl12, HG12⟩ := Kd.R_form HO_5.out (by omega)
                      (first | cases eo12 | (injection eo12 with ea_ en_ ec_; (first | subst ea_ | (injection ea_ with ea_; subst ea_)); subst ec_; clear en_))
                      have GB12 := Aside0.mk gb12
                      have GG12 := Aside0.mk HG12
                      clear gb12 gl12 HG12
                      (first | simp only [add_plain] at hx219_0 | skip)
                      (first | simp only [add_plain] at hx219_1 | skip)
                      (first | simp only [add_plain] at hx220_0 | skip)
                      (first | simp only [add_plain] at hx220_1 | skip)
                      (first | simp only [add_plain] at hx221_0 | skip)
                      (first | simp only [add_plain] at hx221_1 | skip)
                      obtain ⟨ce12, hcl12, hM12, hcc12, hfr12⟩ := Kd.R_elem HO_5.out z54 ((ji8) : Int) p12 q12
                      obtain rfl := k54_openM hM12
                      have hx12_0 : wr.cell? ⟨go12, ((ji8) : Int).toNat * 2, none⟩ = some (.int .i64 ((rd_T54 x5_1 (ji8)).f0)) := hcc12 0 _ rfl
                      have hx12_1 : wr.cell? ⟨go12, ((ji8) : Int).toNat * 2 + 1, none⟩ = some (.int .i64 ((rd_T54 x5_1 (ji8)).f1)) := hcc12 1 _ rfl
                      have hf12_0 : wr.frozen? ⟨go12, ((ji8) : Int).toNat * 2, none⟩ = false := hfr12 0
                      have hf12_1 : wr.frozen? ⟨go12, ((ji8) : Int).toNat * 2 + 1, none⟩ = false := hfr12 1
                      clear hcl12 hcc12 hfr12 hM12
                      replace p12 := eq_true p12
                      replace q12 := eq_true q12
                      have HX14 := Aside0.mk (show Kd.R k54 54 wr w.heap.size (fun _ => True) (.slice (some ⟨go12, 0, none⟩) x5_1.length co13) x5_1 from (by (with_reducible repeat (first | apply Kd.R_alloc | apply Kd.R_drewN | apply Kd.R_drew)); exact HO_5.out))
                      obtain ⟨ce14, hcl14, hM14, hcc14, hfr14⟩ := Kd.R_elem HX14.out z54 ((ji8) : Int) (of_decide_eq_true (by first | (with_reducible assumption) | assumption)) (by have h_ : ((ji8) : Int) < ((x5_1.length : Int) : Int) := of_decide_eq_true (by first | (with_reducible assumption) | assumption); first | exact h_ | (have e_ := (Kd.R_reads' HO_5.out).1; omega) | simpa using h_)
                      obtain rfl := k54_openM hM14
                      have HP14 := Kd.R_seg HX14.out ((ji8) : Int) (of_decide_eq_true (by first | (with_reducible assumption) | assumption)) (by have h_ : ((ji8) : Int) < ((x5_1.length : Int) : Int) := of_decide_eq_true (by first | (with_reducible assumption) | assumption); first | exact h_ | (have e_ := (Kd.R_reads' HO_5.out).1; omega) | simpa using h_) (seg := [.int .i64 (wrap64 (((rd_T54 x5_1 (ji8)).f1) + 1))]) (j := 1) hcl14 hcc14 (show 2 ≤ 2 from by decide) (x' := (⟨(rd_T54 x5_1 (ji8)).f0, wrap64 (((rd_T54 x5_1 (ji8)).f1) + 1)⟩ : S54)) (k54_mkM _ _ _ (⟨(rd_T54 x5_1 (ji8)).f0, wrap64 (((rd_T54 x5_1 (ji8)).f1) + 1)⟩ : S54) ) (fun _ hk => hk)
                      have hx14_1 := hcc14 1 _ rfl
                      (try simp only [show (k54).sz = 2 from rfl, Nat.mul_one, Nat.add_zero] at hx14_1)
                      have hf14_1 := hfr14 1
                      (try simp only [show (k54).sz = 2 from rfl, Nat.mul_one, Nat.add_zero] at hf14_1)
                      clear hcl14 hcc14 hfr14 hM14
                      go_wp2_with (first | ((with_reducible refine gate_store (t := 3) (p := 52) rfl ?_); (try (rw [drewN_self wr]; generalize hq_ : World.drewN wr _ = wr; have n0_ := Aside0.mk (Kd.R_at hq_ HO_5.out); have n1_ := Aside0.mk (below_at hq_ HB.out); clear hq_ HO_5 HB; have HO_5 := n0_; have HB := n1_; clear n0_ n1_; (try (have HX14 := Aside0.mk (show Kd.R k54 54 wr w.heap.size (fun _ => True) (.slice (some ⟨go12, 0, none⟩) x5_1.length co13) x5_1 from (by (with_reducible repeat (first | apply Kd.R_alloc | apply Kd.R_drewN | apply Kd.R_drew)); exact HO_5.out)))); (try (obtain ⟨ce14, hcl14, hM14, hcc14, hfr14⟩ := Kd.R_elem HX14.out z54 ((ji8) : Int) (of_decide_eq_true (by first | (with_reducible assumption) | assumption)) (by have h_ : ((ji8) : Int) < ((x5_1.length : Int) : Int) := of_decide_eq_true (by first | (with_reducible assumption) | assumption); first | exact h_ | (have e_ := (Kd.R_reads' HO_5.out).1; omega) | simpa using h_))); (try (obtain rfl := k54_openM hM14)); (try (have HP14 := Kd.R_seg HX14.out ((ji8) : Int) (of_decide_eq_true (by first | (with_reducible assumption) | assumption)) (by have h_ : ((ji8) : Int) < ((x5_1.length : Int) : Int) := of_decide_eq_true (by first | (with_reducible assumption) | assumption); first | exact h_ | (have e_ := (Kd.R_reads' HO_5.out).1; omega) | simpa using h_) (seg := [.int .i64 (wrap64 (((rd_T54 x5_1 (ji8)).f1) + 1))]) (j := 1) hcl14 hcc14 (show 2 ≤ 2 from by decide) (x' := (⟨(rd_T54 x5_1 (ji8)).f0, wrap64 (((rd_T54 x5_1 (ji8)).f1) + 1)⟩ : S54)) (k54_mkM _ _ _ (⟨(rd_T54 x5_1 (ji8)).f0, wrap64 (((rd_T54 x5_1 (ji8)).f1) + 1)⟩ : S54) ) (fun _ hk => hk))); (try (have hx14_1 := hcc14 1 _ rfl)); (try (try simp only [show (k54).sz = 2 from rfl, Nat.mul_one, Nat.add_zero] at hx14_1)); (try (have hf14_1 := hfr14 1)); (try (try simp only [show (k54).sz = 2 from rfl, Nat.mul_one, Nat.add_zero] at hf14_1)); (try (clear hcl14 hcc14 hfr14 hM14)))); refine store_event (t := 3) (p := 52) (v := ?vo_w15) (w1 := (wr.setCell ⟨go12, ((ji8) : Int).toNat * 2 + 1, none⟩ (.int .i64 (wrap64 (((rd_T54 x5_1 (ji8)).f1) + 1))))) ?hg ?ho ?hn ?hr ?_; (case ho => rfl); (case hg => rfl); (case hn => rfl); (case hr => first | (go_simp; done) | (go_simp; rfl)); intro w15 hw; have hg : wr.grownBy w15 (some go12) := (by rw [hw]; exact HP14.2); have hp_ : Kd.R k54 54 w15 w.heap.size (fun _ => True) (.slice (some ⟨go12, 0, none⟩) x5_1.length co13) y222 := (by rw [hw, Ny222.out]; exact HP14.1); clear HP14; have n0_ := Aside0.mk (hp_); have n1_ := Aside0.mk ((by rw [hw]; exact below_set (HB.out) GB12.out : Below w.heap.size w w15)); clear HO_5; clear HB; have HO_5 := n0_; have HB := n1_; clear n0_ n1_; clear hg hw hp_))
                      repeat (go_quiet (first | ((with_reducible refine gate_store (t := 3) (p := 52) rfl ?_); (try (rw [drewN_self wr]; generalize hq_ : World.drewN wr _ = wr; have n0_ := Aside0.mk (Kd.R_at hq_ HO_5.out); have n1_ := Aside0.mk (below_at hq_ HB.out); clear hq_ HO_5 HB; have HO_5 := n0_; have HB := n1_; clear n0_ n1_; (try (have HX14 := Aside0.mk (show Kd.R k54 54 wr w.heap.size (fun _ => True) (.slice (some ⟨go12, 0, none⟩) x5_1.length co13) x5_1 from (by (with_reducible repeat (first | apply Kd.R_alloc | apply Kd.R_drewN | apply Kd.R_drew)); exact HO_5.out)))); (try (obtain ⟨ce14, hcl14, hM14, hcc14, hfr14⟩ := Kd.R_elem HX14.out z54 ((ji8) : Int) (of_decide_eq_true (by first | (with_reducible assumption) | assumption)) (by have h_ : ((ji8) : Int) < ((x5_1.length : Int) : Int) := of_decide_eq_true (by first | (with_reducible assumption) | assumption); first | exact h_ | (have e_ := (Kd.R_reads' HO_5.out).1; omega) | simpa using h_))); (try (obtain rfl := k54_openM hM14)); (try (have HP14 := Kd.R_seg HX14.out ((ji8) : Int) (of_decide_eq_true (by first | (with_reducible assumption) | assumption)) (by have h_ : ((ji8) : Int) < ((x5_1.length : Int) : Int) := of_decide_eq_true (by first | (with_reducible assumption) | assumption); first | exact h_ | (have e_ := (Kd.R_reads' HO_5.out).1; omega) | simpa using h_) (seg := [.int .i64 (wrap64 (((rd_T54 x5_1 (ji8)).f1) + 1))]) (j := 1) hcl14 hcc14 (show 2 ≤ 2 from by decide) (x' := (⟨(rd_T54 x5_1 (ji8)).f0, wrap64 (((rd_T54 x5_1 (ji8)).f1) + 1)⟩ : S54)) (k54_mkM _ _ _ (⟨(rd_T54 x5_1 (ji8)).f0, wrap64 (((rd_T54 x5_1 (ji8)).f1) + 1)⟩ : S54) ) (fun _ hk => hk))); (try (have hx14_1 := hcc14 1 _ rfl)); (try (try simp only [show (k54).sz = 2 from rfl, Nat.mul_one, Nat.add_zero] at hx14_1)); (try (have hf14_1 := hfr14 1)); (try (try simp only [show (k54).sz = 2 from rfl, Nat.mul_one, Nat.add_zero] at hf14_1)); (try (clear hcl14 hcc14 hfr14 hM14)))); refine store_event (t := 3) (p := 52) (v := ?vo_w15) (w1 := (wr.setCell ⟨go12, ((ji8) : Int).toNat * 2 + 1, none⟩ (.int .i64 (wrap64 (((rd_T54 x5_1 (ji8)).f1) + 1))))) ?hg ?ho ?hn ?hr ?_; (case ho => rfl); (case hg => rfl); (case hn => rfl); (case hr => first | (go_simp; done) | (go_simp; rfl)); intro w15 hw; have hg : wr.grownBy w15 (some go12) := (by rw [hw]; exact HP14.2); have hp_ : Kd.R k54 54 w15 w.heap.size (fun _ => True) (.slice (some ⟨go12, 0, none⟩) x5_1.length co13) y222 := (by rw [hw, Ny222.out]; exact HP14.1); clear HP14; have n0_ := Aside0.mk (hp_); have n1_ := Aside0.mk ((by rw [hw]; exact below_set (HB.out) GB12.out : Below w.heap.size w w15)); clear HO_5; clear HB; have HO_5 := n0_; have HB := n1_; clear n0_ n1_; clear hg hw hp_)); try go_wp2_with (first | ((with_reducible refine gate_store (t := 3) (p := 52) rfl ?_); (try (rw [drewN_self wr]; generalize hq_ : World.drewN wr _ = wr; have n0_ := Aside0.mk (Kd.R_at hq_ HO_5.out); have n1_ := Aside0.mk (below_at hq_ HB.out); clear hq_ HO_5 HB; have HO_5 := n0_; have HB := n1_; clear n0_ n1_; (try (have HX14 := Aside0.mk (show Kd.R k54 54 wr w.heap.size (fun _ => True) (.slice (some ⟨go12, 0, none⟩) x5_1.length co13) x5_1 from (by (with_reducible repeat (first | apply Kd.R_alloc | apply Kd.R_drewN | apply Kd.R_drew)); exact HO_5.out)))); (try (obtain ⟨ce14, hcl14, hM14, hcc14, hfr14⟩ := Kd.R_elem HX14.out z54 ((ji8) : Int) (of_decide_eq_true (by first | (with_reducible assumption) | assumption)) (by have h_ : ((ji8) : Int) < ((x5_1.length : Int) : Int) := of_decide_eq_true (by first | (with_reducible assumption) | assumption); first | exact h_ | (have e_ := (Kd.R_reads' HO_5.out).1; omega) | simpa using h_))); (try (obtain rfl := k54_openM hM14)); (try (have HP14 := Kd.R_seg HX14.out ((ji8) : Int) (of_decide_eq_true (by first | (with_reducible assumption) | assumption)) (by have h_ : ((ji8) : Int) < ((x5_1.length : Int) : Int) := of_decide_eq_true (by first | (with_reducible assumption) | assumption); first | exact h_ | (have e_ := (Kd.R_reads' HO_5.out).1; omega) | simpa using h_) (seg := [.int .i64 (wrap64 (((rd_T54 x5_1 (ji8)).f1) + 1))]) (j := 1) hcl14 hcc14 (show 2 ≤ 2 from by decide) (x' := (⟨(rd_T54 x5_1 (ji8)).f0, wrap64 (((rd_T54 x5_1 (ji8)).f1) + 1)⟩ : S54)) (k54_mkM _ _ _ (⟨(rd_T54 x5_1 (ji8)).f0, wrap64 (((rd_T54 x5_1 (ji8)).f1) + 1)⟩ : S54) ) (fun _ hk => hk))); (try (have hx14_1 := hcc14 1 _ rfl)); (try (try simp only [show (k54).sz = 2 from rfl, Nat.mul_one, Nat.add_zero] at hx14_1)); (try (have hf14_1 := hfr14 1)); (try (try simp only [show (k54).sz = 2 from rfl, Nat.mul_one, Nat.add_zero] at hf14_1)); (try (clear hcl14 hcc14 hfr14 hM14)))); refine store_event (t := 3) (p := 52) (v := ?vo_w15) (w1 := (wr.setCell ⟨go12, ((ji8) : Int).toNat * 2 + 1, none⟩ (.int .i64 (wrap64 (((rd_T54 x5_1 (ji8)).f1) + 1))))) ?hg ?ho ?hn ?hr ?_; (case ho => rfl); (case hg => rfl); (case hn => rfl); (case hr => first | (go_simp; done) | (go_simp; rfl)); intro w15 hw; have hg : wr.grownBy w15 (some go12) := (by rw [hw]; exact HP14.2); have hp_ : Kd.R k54 54 w15 w.heap.size (fun _ => True) (.slice (some ⟨go12, 0, none⟩) x5_1.length co13) y222 := (by rw [hw, Ny222.out]; exact HP14.1); clear HP14; have n0_ := Aside0.mk (hp_); have n1_ := Aside0.mk ((by rw [hw]; exact below_set (HB.out) GB12.out : Below w.heap.size w w15)); clear HO_5; clear HB; have HO_5 := n0_; have HB := n1_; clear n0_ n1_; clear hg hw hp_)))
                      go_roundg k1
                      case measure => have := HK1.out; omega
                      case rel => exact ⟨(y222), (wrap64 (x6_1 + 1)), (by first | rfl | (simp; done) | (simp [*]; done)), H', ⟨by have := HK1.out; omega⟩, ⟨by (with_reducible repeat (first | apply Kd.R_alloc | apply Kd.R_drewN | apply Kd.R_drew)); exact HO_5.out⟩, ⟨by repeat (first | (with_reducible first | exact HB.out | apply below_alloc | apply pw_below_drewN | apply below_drew1) | exact HB.out)⟩⟩
                    · rw [if_neg c11] at H
                      have c11b0 : ((wrap64 (((rd_T54 x5_1 (ji8)).f0) + ((rd_T54 x5_1 (ji8)).f1))) == x6_1) = false := beq_eq_false_iff_ne.mpr c11
                      have c11b1 : ((wrap64 (((rd_T54 x5_1 (ji8)).f0) + ((rd_T54 x5_1 (ji8)).f1))) != x6_1) = true := bne_iff_ne.mpr c11
                      by_cases c16 : x5_1.length < 8796093022208
                      · rw [if_pos c16] at H
                        have LMc16 := Aside0.mk c16
                        clear c16
                        obtain ⟨y223, hy223⟩ : ∃ y_ : List (S54), y_ = (x5_1 ++ [(⟨x6_1, 1⟩ : S54)]) := ⟨_, rfl⟩
                        replace H : (standbyref07_VolumeDiffer.l0 k1 l0 l1 y223 (wrap64 (x6_1 + 1))) = some r := by first | (rw [hy223]; with_reducible exact H) | (have H2_ := (Option.bind_some _ _).symm.trans H; rw [hy223]; with_reducible exact H2_) | (have H2_ := (Option.bind_some _ _).symm.trans H; with_reducible exact H2_) | with_reducible exact H | (rw [hy223]; exact H) | exact H
                        have Ny223 := Aside0.mk hy223
                        clear hy223
                        have H' := Aside0.mk H
                        clear H
                        have p217 : 0 ≤ (x6_1 : Int) := of_decide_eq_true (by first | (with_reducible assumption) | assumption)
                        have q217 : x6_1 < (l0.length : Int) := of_decide_eq_true (by first | (with_reducible assumption) | assumption)
                        obtain ⟨ad217, e217, hx217_0, hx217_1, hx217_2, hx217_3, hx217_4, hx217_5, hx217_6, hx217_7⟩ := at_T52 HR0.out x6_1 p217 q217
                        cases e217
                        replace hx217_0 := (HB.out.cell (World.block_lt_of_cell? w _ hx217_0)).trans hx217_0
                        replace hx217_1 := (HB.out.cell (World.block_lt_of_cell? w _ hx217_1)).trans hx217_1
                        replace hx217_2 := (HB.out.cell (World.block_lt_of_cell? w _ hx217_2)).trans hx217_2
                        replace hx217_3 := (HB.out.cell (World.block_lt_of_cell? w _ hx217_3)).trans hx217_3
                        replace hx217_4 := (HB.out.cell (World.block_lt_of_cell? w _ hx217_4)).trans hx217_4
                        replace hx217_5 := (HB.out.cell (World.block_lt_of_cell? w _ hx217_5)).trans hx217_5
                        replace hx217_6 := (HB.out.cell (World.block_lt_of_cell? w _ hx217_6)).trans hx217_6
                        replace hx217_7 := (HB.out.cell (World.block_lt_of_cell? w _ hx217_7)).trans hx217_7
                        replace p217 := eq_true p217
                        replace q217 := eq_true q217
                        have p218 : 0 ≤ (x6_1 : Int) := of_decide_eq_true (by first | (with_reducible assumption) | assumption)
                        have q218 : x6_1 < (l1.length : Int) := of_decide_eq_true (by first | (with_reducible assumption) | assumption)
                        obtain ⟨ad218, e218, hx218_0, hx218_1, hx218_2, hx218_3, hx218_4, hx218_5, hx218_6, hx218_7⟩ := at_T52 HR1.out x6_1 p218 q218
                        cases e218
                        replace hx218_0 := (HB.out.cell (World.block_lt_of_cell? w _ hx218_0)).trans hx218_0
                        replace hx218_1 := (HB.out.cell (World.block_lt_of_cell? w _ hx218_1)).trans hx218_1
                        replace hx218_2 := (HB.out.cell (World.block_lt_of_cell? w _ hx218_2)).trans hx218_2
                        replace hx218_3 := (HB.out.cell (World.block_lt_of_cell? w _ hx218_3)).trans hx218_3
                        replace hx218_4 := (HB.out.cell (World.block_lt_of_cell? w _ hx218_4)).trans hx218_4
                        replace hx218_5 := (HB.out.cell (World.block_lt_of_cell? w _ hx218_5)).trans hx218_5
                        replace hx218_6 := (HB.out.cell (World.block_lt_of_cell? w _ hx218_6)).trans hx218_6
                        replace hx218_7 := (HB.out.cell (World.block_lt_of_cell? w _ hx218_7)).trans hx218_7
                        replace p218 := eq_true p218
                        replace q218 := eq_true q218
                        obtain ⟨Ao17, co17, eo17⟩ := Kd.R_slice HO_5.out
                        subst eo17
                        have p219 : 0 ≤ ((ji8) : Int) := of_decide_eq_true (by first | (with_reducible assumption) | assumption)
                        have q219 : (ji8) < (x5_1.length : Int) := of_decide_eq_true (by first | (with_reducible assumption) | assumption)
                        obtain ⟨ad219, e219, hx219_0, hx219_1⟩ := at_T54 (Kd.R_reads' HO_5.out).2.2 (ji8) p219 q219
                        cases e219
                        replace p219 := eq_true p219
                        replace q219 := eq_true q219
                        have p220 : 0 ≤ ((ji8) : Int) := of_decide_eq_true (by first | (with_reducible assumption) | assumption)
                        have q220 : (ji8) < (x5_1.length : Int) := of_decide_eq_true (by first | (with_reducible assumption) | assumption)
                        obtain ⟨ad220, e220, hx220_0, hx220_1⟩ := at_T54 (Kd.R_reads' HO_5.out).2.2 (ji8) p220 q220
                        obtain rfl : ad219 = ad220 := (by injection e220)
                        replace p220 := eq_true p220
                        replace q220 := eq_true q220
                        go_wp2_with (first | ((with_reducible refine gate_builtin (b := .append) (xs := #[.tmp 53, .tmp 56]) rfl ?_); at_builtin; refine Kd.R_append k54 (w0 := w) w.heap.size rfl (.tmp 53) (.tmp 56) 50 54 (.agg #[(.int .i64 0), (.int .i64 0)]) 16 rfl Try.underlying50 info54 rfl (by decide) (by omega) (.slice (some ad219) x5_1.length co17) x5_1 (⟨x6_1, 1⟩ : S54) [.int .i64 x6_1, .int .i64 1] (fun _ => True) (fun _ => False) rfl rfl ?aP (fun _ hk => hk.elim) ?aF ?aO ?aB ?aS ?aL ?_; (case aP => exact k54_mkM _ _ _ (⟨x6_1, 1⟩ : S54)); (case aB => exact (by repeat (first | (with_reducible first | exact HB.out | apply below_alloc | apply pw_below_drewN | apply below_drew1) | exact HB.out))); (case aF => exact (fun _ _ => trivial)); (case aO => exact (by (with_reducible repeat (first | apply Kd.R_alloc | apply Kd.R_drewN | apply Kd.R_drew)); exact HO_5.out)); (case aS => exact (below_size (by repeat (first | (with_reducible first | exact HB.out | apply below_alloc | apply pw_below_drewN | apply below_drew1) | exact HB.out)))); (case aL => have := LMc16.out; omega); intro v224 w18 ho hb hg hat; rw [← Ny223.out] at ho; have n0_ := Aside0.mk (hb); have n1_ := Aside0.mk (ho); clear HB; clear HO_5; have HB := n0_; have HO225 := n1_; clear n0_ n1_; clear ho hb hg hat))
                        repeat (go_quiet (first | ((with_reducible refine gate_builtin (b := .append) (xs := #[.tmp 53, .tmp 56]) rfl ?_); at_builtin; refine Kd.R_append k54 (w0 := w) w.heap.size rfl (.tmp 53) (.tmp 56) 50 54 (.agg #[(.int .i64 0), (.int .i64 0)]) 16 rfl Try.underlying50 info54 rfl (by decide) (by omega) (.slice (some ad219) x5_1.length co17) x5_1 (⟨x6_1, 1⟩ : S54) [.int .i64 x6_1, .int .i64 1] (fun _ => True) (fun _ => False) rfl rfl ?aP (fun _ hk => hk.elim) ?aF ?aO ?aB ?aS ?aL ?_; (case aP => exact k54_mkM _ _ _ (⟨x6_1, 1⟩ : S54)); (case aB => exact (by repeat (first | (with_reducible first | exact HB.out | apply below_alloc | apply pw_below_drewN | apply below_drew1) | exact HB.out))); (case aF => exact (fun _ _ => trivial)); (case aO => exact (by (with_reducible repeat (first | apply Kd.R_alloc | apply Kd.R_drewN | apply Kd.R_drew)); exact HO_5.out)); (case aS => exact (below_size (by repeat (first | (with_reducible first | exact HB.out | apply below_alloc | apply pw_below_drewN | apply below_drew1) | exact HB.out)))); (case aL => have := LMc16.out; omega); intro v224 w18 ho hb hg hat; rw [← Ny223.out] at ho; have n0_ := Aside0.mk (hb); have n1_ := Aside0.mk (ho); clear HB; clear HO_5; have HB := n0_; have HO225 := n1_; clear n0_ n1_; clear ho hb hg hat)); try go_wp2_with (first | ((with_reducible refine gate_builtin (b := .append) (xs := #[.tmp 53, .tmp 56]) rfl ?_); at_builtin; refine Kd.R_append k54 (w0 := w) w.heap.size rfl (.tmp 53) (.tmp 56) 50 54 (.agg #[(.int .i64 0), (.int .i64 0)]) 16 rfl Try.underlying50 info54 rfl (by decide) (by omega) (.slice (some ad219) x5_1.length co17) x5_1 (⟨x6_1, 1⟩ : S54) [.int .i64 x6_1, .int .i64 1] (fun _ => True) (fun _ => False) rfl rfl ?aP (fun _ hk => hk.elim) ?aF ?aO ?aB ?aS ?aL ?_; (case aP => exact k54_mkM _ _ _ (⟨x6_1, 1⟩ : S54)); (case aB => exact (by repeat (first | (with_reducible first | exact HB.out | apply below_alloc | apply pw_below_drewN | apply below_drew1) | exact HB.out))); (case aF => exact (fun _ _ => trivial)); (case aO => exact (by (with_reducible repeat (first | apply Kd.R_alloc | apply Kd.R_drewN | apply Kd.R_drew)); exact HO_5.out)); (case aS => exact (below_size (by repeat (first | (with_reducible first | exact HB.out | apply below_alloc | apply pw_below_drewN | apply below_drew1) | exact HB.out)))); (case aL => have := LMc16.out; omega); intro v224 w18 ho hb hg hat; rw [← Ny223.out] at ho; have n0_ := Aside0.mk (hb); have n1_ := Aside0.mk (ho); clear HB; clear HO_5; have HB := n0_; have HO225 := n1_; clear n0_ n1_; clear ho hb hg hat)))
                        go_roundg k1
                        case measure => have := HK1.out; omega
                        case rel => exact ⟨(y223), (wrap64 (x6_1 + 1)), (by first | rfl | (simp; done) | (simp [*]; done)), H', ⟨by have := HK1.out; omega⟩, ⟨by (with_reducible repeat (first | apply Kd.R_alloc | apply Kd.R_drewN | apply Kd.R_drew)); exact HO225.out⟩, ⟨by repeat (first | (with_reducible first | exact HB.out | apply below_alloc | apply pw_below_drewN | apply below_drew1) | exact HB.out)⟩⟩
                      · rw [if_neg c16] at H
                        exact absurd H (by simp)
                  · rw [if_neg c10] at H
                    exact absurd H (by simp)
                · rw [if_neg c9] at H
                  exact absurd H (by simp)
              · rw [if_neg c7] at H
                have c7b0 : decide (0 < (x5_1.length : Int)) = false := decide_eq_false c7
                have c7b1 : decide (0 < x5_1.length) = false := decide_eq_false (by omega)
                clear c7
                by_cases c19 : x5_1.length < 8796093022208
                · rw [if_pos c19] at H
                  have LMc19 := Aside0.mk c19
                  clear c19
                  obtain ⟨y226, hy226⟩ : ∃ y_ : List (S54), y_ = (x5_1 ++ [(⟨x6_1, 1⟩ : S54)]) := ⟨_, rfl⟩
                  replace H : (standbyref07_VolumeDiffer.l0 k1 l0 l1 y226 (wrap64 (x6_1 + 1))) = some r := by first | (rw [hy226]; with_reducible exact H) | (have H2_ := (Option.bind_some _ _).symm.trans H; rw [hy226]; with_reducible exact H2_) | (have H2_ := (Option.bind_some _ _).symm.trans H; with_reducible exact H2_) | with_reducible exact H | (rw [hy226]; exact H) | exact H
                  have Ny226 := Aside0.mk hy226
                  clear hy226
                  have H' := Aside0.mk H
                  clear H
                  have p217 : 0 ≤ (x6_1 : Int) := of_decide_eq_true (by first | (with_reducible assumption) | assumption)
                  have q217 : x6_1 < (l0.length : Int) := of_decide_eq_true (by first | (with_reducible assumption) | assumption)
                  obtain ⟨ad217, e217, hx217_0, hx217_1, hx217_2, hx217_3, hx217_4, hx217_5, hx217_6, hx217_7⟩ := at_T52 HR0.out x6_1 p217 q217
                  cases e217
                  replace hx217_0 := (HB.out.cell (World.block_lt_of_cell? w _ hx217_0)).trans hx217_0
                  replace hx217_1 := (HB.out.cell (World.block_lt_of_cell? w _ hx217_1)).trans hx217_1
                  replace hx217_2 := (HB.out.cell (World.block_lt_of_cell? w _ hx217_2)).trans hx217_2
                  replace hx217_3 := (HB.out.cell (World.block_lt_of_cell? w _ hx217_3)).trans hx217_3
                  replace hx217_4 := (HB.out.cell (World.block_lt_of_cell? w _ hx217_4)).trans hx217_4
                  replace hx217_5 := (HB.out.cell (World.block_lt_of_cell? w _ hx217_5)).trans hx217_5
                  replace hx217_6 := (HB.out.cell (World.block_lt_of_cell? w _ hx217_6)).trans hx217_6
                  replace hx217_7 := (HB.out.cell (World.block_lt_of_cell? w _ hx217_7)).trans hx217_7
                  replace p217 := eq_true p217
                  replace q217 := eq_true q217
                  have p218 : 0 ≤ (x6_1 : Int) := of_decide_eq_true (by first | (with_reducible assumption) | assumption)
                  have q218 : x6_1 < (l1.length : Int) := of_decide_eq_true (by first | (with_reducible assumption) | assumption)
                  obtain ⟨ad218, e218, hx218_0, hx218_1, hx218_2, hx218_3, hx218_4, hx218_5, hx218_6, hx218_7⟩ := at_T52 HR1.out x6_1 p218 q218
                  cases e218
                  replace hx218_0 := (HB.out.cell (World.block_lt_of_cell? w _ hx218_0)).trans hx218_0
                  replace hx218_1 := (HB.out.cell (World.block_lt_of_cell? w _ hx218_1)).trans hx218_1
                  replace hx218_2 := (HB.out.cell (World.block_lt_of_cell? w _ hx218_2)).trans hx218_2
                  replace hx218_3 := (HB.out.cell (World.block_lt_of_cell? w _ hx218_3)).trans hx218_3
                  replace hx218_4 := (HB.out.cell (World.block_lt_of_cell? w _ hx218_4)).trans hx218_4
                  replace hx218_5 := (HB.out.cell (World.block_lt_of_cell? w _ hx218_5)).trans hx218_5
                  replace hx218_6 := (HB.out.cell (World.block_lt_of_cell? w _ hx218_6)).trans hx218_6
                  replace hx218_7 := (HB.out.cell (World.block_lt_of_cell? w _ hx218_7)).trans hx218_7
                  replace p218 := eq_true p218
                  replace q218 := eq_true q218
                  obtain ⟨Ao20, co20, eo20⟩ := Kd.R_slice HO_5.out
                  subst eo20
                  go_wp2_with (first | ((with_reducible refine gate_builtin (b := .append) (xs := #[.tmp 53, .tmp 56]) rfl ?_); at_builtin; refine Kd.R_append k54 (w0 := w) w.heap.size rfl (.tmp 53) (.tmp 56) 50 54 (.agg #[(.int .i64 0), (.int .i64 0)]) 16 rfl Try.underlying50 info54 rfl (by decide) (by omega) (.slice Ao20 x5_1.length co20) x5_1 (⟨x6_1, 1⟩ : S54) [.int .i64 x6_1, .int .i64 1] (fun _ => True) (fun _ => False) rfl rfl ?aP (fun _ hk => hk.elim) ?aF ?aO ?aB ?aS ?aL ?_; (case aP => exact k54_mkM _ _ _ (⟨x6_1, 1⟩ : S54)); (case aB => exact (by repeat (first | (with_reducible first | exact HB.out | apply below_alloc | apply pw_below_drewN | apply below_drew1) | exact HB.out))); (case aF => exact (fun _ _ => trivial)); (case aO => exact (by (with_reducible repeat (first | apply Kd.R_alloc | apply Kd.R_drewN | apply Kd.R_drew)); exact HO_5.out)); (case aS => exact (below_size (by repeat (first | (with_reducible first | exact HB.out | apply below_alloc | apply pw_below_drewN | apply below_drew1) | exact HB.out)))); (case aL => have := LMc19.out; omega); intro v227 w21 ho hb hg hat; rw [← Ny226.out] at ho; have n0_ := Aside0.mk (hb); have n1_ := Aside0.mk (ho); clear HB; clear HO_5; have HB := n0_; have HO228 := n1_; clear n0_ n1_; clear ho hb hg hat))
                  repeat (go_quiet (first | ((with_reducible refine gate_builtin (b := .append) (xs := #[.tmp 53, .tmp 56]) rfl ?_); at_builtin; refine Kd.R_append k54 (w0 := w) w.heap.size rfl (.tmp 53) (.tmp 56) 50 54 (.agg #[(.int .i64 0), (.int .i64 0)]) 16 rfl Try.underlying50 info54 rfl (by decide) (by omega) (.slice Ao20 x5_1.length co20) x5_1 (⟨x6_1, 1⟩ : S54) [.int .i64 x6_1, .int .i64 1] (fun _ => True) (fun _ => False) rfl rfl ?aP (fun _ hk => hk.elim) ?aF ?aO ?aB ?aS ?aL ?_; (case aP => exact k54_mkM _ _ _ (⟨x6_1, 1⟩ : S54)); (case aB => exact (by repeat (first | (with_reducible first | exact HB.out | apply below_alloc | apply pw_below_drewN | apply below_drew1) | exact HB.out))); (case aF => exact (fun _ _ => trivial)); (case aO => exact (by (with_reducible repeat (first | apply Kd.R_alloc | apply Kd.R_drewN | apply Kd.R_drew)); exact HO_5.out)); (case aS => exact (below_size (by repeat (first | (with_reducible first | exact HB.out | apply below_alloc | apply pw_below_drewN | apply below_drew1) | exact HB.out)))); (case aL => have := LMc19.out; omega); intro v227 w21 ho hb hg hat; rw [← Ny226.out] at ho; have n0_ := Aside0.mk (hb); have n1_ := Aside0.mk (ho); clear HB; clear HO_5; have HB := n0_; have HO228 := n1_; clear n0_ n1_; clear ho hb hg hat)); try go_wp2_with (first | ((with_reducible refine gate_builtin (b := .append) (xs := #[.tmp 53, .tmp 56]) rfl ?_); at_builtin; refine Kd.R_append k54 (w0 := w) w.heap.size rfl (.tmp 53) (.tmp 56) 50 54 (.agg #[(.int .i64 0), (.int .i64 0)]) 16 rfl Try.underlying50 info54 rfl (by decide) (by omega) (.slice Ao20 x5_1.length co20) x5_1 (⟨x6_1, 1⟩ : S54) [.int .i64 x6_1, .int .i64 1] (fun _ => True) (fun _ => False) rfl rfl ?aP (fun _ hk => hk.elim) ?aF ?aO ?aB ?aS ?aL ?_; (case aP => exact k54_mkM _ _ _ (⟨x6_1, 1⟩ : S54)); (case aB => exact (by repeat (first | (with_reducible first | exact HB.out | apply below_alloc | apply pw_below_drewN | apply below_drew1) | exact HB.out))); (case aF => exact (fun _ _ => trivial)); (case aO => exact (by (with_reducible repeat (first | apply Kd.R_alloc | apply Kd.R_drewN | apply Kd.R_drew)); exact HO_5.out)); (case aS => exact (below_size (by repeat (first | (with_reducible first | exact HB.out | apply below_alloc | apply pw_below_drewN | apply below_drew1) | exact HB.out)))); (case aL => have := LMc19.out; omega); intro v227 w21 ho hb hg hat; rw [← Ny226.out] at ho; have n0_ := Aside0.mk (hb); have n1_ := Aside0.mk (ho); clear HB; clear HO_5; have HB := n0_; have HO228 := n1_; clear n0_ n1_; clear ho hb hg hat)))
                  go_roundg k1
                  case measure => have := HK1.out; omega
                  case rel => exact ⟨(y226), (wrap64 (x6_1 + 1)), (by first | rfl | (simp; done) | (simp [*]; done)), H', ⟨by have := HK1.out; omega⟩, ⟨by (with_reducible repeat (first | apply Kd.R_alloc | apply Kd.R_drewN | apply Kd.R_drew)); exact HO228.out⟩, ⟨by repeat (first | (with_reducible first | exact HB.out | apply below_alloc | apply pw_below_drewN | apply below_drew1) | exact HB.out)⟩⟩
                · rw [if_neg c19] at H
                  exact absurd H (by simp)
          · rw [if_neg c5] at H
            exact absurd H (by simp)
        · rw [if_neg c4] at H
          exact absurd H (by simp)
      · rw [if_neg c3] at H
        have c3b0 : decide (x6_1 < (l0.length : Int)) = false := decide_eq_false c3
        clear c3
        obtain rfl := Option.some.inj H
        go_wp2
        repeat (go_quiet (fail); try go_wp2)
        go_ret
        exact ⟨_, by first | rfl | (simp [errW_none, errW_some] <;> rfl) | (simp [*, errW_none, errW_some] <;> rfl), by (with_reducible repeat (first | apply Kd.R_alloc | apply Kd.R_drewN | apply Kd.R_drew)); exact HO_5.out, by repeat (first | (with_reducible first | exact HB.out | apply below_alloc | apply pw_below_drewN | apply below_drew1) | exact HB.out)⟩
def standbyref07_Differ.l0 : Nat → List (List (S52)) → List (List (S52)) → List (List (S54)) → Int → Option ((List (List (S54))) × Int)
  | 0, _, _, _, _ => none
  | k + 1, x0, x1, x7, x8 => if x8 < (x0.length : Int) then (if 0 ≤ x8 then (if x8 < (x1.length : Int) then ((standbyref07_VolumeDiffer.f k (rd_L2 x0 x8) (rd_L2 x1 x8)).bind fun t232 => (if x7.length < 5864062014805 then (standbyref07_Differ.l0 k x0 x1 (x7 ++ [t232]) (wrap64 (x8 + 1))) else (none))) else (none)) else (none)) else (some (x7, 0))
def standbyref07_Differ.f (k : Nat) (l0 : List (List (S52))) (l1 : List (List (S52))) : Option ((List (List (S54))) × Int) := (standbyref07_pair.f k l0 l1).bind fun t229 => (if t229 = 0 then (standbyref07_Differ.l0 k l0 l1 ([] : List (List (S54))) 0) else (some (([] : List (List (S54))), t229)))
def standbyref07_Differ.T8 : Bool × List (List Nat × List Nat) := (true, [([], []), ([], []), ([], []), ([1, 2], [1, 2]), ([3], [3]), ([], []), ([], []), ([5, 6], [5, 6]), ([7], [7]), ([4, 8], [4, 8]), ([9], [9]), ([0, 10, 9], [0, 10]), ([11, 11, 0, 1, 2, 3, 4, 5, 6, 7, 8, 9, 10, 11], [0, 11])])
def standbyref07_Differ.B8 : List Nat := [0, 0, 0, 6, 14, 0, 0, 96, 224, 510, 1022, 2047, 4095]
theorem standbyref07_Differ.tab8 : rtab .any (opsOf Try.f27 8) = standbyref07_Differ.T8 := by kernel_rfl
theorem standbyref07_Differ.bits8 : waitsOk standbyref07_Differ.T8.2 standbyref07_Differ.B8 = true := by kernel_rfl
set_option maxHeartbeats 8000000 in
set_option maxRecDepth 100000 in
theorem standbyref07_Differ.calls (k : Nat) (A0 : Option Addr) (c0 : Nat) (l0 : List (List (S52))) (A1 : Option Addr) (c1 : Nat) (l1 : List (List (S52))) (r1 : List (List (S54))) (r2 : Int) (w : World) (hr0 : Kd.C (Kd.slice 52 k52) w A0 l0.length l0) (hc0 : l0.length ≤ c0) (hr1 : Kd.C (Kd.slice 52 k52) w A1 l1.length l1) (hc1 : l1.length ≤ c1) (h : standbyref07_Differ.f k l0 l1 = some (r1, r2)) :
    Calls Try.prog 27 #[.slice A0 l0.length c0, .slice A1 l1.length c1] w fun e w' => ∃ v0_ : Value, e = .returned (.tuple #[v0_, .int .i64 r2]) ∧ Kd.S (Kd.slice 54 k54) 50 w' w.heap.size (fun _ => True) v0_ r1 ∧ Below w.heap.size w w' := by
  have HR0 := Aside0.mk hr0
  have HC0 := Aside0.mk hc0
  clear hr0 hc0
  have HR1 := Aside0.mk hr1
  have HC1 := Aside0.mk hc1
  clear hr1 hc1
  have HB := Aside0.mk (Below.refl w.heap.size w)
  have H : ((standbyref07_pair.f k l0 l1).bind fun t229 => (if t229 = 0 then (standbyref07_Differ.l0 k l0 l1 ([] : List (List (S54))) 0) else (some (([] : List (List (S54))), t229)))) = some (r1, r2) := h
  clear h
  replace H := Option.bind_eq_some_iff.mp H
  obtain ⟨t229, A30, H⟩ := H
  replace H : (if t229 = 0 then (standbyref07_Differ.l0 k l0 l1 ([] : List (List (S54))) 0) else (some (([] : List (List (S54))), t229))) = some (r1, r2) := H
  have A3 := Aside0.mk A30
  clear A30
  by_cases c4 : t229 = 0
  · rw [if_pos c4] at H
    have c4b0 : (t229 == 0) = true := beq_iff_eq.mpr c4
    have c4b1 : (t229 != 0) = false := bne_eq_false_iff_eq.mpr c4
    clear c4
    have H' := Aside0.mk H
    clear H
    go_enter Try.func27, Try.ntmps27
    go_wp2_with (first | ((with_reducible refine gate_callee (f := 55) rfl ?_); refine goesL_ (some 11) rfl rfl Try.func55 (by kernel_rfl) rfl #[.slice A0 l0.length c0, .slice A1 l1.length c1] rfl (by (try simp only [List.map_toArray, List.map_cons, List.map_nil]); first | done | rfl | (simp only [List.length_drop, List.length_take]; rfl)) ?_; (with_reducible refine (standbyref07_pair.calls k _ _ l0 _ _ l1 t229 _ ?side1 ?side2 ?side3 ?side4 A3.out).mono ?_); (case side1 => repeat (first | exact HR0.out | (with_reducible refine Kd.C_alloc ?_ _) | (with_reducible refine Kd.C_drewN ?_ _) | (with_reducible refine Kd.C_drew ?_))); (case side2 => exact HC0.out); (case side3 => repeat (first | exact HR1.out | (with_reducible refine Kd.C_alloc ?_ _) | (with_reducible refine Kd.C_drewN ?_ _) | (with_reducible refine Kd.C_drew ?_))); (case side4 => exact HC1.out); rintro e w5 ⟨rfl, hb⟩; refine ⟨_, rfl, ?_⟩; have n0_ := Aside0.mk (below_step (by repeat (first | (with_reducible first | exact HB.out | apply below_alloc | apply pw_below_drewN | apply below_drew1) | exact HB.out)) hb); clear HB; have HB := n0_; clear n0_; (try clear hb); (try clear hb2); (try clear hk); (try clear hi)))
    go_loopg [7, 8] k (fun kq v7 v8 w' => ∃ (x7_1 : List (List (S54))) (x8_1 : Int), v8 = .int .i64 x8_1 ∧ Aside0 (standbyref07_Differ.l0 kq l0 l1 x7_1 x8_1 = some (r1, r2)) ∧ Aside0 (kq ≤ k) ∧ Aside0 (Kd.S (Kd.slice 54 k54) 50 w' w.heap.size (fun _ => True) v7 x7_1) ∧ Aside0 (Below w.heap.size w w'))
    case atStart => exact ⟨(([] : List (List (S54)))), (0), (by first | rfl | (simp; done) | (simp [*]; done)), H', ⟨Nat.le_refl _⟩, ⟨by first | exact Kd.S_nil _ _ _ _ _ | exact Kd.N_nil _ _ _ _ _ | exact Kd.V_nil _ _ _ _ _ | exact Kd.Q_nil _ _ _ _ _ | exact Kd.R_nil _ _ _ _ _⟩, ⟨by repeat (first | (with_reducible first | exact HB.out | apply below_alloc | apply pw_below_drewN | apply below_drew1) | exact HB.out)⟩⟩
    case round =>
      clear H'
      try clear c1
      try clear c2
      try clear p2
      try clear c4
      try clear c4b0
      try clear c4b1
      try clear c5
      obtain ⟨x7_1, x8_1, rfl, HA, HK1, HO_7, HB⟩ := hrel
      cases gk with
      | zero => exact absurd HA.out (by simp [standbyref07_Differ.l0])
      | succ k1 =>
        have H := HA.out
        clear HA
        simp only [standbyref07_Differ.l0] at H
        by_cases c6 : x8_1 < (l0.length : Int)
        · rw [if_pos c6] at H
          have c6b0 : decide (x8_1 < (l0.length : Int)) = true := decide_eq_true c6
          clear c6
          by_cases c7 : 0 ≤ x8_1
          · rw [if_pos c7] at H
            have c7b0 : decide (0 ≤ x8_1) = true := decide_eq_true c7
            clear c7
            by_cases c8 : x8_1 < (l1.length : Int)
            · rw [if_pos c8] at H
              have c8b0 : decide (x8_1 < (l1.length : Int)) = true := decide_eq_true c8
              clear c8
              replace H := Option.bind_eq_some_iff.mp H
              obtain ⟨t232, A90, H⟩ := H
              replace H : (if x7_1.length < 5864062014805 then (standbyref07_Differ.l0 k1 l0 l1 (x7_1 ++ [t232]) (wrap64 (x8_1 + 1))) else (none)) = some (r1, r2) := H
              have A9 := Aside0.mk A90
              clear A90
              by_cases c10 : x7_1.length < 5864062014805
              · rw [if_pos c10] at H
                have LMc10 := Aside0.mk c10
                clear c10
                obtain ⟨y235, hy235⟩ : ∃ y_ : List (List (S54)), y_ = (x7_1 ++ [t232]) := ⟨_, rfl⟩
                replace H : (standbyref07_Differ.l0 k1 l0 l1 y235 (wrap64 (x8_1 + 1))) = some (r1, r2) := by first | (rw [hy235]; with_reducible exact H) | (have H2_ := (Option.bind_some _ _).symm.trans H; rw [hy235]; with_reducible exact H2_) | (have H2_ := (Option.bind_some _ _).symm.trans H; with_reducible exact H2_) | with_reducible exact H | (rw [hy235]; exact H) | exact H
                have Ny235 := Aside0.mk hy235
                clear hy235
                have H' := Aside0.mk H
                clear H
                try go_wp2
                have n0_ := Aside0.mk (Kd.S_drew HO_7.out)
                have n1_ := Aside0.mk (below_drew1 HB.out)
                clear HO_7
                clear HB
                have HO_7 := n0_
                have HB := n1_
                clear n0_ n1_
                have p230 : 0 ≤ (x8_1 : Int) := of_decide_eq_true (by first | (with_reducible assumption) | assumption)
                have q230 : x8_1 < (l0.length : Int) := of_decide_eq_true (by first | (with_reducible assumption) | assumption)
                obtain ⟨ad230, A230_0, c230_0, e230, hx230_0, hl230_0, hi230_0⟩ := at_L2 HR0.out x8_1 p230 q230
                have hw230_0 := hx230_0
                cases e230
                replace hx230_0 := (HB.out.cell (World.block_lt_of_cell? w _ hx230_0)).trans hx230_0
                have HR230_0 := Aside0.mk hi230_0
                have HC230_0 := Aside0.mk hl230_0
                clear hi230_0 hl230_0
                replace p230 := eq_true p230
                replace q230 := eq_true q230
                have p231 : 0 ≤ (x8_1 : Int) := of_decide_eq_true (by first | (with_reducible assumption) | assumption)
                have q231 : x8_1 < (l1.length : Int) := of_decide_eq_true (by first | (with_reducible assumption) | assumption)
                obtain ⟨ad231, A231_0, c231_0, e231, hx231_0, hl231_0, hi231_0⟩ := at_L2 HR1.out x8_1 p231 q231
                have hw231_0 := hx231_0
                cases e231
                replace hx231_0 := (HB.out.cell (World.block_lt_of_cell? w _ hx231_0)).trans hx231_0
                have HR231_0 := Aside0.mk hi231_0
                have HC231_0 := Aside0.mk hl231_0
                clear hi231_0 hl231_0
                replace p231 := eq_true p231
                replace q231 := eq_true q231
                refine start_ (n := 13) (S := fun w' => w'.cell? (ad230.add (x8_1).toNat) = some (.slice A230_0 (rd_L2 l0 x8_1).length c230_0) ∧ w'.cell? (ad231.add (x8_1).toNat) = some (.slice A231_0 (rd_L2 l1 x8_1).length c231_0)) (ds := []) #[false, false, false, false, false, false, false, false, false, false, false, false, false] (by kernel_rfl) rfl rfl ⟨((HB.out.cell (World.block_lt_of_cell? w _ hw230_0)).trans hw230_0), ((HB.out.cell (World.block_lt_of_cell? w _ hw231_0)).trans hw231_0)⟩ (fun hHeld => ?_); refine with_tabW standbyref07_Differ.tab8 standbyref07_Differ.bits8 (fun HT_ HW_ => ?_)
                generalize wr.drew = w11 at HO_7 HB HR230_0 HR231_0 hx230_0 hx231_0 hHeld ⊢
                refine pure_ (i := 0) (N := some 21) (v := ?_) (a' := ?_) #[true, false, false, false, false, false, false, false, false, false, false, false, false] rfl rfl (any_of HT_.out (by kernel_rfl)) (fun _ _ _ h => h) (Or.inl ⟨by rfl, ?_⟩) ?_ ?_
                rotate_left
                · intro w'
                  go_simp
                  with_reducible rfl
                rotate_left
                · simp only [Act.put, List.setIfInBounds_toArray, List.set_cons_zero, List.set_cons_succ, i64_w, i32_w]
                  rfl
                refine pure_ (i := 1) (N := some 22) (v := ?_) (a' := ?_) #[true, true, false, false, false, false, false, false, false, false, false, false, false] rfl rfl (any_of HT_.out (by kernel_rfl)) (fun _ _ _ h => h) (Or.inl ⟨by rfl, ?_⟩) ?_ ?_
                rotate_left
                · intro w'
                  go_simp
                  with_reducible rfl
                rotate_left
                · simp only [Act.put, List.setIfInBounds_toArray, List.set_cons_zero, List.set_cons_succ, i64_w, i32_w]
                  rfl
                refine pure_ (i := 2) (N := some 23) (v := ?_) (a' := ?_) #[true, true, true, false, false, false, false, false, false, false, false, false, false] rfl rfl (any_of HT_.out (by kernel_rfl)) (fun _ _ _ h => h) (Or.inl ⟨by rfl, ?_⟩) ?_ ?_
                rotate_left
                · intro w'
                  go_simp
                  with_reducible rfl
                rotate_left
                · simp only [Act.put, List.setIfInBounds_toArray, List.set_cons_zero, List.set_cons_succ, i64_w, i32_w]
                  rfl
                refine pure_ (i := 3) (N := some 24) (v := ?_) (a' := ?_) #[true, true, true, true, false, false, false, false, false, false, false, false, false] rfl rfl (any_of HT_.out (by kernel_rfl)) (fun _ _ _ h => h) (Or.inl ⟨by rfl, ?_⟩) ?_ ?_
                rotate_left
                · intro w'
                  go_simp
                  with_reducible rfl
                rotate_left
                · simp only [Act.put, List.setIfInBounds_toArray, List.set_cons_zero, List.set_cons_succ, i64_w, i32_w]
                  rfl
                refine pure_ (i := 5) (N := some 26) (v := ?_) (a' := ?_) #[true, true, true, true, false, true, false, false, false, false, false, false, false] rfl rfl (any_of HT_.out (by kernel_rfl)) (fun _ _ _ h => h) (Or.inl ⟨by rfl, ?_⟩) ?_ ?_
                rotate_left
                · intro w'
                  go_simp
                  with_reducible rfl
                rotate_left
                · simp only [Act.put, List.setIfInBounds_toArray, List.set_cons_zero, List.set_cons_succ, i64_w, i32_w]
                  rfl
                refine pure_ (i := 6) (N := some 27) (v := ?_) (a' := ?_) #[true, true, true, true, false, true, true, false, false, false, false, false, false] rfl rfl (any_of HT_.out (by kernel_rfl)) (fun _ _ _ h => h) (Or.inl ⟨by rfl, ?_⟩) ?_ ?_
                rotate_left
                · intro w'
                  go_simp
                  with_reducible rfl
                rotate_left
                · simp only [Act.put, List.setIfInBounds_toArray, List.set_cons_zero, List.set_cons_succ, i64_w, i32_w]
                  rfl
                refine pure_ (i := 7) (N := some 28) (v := ?_) (a' := ?_) #[true, true, true, true, false, true, true, true, false, false, false, false, false] rfl rfl (any_of HT_.out (by kernel_rfl)) (fun _ _ _ h => h) (Or.inl ⟨by rfl, ?_⟩) ?_ ?_
                rotate_left
                · intro w'
                  go_simp
                  with_reducible rfl
                rotate_left
                · simp only [Act.put, List.setIfInBounds_toArray, List.set_cons_zero, List.set_cons_succ, i64_w, i32_w]
                  rfl
                refine take_ (i := 4) (N := some 25) (v := ?_) (a' := ?_) #[true, true, true, true, true, true, true, true, false, false, false, false, false] rfl rfl (take_ofW HT_.out HW_.out (by kernel_rfl)) (fun _ _ _ h => h) (Or.inl ⟨by rfl, ?_⟩) hHeld ?_ ?_
                rotate_left
                · rintro w' ⟨s0, s1⟩
                  go_simp
                  with_reducible rfl
                rotate_left
                · simp only [Act.put, List.setIfInBounds_toArray, List.set_cons_zero, List.set_cons_succ, i64_w, i32_w]
                  rfl
                refine take_ (i := 8) (N := some 29) (v := ?_) (a' := ?_) #[true, true, true, true, true, true, true, true, true, false, false, false, false] rfl rfl (take_ofW HT_.out HW_.out (by kernel_rfl)) (fun _ _ _ h => h) (Or.inl ⟨by rfl, ?_⟩) hHeld ?_ ?_
                rotate_left
                · rintro w' ⟨s0, s1⟩
                  go_simp
                  with_reducible rfl
                rotate_left
                · simp only [Act.put, List.setIfInBounds_toArray, List.set_cons_zero, List.set_cons_succ, i64_w, i32_w]
                  rfl
                refine one_ (i := 9) (N := some 30) #[true, true, true, true, true, true, true, true, true, true, false, false, false] rfl rfl (one_of HT_.out (by kernel_rfl)) (by decide) (fun K hK => ?_)
                refine goes_ Try.func56 (by kernel_rfl) rfl #[.slice A230_0 (rd_L2 l0 x8_1).length c230_0, .slice A231_0 (rd_L2 l1 x8_1).length c231_0] (by rfl) rfl rfl (by (try simp only [List.map_toArray, List.map_cons, List.map_nil]); first | done | rfl | (simp only [List.length_drop, List.length_take]; rfl)) ?_
                with_reducible refine (standbyref07_VolumeDiffer.calls k1 _ _ (rd_L2 l0 x8_1) _ _ (rd_L2 l1 x8_1) t232 _ ?side1 ?side2 ?side3 ?side4 A9.out).mono ?_
                (case side1 => repeat (first | exact (Kd.C_below HR230_0.out HB.out) | (with_reducible refine Kd.C_alloc ?_ _) | (with_reducible refine Kd.C_drewN ?_ _) | (with_reducible refine Kd.C_drew ?_)))
                (case side2 => exact HC230_0.out)
                (case side3 => repeat (first | exact (Kd.C_below HR231_0.out HB.out) | (with_reducible refine Kd.C_alloc ?_ _) | (with_reducible refine Kd.C_drewN ?_ _) | (with_reducible refine Kd.C_drew ?_)))
                (case side4 => exact HC231_0.out)
                rintro e w12 ⟨v233, rfl, ho0, hb⟩
                refine ⟨_, rfl, ?_⟩
                have n0_ := Aside0.mk (Kd.S_elder' (by (with_reducible repeat (first | apply Kd.S_alloc | apply Kd.S_drewN | apply Kd.S_drew)); exact HO_7.out) (Kd.R_base ho0) hb)
                have n1_ := Aside0.mk (Kd.R_lower ho0 (below_size (by repeat (first | (with_reducible first | exact HB.out | apply below_alloc | apply pw_below_drewN | apply below_drew1) | exact HB.out))))
                have n2_ := Aside0.mk (below_step (by repeat (first | (with_reducible first | exact HB.out | apply below_alloc | apply pw_below_drewN | apply below_drew1) | exact HB.out)) hb)
                clear HO_7
                clear HB
                have HO_7 := n0_
                have HO234 := n1_
                have HB := n2_
                clear n0_ n1_ n2_
                (try clear hb)
                (try clear hb2)
                (try clear hk)
                (try clear hi)
                (try clear ho0)
                obtain ⟨Ao14, co14, eo14⟩ := Kd.R_slice HO234.out
                (first | subst eo14 | (injection eo14 with f1_ f2_ f3_; have f4_ := f1_.symm; have f5_ := f3_.symm; clear f1_ f2_ f3_; subst f4_; subst f5_))
                refine hK.out _ _ ⟨((HB.out.cell (World.block_lt_of_cell? w _ hw230_0)).trans hw230_0), ((HB.out.cell (World.block_lt_of_cell? w _ hw231_0)).trans hw231_0)⟩ (fun hHeld => ?_)
                clear hK K
                refine norm_ (a' := ?_) ?_ ?_
                rotate_left
                · show Act.put _ (some 30) _ = _
                  simp only [Act.put, List.setIfInBounds_toArray, List.set_cons_zero, List.set_cons_succ, i64_w, i32_w]
                  rfl
                refine one_ (i := 10) (N := some 31) #[true, true, true, true, true, true, true, true, true, true, true, false, false] rfl rfl (one_of HT_.out (by kernel_rfl)) (by decide) (fun K hK => ?_)
                refine value_ (w1 := ?_) (v := ?_) (by rfl) rfl ?_ ?_
                rotate_left 2
                · go_simp
                  constructor
                  · rfl
                  · rfl
                refine hK.out _ _ ⟨(World.cell?_alloc_lt _ _ _ (World.block_lt_of_cell? _ _ (((HB.out.cell (World.block_lt_of_cell? w _ hw230_0)).trans hw230_0)))).trans (((HB.out.cell (World.block_lt_of_cell? w _ hw230_0)).trans hw230_0)), (World.cell?_alloc_lt _ _ _ (World.block_lt_of_cell? _ _ (((HB.out.cell (World.block_lt_of_cell? w _ hw231_0)).trans hw231_0)))).trans (((HB.out.cell (World.block_lt_of_cell? w _ hw231_0)).trans hw231_0))⟩ (fun hHeld => ?_)
                clear hK K
                refine norm_ (a' := ?_) ?_ ?_
                rotate_left
                · show Act.put _ (some 31) _ = _
                  simp only [Act.put, List.setIfInBounds_toArray, List.set_cons_zero, List.set_cons_succ, i64_w, i32_w]
                  rfl
                refine one_ (i := 11) (N := some 32) #[true, true, true, true, true, true, true, true, true, true, true, true, false] rfl rfl (one_of HT_.out (by kernel_rfl)) (by decide) (fun K hK => ?_)
                refine Kd.S_append_step (Kd.slice 54 k54) (w0 := w) w.heap.size (by rfl) (.tmp 21) (.tmp 31) 24 50 (.slice none 0 0) 24 rfl Try.underlying24 info50 rfl (by decide) (by omega) u7 x7_1 t232 [.slice Ao14 t232.length co14] (fun _ => True) (fun k_ => some k_ = (.slice Ao14 t232.length co14 : Value).ownBlock) rfl rfl ?aP (fun k_ hk_ => ((Kd.R_mono (ok' := fun k_ => ((fun _ => True)) k_ ∧ some k_ ≠ (u7 : Value).ownBlock) (Kd.R_apart' (HO234.out) (Kd.S_typed HO_7.out) (by decide)) (fun k_ hk => ⟨trivial, hk.2⟩))).1 k_ hk_.symm) ?aF ?aO ?aB ?aS ?aL ?_
                (case aP => exact Kd.M_row (Kd.R_mono (Kd.R_tight rfl (Kd.R_mono (ok' := fun k_ => ((fun _ => True)) k_ ∧ some k_ ≠ (u7 : Value).ownBlock) (Kd.R_apart' (HO234.out) (Kd.S_typed HO_7.out) (by decide)) (fun k_ hk => ⟨trivial, hk.2⟩))) (fun _ h_ => h_)))
                (case aB => exact (by repeat (first | (with_reducible first | exact HB.out | apply below_alloc | apply pw_below_drewN | apply below_drew1) | exact HB.out)))
                (case aF => exact (fun _ _ => trivial))
                (case aO => exact (by (with_reducible repeat (first | apply Kd.S_alloc | apply Kd.S_drewN | apply Kd.S_drew)); exact Kd.S_mono HO_7.out (fun k_ hk => ⟨trivial, fun e_ => hk.2 e_⟩)))
                (case aS => exact (below_size (by repeat (first | (with_reducible first | exact HB.out | apply below_alloc | apply pw_below_drewN | apply below_drew1) | exact HB.out))))
                (case aL => have := LMc10.out; omega)
                intro v236 w13 ho hb hg hat
                rw [← Ny235.out] at ho
                have n0_ := Aside0.mk (hb)
                have n1_ := Aside0.mk (ho)
                clear HB
                clear HO_7
                clear HO234
                have HB := n0_
                have HO237 := n1_
                clear n0_ n1_
                clear ho hb hg hat
                refine hK.out _ _ ⟨((HB.out.cell (World.block_lt_of_cell? w _ hw230_0)).trans hw230_0), ((HB.out.cell (World.block_lt_of_cell? w _ hw231_0)).trans hw231_0)⟩ (fun hHeld => ?_)
                clear hK K
                refine norm_ (a' := ?_) ?_ ?_
                rotate_left
                · show Act.put _ (some 32) _ = _
                  simp only [Act.put, List.setIfInBounds_toArray, List.set_cons_zero, List.set_cons_succ, i64_w, i32_w]
                  rfl
                refine pure_ (i := 12) (N := some 7) (v := ?_) (a' := ?_) #[true, true, true, true, true, true, true, true, true, true, true, true, true] rfl rfl (any_of HT_.out (by kernel_rfl)) (fun _ _ _ h => h) (Or.inl ⟨by rfl, ?_⟩) ?_ ?_
                rotate_left
                · intro w'
                  go_simp
                  with_reducible rfl
                rotate_left
                · simp only [Act.put, List.setIfInBounds_toArray, List.set_cons_zero, List.set_cons_succ, i64_w, i32_w]
                  rfl
                refine done_ (done_of HT_.out (by kernel_rfl)) ?_
                try go_wp2
                go_roundg k1
                case measure => have := HK1.out; omega
                case rel => exact ⟨(y235), (wrap64 (x8_1 + 1)), (by first | rfl | (simp; done) | (simp [*]; done)), H', ⟨by have := HK1.out; omega⟩, ⟨by (with_reducible repeat (first | apply Kd.S_alloc | apply Kd.S_drewN | apply Kd.S_drew)); exact HO237.out⟩, ⟨by repeat (first | (with_reducible first | exact HB.out | apply below_alloc | apply pw_below_drewN | apply below_drew1) | exact HB.out)⟩⟩
              · rw [if_neg c10] at H
                exact absurd H (by simp)
            · rw [if_neg c8] at H
              exact absurd H (by simp)
          · rw [if_neg c7] at H
            exact absurd H (by simp)
        · rw [if_neg c6] at H
          have c6b0 : decide (x8_1 < (l0.length : Int)) = false := decide_eq_false c6
          clear c6
          simp only [Option.some.injEq, Prod.mk.injEq] at H
          obtain ⟨rfl, rfl⟩ := H
          go_wp2
          go_ret2
          exact ⟨_, by first | rfl | (simp [errW_none, errW_some] <;> rfl) | (simp [*, errW_none, errW_some] <;> rfl), by (with_reducible repeat (first | apply Kd.S_alloc | apply Kd.S_drewN | apply Kd.S_drew)); exact HO_7.out, by repeat (first | (with_reducible first | exact HB.out | apply below_alloc | apply pw_below_drewN | apply below_drew1) | exact HB.out)⟩
  · rw [if_neg c4] at H
    have c4b0 : (t229 == 0) = false := beq_eq_false_iff_ne.mpr c4
    have c4b1 : (t229 != 0) = true := bne_iff_ne.mpr c4
    simp only [Option.some.injEq, Prod.mk.injEq] at H
    obtain ⟨rfl, rfl⟩ := H
    go_enter Try.func27, Try.ntmps27
    go_wp2_with (first | ((with_reducible refine gate_callee (f := 55) rfl ?_); refine goesL_ (some 11) rfl rfl Try.func55 (by kernel_rfl) rfl #[.slice A0 l0.length c0, .slice A1 l1.length c1] rfl (by (try simp only [List.map_toArray, List.map_cons, List.map_nil]); first | done | rfl | (simp only [List.length_drop, List.length_take]; rfl)) ?_; (with_reducible refine (standbyref07_pair.calls k _ _ l0 _ _ l1 t229 _ ?side1 ?side2 ?side3 ?side4 A3.out).mono ?_); (case side1 => repeat (first | exact HR0.out | (with_reducible refine Kd.C_alloc ?_ _) | (with_reducible refine Kd.C_drewN ?_ _) | (with_reducible refine Kd.C_drew ?_))); (case side2 => exact HC0.out); (case side3 => repeat (first | exact HR1.out | (with_reducible refine Kd.C_alloc ?_ _) | (with_reducible refine Kd.C_drewN ?_ _) | (with_reducible refine Kd.C_drew ?_))); (case side4 => exact HC1.out); rintro e w15 ⟨rfl, hb⟩; refine ⟨_, rfl, ?_⟩; have n0_ := Aside0.mk (below_step (by repeat (first | (with_reducible first | exact HB.out | apply below_alloc | apply pw_below_drewN | apply below_drew1) | exact HB.out)) hb); clear HB; have HB := n0_; clear n0_; (try clear hb); (try clear hb2); (try clear hk); (try clear hi)))
    go_ret2
    exact ⟨_, by first | rfl | (simp [errW_none, errW_some] <;> rfl) | (simp [*, errW_none, errW_some] <;> rfl), by first | exact Kd.S_nil _ _ _ _ _ | exact Kd.N_nil _ _ _ _ _ | exact Kd.V_nil _ _ _ _ _ | exact Kd.Q_nil _ _ _ _ _ | exact Kd.R_nil _ _ _ _ _, by repeat (first | (with_reducible first | exact HB.out | apply below_alloc | apply pw_below_drewN | apply below_drew1) | exact HB.out)⟩
def standbyref01_within.f (a0_0 : Int) (a0_1 : Int) (a1 : Int) : Option (Bool) := if a0_0 ≥ 0 then (if a0_1 ≤ a1 then (some (decide (a0_0 ≤ (wrap64 (a1 - a0_1))))) else (some false)) else (some false)
set_option maxHeartbeats 8000000 in
set_option maxRecDepth 100000 in
theorem standbyref01_within.calls (a0_0 : Int) (a0_1 : Int) (a1 : Int) (r : Bool) (w : World) (h : standbyref01_within.f a0_0 a0_1 a1 = some r) :
    Calls Try.prog 76 #[.agg #[.int .i64 a0_0, .int .i64 a0_1], .int .i64 a1] w fun e w' => e = .returned (.bool r) ∧ Below w.heap.size w w' := by
  have hu54 := Try.underlying54
  have HB := Aside0.mk (Below.refl w.heap.size w)
  have H : (if a0_0 ≥ 0 then (if a0_1 ≤ a1 then (some (decide (a0_0 ≤ (wrap64 (a1 - a0_1))))) else (some false)) else (some false)) = some r := h
  clear h
  by_cases c3 : a0_0 ≥ 0
  · rw [if_pos c3] at H
    have c3b0 : decide (0 ≤ a0_0) = true := decide_eq_true c3
    clear c3
    by_cases c4 : a0_1 ≤ a1
    · rw [if_pos c4] at H
      have c4b0 : decide (a0_1 ≤ a1) = true := decide_eq_true c4
      clear c4
      obtain rfl := Option.some.inj H
      go_enter Try.func76, Try.ntmps76
      go_wp2_with (first | ((with_reducible refine gate_dst (N := 2) rfl ?_); refine box_event ?hg (N := 2) ?hd (cs := #[.int .i64 a0_0, .int .i64 a0_1]) (t := 54) ?hr ?_; (case hd => rfl); (case hg => rfl); (case hr => first | (go_simp; done) | (go_simp; rfl)); intro gb238 hg w5 hbox hb; have n0_ := Aside0.mk (below_step (by repeat (first | (with_reducible first | exact HB.out | apply below_alloc | apply pw_below_drewN | apply below_drew1) | exact HB.out)) hb); have n1_ := Aside0.mk (hbox); have n2_ := Aside0.mk ((by rw [hg]; exact (below_size (by repeat (first | (with_reducible first | exact HB.out | apply below_alloc | apply pw_below_drewN | apply below_drew1) | exact HB.out))) : w.heap.size ≤ gb238)); have n3_ := Aside0.mk ((by rw [hg]; exact (below_size (by repeat (first | (with_reducible first | exact HB.out | apply below_alloc | apply pw_below_drewN | apply below_drew1) | exact HB.out))) : w.heap.size ≤ gb238)); clear HB; have HB := n0_; have BK238 := n1_; have GW238 := n2_; have GE238 := n3_; clear n0_ n1_ n2_ n3_; clear hb hbox hg; have hcz6_0 : w5.cell? ⟨gb238, 0, none⟩ = some (.int .i64 a0_0) := (blk_cell BK238.out 0).trans rfl; have hcz6_1 : w5.cell? ⟨gb238, 1, none⟩ = some (.int .i64 a0_1) := (blk_cell BK238.out 1).trans rfl; have hfz6_0 := blk_frozen BK238.out 0; have hfz6_1 := blk_frozen BK238.out 1))
      go_ret
      exact ⟨by first | rfl | (simp [errW_none, errW_some] <;> rfl) | (simp [*, errW_none, errW_some] <;> rfl), by repeat (first | (with_reducible first | exact HB.out | apply below_alloc | apply pw_below_drewN | apply below_drew1 | refine below_set ?_ GE238.out) | exact HB.out)⟩
    · rw [if_neg c4] at H
      have c4b0 : decide (a0_1 ≤ a1) = false := decide_eq_false c4
      clear c4
      obtain rfl := Option.some.inj H
      go_enter Try.func76, Try.ntmps76
      go_wp2_with (first | ((with_reducible refine gate_dst (N := 2) rfl ?_); refine box_event ?hg (N := 2) ?hd (cs := #[.int .i64 a0_0, .int .i64 a0_1]) (t := 54) ?hr ?_; (case hd => rfl); (case hg => rfl); (case hr => first | (go_simp; done) | (go_simp; rfl)); intro gb238 hg w7 hbox hb; have n0_ := Aside0.mk (below_step (by repeat (first | (with_reducible first | exact HB.out | apply below_alloc | apply pw_below_drewN | apply below_drew1) | exact HB.out)) hb); have n1_ := Aside0.mk (hbox); have n2_ := Aside0.mk ((by rw [hg]; exact (below_size (by repeat (first | (with_reducible first | exact HB.out | apply below_alloc | apply pw_below_drewN | apply below_drew1) | exact HB.out))) : w.heap.size ≤ gb238)); have n3_ := Aside0.mk ((by rw [hg]; exact (below_size (by repeat (first | (with_reducible first | exact HB.out | apply below_alloc | apply pw_below_drewN | apply below_drew1) | exact HB.out))) : w.heap.size ≤ gb238)); clear HB; have HB := n0_; have BK238 := n1_; have GW238 := n2_; have GE238 := n3_; clear n0_ n1_ n2_ n3_; clear hb hbox hg; have hcz8_0 : w7.cell? ⟨gb238, 0, none⟩ = some (.int .i64 a0_0) := (blk_cell BK238.out 0).trans rfl; have hcz8_1 : w7.cell? ⟨gb238, 1, none⟩ = some (.int .i64 a0_1) := (blk_cell BK238.out 1).trans rfl; have hfz8_0 := blk_frozen BK238.out 0; have hfz8_1 := blk_frozen BK238.out 1))
      go_ret
      exact ⟨by first | rfl | (simp [errW_none, errW_some] <;> rfl) | (simp [*, errW_none, errW_some] <;> rfl), by repeat (first | (with_reducible first | exact HB.out | apply below_alloc | apply pw_below_drewN | apply below_drew1 | refine below_set ?_ GE238.out) | exact HB.out)⟩
  · rw [if_neg c3] at H
    have c3b0 : decide (0 ≤ a0_0) = false := decide_eq_false c3
    clear c3
    obtain rfl := Option.some.inj H
    go_enter Try.func76, Try.ntmps76
    go_wp2_with (first | ((with_reducible refine gate_dst (N := 2) rfl ?_); refine box_event ?hg (N := 2) ?hd (cs := #[.int .i64 a0_0, .int .i64 a0_1]) (t := 54) ?hr ?_; (case hd => rfl); (case hg => rfl); (case hr => first | (go_simp; done) | (go_simp; rfl)); intro gb238 hg w9 hbox hb; have n0_ := Aside0.mk (below_step (by repeat (first | (with_reducible first | exact HB.out | apply below_alloc | apply pw_below_drewN | apply below_drew1) | exact HB.out)) hb); have n1_ := Aside0.mk (hbox); have n2_ := Aside0.mk ((by rw [hg]; exact (below_size (by repeat (first | (with_reducible first | exact HB.out | apply below_alloc | apply pw_below_drewN | apply below_drew1) | exact HB.out))) : w.heap.size ≤ gb238)); have n3_ := Aside0.mk ((by rw [hg]; exact (below_size (by repeat (first | (with_reducible first | exact HB.out | apply below_alloc | apply pw_below_drewN | apply below_drew1) | exact HB.out))) : w.heap.size ≤ gb238)); clear HB; have HB := n0_; have BK238 := n1_; have GW238 := n2_; have GE238 := n3_; clear n0_ n1_ n2_ n3_; clear hb hbox hg; have hcz10_0 : w9.cell? ⟨gb238, 0, none⟩ = some (.int .i64 a0_0) := (blk_cell BK238.out 0).trans rfl; have hcz10_1 : w9.cell? ⟨gb238, 1, none⟩ = some (.int .i64 a0_1) := (blk_cell BK238.out 1).trans rfl; have hfz10_0 := blk_frozen BK238.out 0; have hfz10_1 := blk_frozen BK238.out 1))
    go_ret
    exact ⟨by first | rfl | (simp [errW_none, errW_some] <;> rfl) | (simp [*, errW_none, errW_some] <;> rfl), by repeat (first | (with_reducible first | exact HB.out | apply below_alloc | apply pw_below_drewN | apply below_drew1 | refine below_set ?_ GE238.out) | exact HB.out)⟩
end Go.Proofs.Ytoichhdbomcdaaa.Pq
end
section
namespace Go.Proofs.Ytoichhdbomcdaaa.Pq
open Go.RowKit Go.Proofs.YtoichhdbomcdaaaW.PrintWords Go.Proofs.YtoichhdbomcdaaaW.PrintLast Go.Proofs.YtoichhdbomcdaaaW.PrintMore
attribute [local go_sem] max2_int min2_int max_two min_two max_three min_three max_four min_four
set_option linter.unusedVariables false
set_option linter.unusedSimpArgs false
mutual
def standbyref01_Add.j0 : Nat → List Bool → Bool → Int → Int → Option (List Bool)
  | 0, _, _, _, _ => none
  | k + 1, x0, x16, x249000, x249001 => if x16 = true then (some x0) else (if x249000 < 0 then (standbyref01_Add.j1 k x0 0 (mn (x0.length : Int) (wrap64 (x249000 + x249001)))) else (standbyref01_Add.j1 k x0 x249000 (mn (x0.length : Int) (wrap64 (x249000 + (mn x249001 4096))))))
def standbyref01_Add.j1 : Nat → List Bool → Int → Int → Option (List Bool)
  | 0, _, _, _ => none
  | k + 1, x0, x4, x5 => standbyref01_Add.l0 k x0 x5 x4
def standbyref01_Add.l0 : Nat → List Bool → Int → Int → Option (List Bool)
  | 0, _, _, _ => none
  | k + 1, x0, x5, x6 => if x6 < x5 then (if 0 ≤ x6 then (if x6 < (x0.length : Int) then (standbyref01_Add.l0 k (x0.set (x6 : Int).toNat true) x5 (wrap64 (x6 + 1))) else (none)) else (none)) else (some x0)
end
def standbyref01_Add.f (k : Nat) (l0 : List Bool) (a1_0 : Int) (a1_1 : Int) : Option (List Bool) := if a1_1 ≤ 0 then (standbyref01_Add.j0 k l0 true a1_0 a1_1) else (standbyref01_Add.j0 k l0 (decide (a1_0 ≥ (l0.length : Int))) a1_0 a1_1)
set_option maxHeartbeats 8000000 in
set_option maxRecDepth 100000 in
theorem standbyref01_Add.calls (k : Nat) (P0_ : Nat → Prop) (u9000_ : Value) (l0 : List Bool) (a1_0 : Int) (a1_1 : Int) (r : List Bool) (w0 w : World) (hB : Below w0.heap.size w0 w) (ho0 : Kd.R Kd.bool 4 w w0.heap.size P0_ u9000_ l0) (h : standbyref01_Add.f k l0 a1_0 a1_1 = some r) :
    Calls Try.prog 77 #[u9000_, .agg #[.int .i64 a1_0, .int .i64 a1_1]] w fun e w' => e = .returned (.tuple #[]) ∧ Kd.R Kd.bool 4 w' w0.heap.size (fun k_ => (P0_ k_ ∨ w.heap.size ≤ k_)) u9000_ r ∧ Below w0.heap.size w0 w' ∧ Kept w w' (fun k_ => P0_ k_) := by
  have hu54 := Try.underlying54
  have HO0 := Aside0.mk (show Kd.R Kd.bool 4 w w0.heap.size (fun k_ => (P0_ k_ ∨ w.heap.size ≤ k_)) u9000_ l0 from Kd.R_mono ho0 (fun k_ hk => (.inl hk)))
  have HK := Aside0.mk (Kept.refl w (fun k_ => P0_ k_))
  have HW0 := Aside0.mk hB.size
  have HB := Aside0.mk hB
  clear hB
  have H : (if a1_1 ≤ 0 then (standbyref01_Add.j0 k l0 true a1_0 a1_1) else (standbyref01_Add.j0 k l0 (decide (a1_0 ≥ (l0.length : Int))) a1_0 a1_1)) = some r := h
  clear h
  have HC3 := Aside0.mk H
  clear H
  go_enter Try.func77, Try.ntmps77
  go_upto_region 1 with (first | ((with_reducible refine gate_dst (N := 3) rfl ?_); (try (refine gate_guard (by rfl) ?_; dsimp only)); refine box_event ?hg (N := 3) ?hd (cs := #[.int .i64 a1_0, .int .i64 a1_1]) (t := 54) ?hr ?_; (case hd => rfl); (case hg => rfl); (case hr => first | (go_simp; done) | (go_simp; rfl)); intro gb248 hg w4 hbox hb; have n0_ := Aside0.mk (Kd.R_below (by (with_reducible repeat (first | apply Kd.R_alloc | apply Kd.R_drewN | apply Kd.R_drew)); exact HO0.out) hb); have n1_ := Aside0.mk (Kept.below (S := (fun k_ => P0_ k_)) (by repeat (first | (with_reducible first | exact HK.out | apply Kept.alloc | apply Kept.drewN | apply Kept.drew) | exact HK.out)) hb); have n2_ := Aside0.mk (below_step (by repeat (first | (with_reducible first | exact HB.out | apply below_alloc | apply pw_below_drewN | apply below_drew1) | exact HB.out)) hb); have n3_ := Aside0.mk (hbox); have n4_ := Aside0.mk ((by rw [hg]; exact (by first | exact HK.out.1 | exact (show Kept w _ (fun k_ => P0_ k_) from by repeat (first | (with_reducible first | exact HK.out | apply Kept.alloc | apply Kept.drewN | apply Kept.drew) | exact HK.out)).1) : w.heap.size ≤ gb248)); have n5_ := Aside0.mk ((by rw [hg]; exact (below_size (by repeat (first | (with_reducible first | exact HB.out | apply below_alloc | apply pw_below_drewN | apply below_drew1) | exact HB.out))) : w0.heap.size ≤ gb248)); clear HO0; clear HK; clear HB; have HO0 := n0_; have HK := n1_; have HB := n2_; have BK248 := n3_; have GW248 := n4_; have GE248 := n5_; clear n0_ n1_ n2_ n3_ n4_ n5_; clear hb hbox hg))
  (try simp only [Act.put, List.setIfInBounds_toArray, List.set_cons_zero, List.set_cons_succ])
  go_cut [16] (fun v16 wc => ∃ (kq : Nat) (x16_2 : Bool), v16 = .bool x16_2 ∧ Aside0 (standbyref01_Add.j0 kq l0 x16_2 a1_0 a1_1 = some r) ∧ Aside0 (kq ≤ k) ∧ Aside0 (Kd.R Kd.bool 4 wc w0.heap.size (fun k_ => (P0_ k_ ∨ w.heap.size ≤ k_)) u9000_ l0) ∧ Aside0 (wc.heap[gb248]? = some (.cells #[.int .i64 a1_0, .int .i64 a1_1] 54 (0, 0))) ∧ Aside0 (Kept w wc (fun k_ => P0_ k_)) ∧ Aside0 (Below w0.heap.size w0 wc))
  case first =>
    have H := HC3.out
    clear HC3
    by_cases c5 : a1_1 ≤ 0
    · rw [if_pos c5] at H
      have c5b0 : decide (a1_1 ≤ 0) = true := decide_eq_true c5
      clear c5
      (first | rw [c5b0] | (simp only [i64_w, i32_w]; rw [c5b0]) | skip)
      have H' := Aside0.mk H
      clear H
      have hcz6_0 : w4.cell? ⟨gb248, 0, none⟩ = some (.int .i64 a1_0) := (blk_cell BK248.out 0).trans rfl
      have hcz6_1 : w4.cell? ⟨gb248, 1, none⟩ = some (.int .i64 a1_1) := (blk_cell BK248.out 1).trans rfl
      have hfz6_0 := blk_frozen BK248.out 0
      have hfz6_1 := blk_frozen BK248.out 1
      go_wp2
      go_meet
      case rel => exact ⟨_, (true), (by first | rfl | (simp; done) | (simp [*]; done)), H', ⟨by first | omega | exact Nat.le_refl _⟩, ⟨by (with_reducible repeat (first | apply Kd.R_alloc | apply Kd.R_drewN | apply Kd.R_drew)); exact HO0.out⟩, ⟨by (with_reducible repeat (first | refine blk_drewN ?_ _ | refine blk_drew ?_ | refine blk_alloc ?_ _)); exact BK248.out⟩, ⟨by repeat (first | (with_reducible first | exact HK.out | apply Kept.alloc | apply Kept.drewN | apply Kept.drew | refine Kept.setCell ?_ (.inr GW248.out) _) | exact HK.out)⟩, ⟨by repeat (first | (with_reducible first | exact HB.out | apply below_alloc | apply pw_below_drewN | apply below_drew1 | refine below_set ?_ GE248.out) | exact HB.out)⟩⟩
    · rw [if_neg c5] at H
      have c5b0 : decide (a1_1 ≤ 0) = false := decide_eq_false c5
      clear c5
      (first | rw [c5b0] | (simp only [i64_w, i32_w]; rw [c5b0]) | skip)
      have H' := Aside0.mk H
      clear H
      have hcz7_0 : w4.cell? ⟨gb248, 0, none⟩ = some (.int .i64 a1_0) := (blk_cell BK248.out 0).trans rfl
      have hcz7_1 : w4.cell? ⟨gb248, 1, none⟩ = some (.int .i64 a1_1) := (blk_cell BK248.out 1).trans rfl
      have hfz7_0 := blk_frozen BK248.out 0
      have hfz7_1 := blk_frozen BK248.out 1
      obtain ⟨Ao8, co8, eo8⟩ := Kd.R_slice HO0.out
      subst eo8
      go_wp2
      go_meet
      case rel => exact ⟨_, (decide (a1_0 ≥ (l0.length : Int))), (by first | rfl | (simp; done) | (simp [*]; done)), H', ⟨by first | omega | exact Nat.le_refl _⟩, ⟨by (with_reducible repeat (first | apply Kd.R_alloc | apply Kd.R_drewN | apply Kd.R_drew)); exact HO0.out⟩, ⟨by (with_reducible repeat (first | refine blk_drewN ?_ _ | refine blk_drew ?_ | refine blk_alloc ?_ _)); exact BK248.out⟩, ⟨by repeat (first | (with_reducible first | exact HK.out | apply Kept.alloc | apply Kept.drewN | apply Kept.drew | refine Kept.setCell ?_ (.inr GW248.out) _) | exact HK.out)⟩, ⟨by repeat (first | (with_reducible first | exact HB.out | apply below_alloc | apply pw_below_drewN | apply below_drew1 | refine below_set ?_ GE248.out) | exact HB.out)⟩⟩
  case rest =>
    clear HC3
    try clear p2
    try clear c5
    try clear c5b0
    try clear c7
    try clear hcz6_0
    try clear hcz6_1
    try clear hcz7_0
    try clear hcz7_1
    try clear hfz6_0
    try clear hfz6_1
    try clear hfz7_0
    try clear hfz7_1
    obtain ⟨kq, x16_2, rfl, HA, HJ2, HO_0, BK248, HK, HB⟩ := hcut
    cases kq with
    | zero => exact absurd HA.out (by simp [standbyref01_Add.j0])
    | succ kj2 =>
      have H := HA.out
      clear HA
      simp only [standbyref01_Add.j0] at H
      by_cases c9 : x16_2 = true
      · subst c9
        have H1 : (some l0) = some r := by rw [if_pos rfl] at H; exact H
        clear H
        have H := H1
        clear H1
        obtain rfl := Option.some.inj H
        go_wp2
        first | go_end0 | ((try simp only [Exit.inBlock, Exit.then]); refine bodyPost_ret (results_none rfl _ _ _) rfl ?_)
        exact ⟨by first | rfl | (simp [errW_none, errW_some] <;> rfl) | (simp [*, errW_none, errW_some] <;> rfl), by (with_reducible repeat (first | apply Kd.R_alloc | apply Kd.R_drewN | apply Kd.R_drew)); exact HO_0.out, by repeat (first | (with_reducible first | exact HB.out | apply below_alloc | apply pw_below_drewN | apply below_drew1 | refine below_set ?_ GE248.out) | exact HB.out), by repeat (first | (with_reducible first | exact HK.out | apply Kept.alloc | apply Kept.drewN | apply Kept.drew | refine Kept.setCell ?_ (.inr GW248.out) _) | exact HK.out)⟩
      · replace c9 := Bool.eq_false_iff.mpr c9
        subst c9
        have H1 : (if a1_0 < 0 then (standbyref01_Add.j1 kj2 l0 0 (mn (l0.length : Int) (wrap64 (a1_0 + a1_1)))) else (standbyref01_Add.j1 kj2 l0 a1_0 (mn (l0.length : Int) (wrap64 (a1_0 + (mn a1_1 4096)))))) = some r := by rw [if_neg (show ¬ (false = true) by decide)] at H; exact H
        clear H
        have H := H1
        clear H1
        have HC10 := Aside0.mk H
        clear H
        have hcz11_0 : wc.cell? ⟨gb248, 0, none⟩ = some (.int .i64 a1_0) := (blk_cell BK248.out 0).trans rfl
        have hcz11_1 : wc.cell? ⟨gb248, 1, none⟩ = some (.int .i64 a1_1) := (blk_cell BK248.out 1).trans rfl
        have hfz11_0 := blk_frozen BK248.out 0
        have hfz11_1 := blk_frozen BK248.out 1
        obtain ⟨Ao12, co12, eo12⟩ := Kd.R_slice HO_0.out
        subst eo12
        go_upto_if 22 with (fail)
        go_cut [4, 5] (fun v4 v5 wc => ∃ (kq : Nat) (x4_9 : Int) (x5_9 : Int), v4 = .int .i64 x4_9 ∧ v5 = .int .i64 x5_9 ∧ Aside0 (standbyref01_Add.j1 kq l0 x4_9 x5_9 = some r) ∧ Aside0 (kq ≤ kj2) ∧ Aside0 (Kd.R Kd.bool 4 wc w0.heap.size (fun k_ => (P0_ k_ ∨ w.heap.size ≤ k_)) (.slice Ao12 l0.length co12) l0) ∧ Aside0 (wc.heap[gb248]? = some (.cells #[.int .i64 a1_0, .int .i64 a1_1] 54 (0, 0))) ∧ Aside0 (Kept w wc (fun k_ => P0_ k_)) ∧ Aside0 (Below w0.heap.size w0 wc))
        case first =>
          have H := HC10.out
          clear HC10
          by_cases c13 : a1_0 < 0
          · rw [if_pos c13] at H
            have c13b0 : decide (a1_0 < 0) = true := decide_eq_true c13
            clear c13
            (first | rw [c13b0] | (simp only [i64_w, i32_w]; rw [c13b0]) | skip)
            obtain ⟨ji14, hji14⟩ : ∃ j_ : Int, (mn (l0.length : Int) (wrap64 (a1_0 + a1_1))) = j_ := ⟨_, rfl⟩
            replace H : (standbyref01_Add.j1 kj2 l0 0 ji14) = some r := by first | (rw [hji14] at H; exact H) | (simp only [hji14] at H ⊢; exact H)
            have hji14_ : (if (wrap64 (a1_0 + a1_1)) < (l0.length : Int) then (wrap64 (a1_0 + a1_1)) else (l0.length : Int)) = ji14 := hji14
            have H' := Aside0.mk H
            clear H
            have hcz15_0 : wc.cell? ⟨gb248, 0, none⟩ = some (.int .i64 a1_0) := (blk_cell BK248.out 0).trans rfl
            have hcz15_1 : wc.cell? ⟨gb248, 1, none⟩ = some (.int .i64 a1_1) := (blk_cell BK248.out 1).trans rfl
            have hfz15_0 := blk_frozen BK248.out 0
            have hfz15_1 := blk_frozen BK248.out 1
            go_wp2
            go_meet
            case rel => exact ⟨_, (0), (ji14), (by first | rfl | (simp; done) | (simp [*]; done)), (by first | rfl | (simp; done) | (simp only [← hji14] <;> (first | rfl | simp)) | (simp [*]; done)), H', ⟨by have := HJ2.out; first | omega | exact Nat.le_refl _⟩, ⟨by (with_reducible repeat (first | apply Kd.R_alloc | apply Kd.R_drewN | apply Kd.R_drew)); exact HO_0.out⟩, ⟨by (with_reducible repeat (first | refine blk_drewN ?_ _ | refine blk_drew ?_ | refine blk_alloc ?_ _)); exact BK248.out⟩, ⟨by repeat (first | (with_reducible first | exact HK.out | apply Kept.alloc | apply Kept.drewN | apply Kept.drew | refine Kept.setCell ?_ (.inr GW248.out) _) | exact HK.out)⟩, ⟨by repeat (first | (with_reducible first | exact HB.out | apply below_alloc | apply pw_below_drewN | apply below_drew1 | refine below_set ?_ GE248.out) | exact HB.out)⟩⟩
          · rw [if_neg c13] at H
            have c13b0 : decide (a1_0 < 0) = false := decide_eq_false c13
            clear c13
            (first | rw [c13b0] | (simp only [i64_w, i32_w]; rw [c13b0]) | skip)
            obtain ⟨ji16, hji16⟩ : ∃ j_ : Int, (mn a1_1 4096) = j_ := ⟨_, rfl⟩
            replace H : (standbyref01_Add.j1 kj2 l0 a1_0 (mn (l0.length : Int) (wrap64 (a1_0 + (ji16))))) = some r := by first | (rw [hji16] at H; exact H) | (simp only [hji16] at H ⊢; exact H)
            have hji16_ : (if 4096 < a1_1 then 4096 else a1_1) = ji16 := hji16
            obtain ⟨ji17, hji17⟩ : ∃ j_ : Int, (mn (l0.length : Int) (wrap64 (a1_0 + (ji16)))) = j_ := ⟨_, rfl⟩
            replace H : (standbyref01_Add.j1 kj2 l0 a1_0 ji17) = some r := by first | (rw [hji17] at H; exact H) | (simp only [hji17] at H ⊢; exact H)
            have hji17_ : (if (wrap64 (a1_0 + (ji16))) < (l0.length : Int) then (wrap64 (a1_0 + (ji16))) else (l0.length : Int)) = ji17 := hji17
            have H' := Aside0.mk H
            clear H
            have hcz18_0 : wc.cell? ⟨gb248, 0, none⟩ = some (.int .i64 a1_0) := (blk_cell BK248.out 0).trans rfl
            have hcz18_1 : wc.cell? ⟨gb248, 1, none⟩ = some (.int .i64 a1_1) := (blk_cell BK248.out 1).trans rfl
            have hfz18_0 := blk_frozen BK248.out 0
            have hfz18_1 := blk_frozen BK248.out 1
            go_wp2
            go_meet
            case rel => exact ⟨_, (a1_0), (ji17), (by first | rfl | (simp; done) | (simp [*]; done)), (by first | rfl | (simp; done) | (simp only [← hji17] <;> (first | rfl | simp)) | (simp [*]; done)), H', ⟨by have := HJ2.out; first | omega | exact Nat.le_refl _⟩, ⟨by (with_reducible repeat (first | apply Kd.R_alloc | apply Kd.R_drewN | apply Kd.R_drew)); exact HO_0.out⟩, ⟨by (with_reducible repeat (first | refine blk_drewN ?_ _ | refine blk_drew ?_ | refine blk_alloc ?_ _)); exact BK248.out⟩, ⟨by repeat (first | (with_reducible first | exact HK.out | apply Kept.alloc | apply Kept.drewN | apply Kept.drew | refine Kept.setCell ?_ (.inr GW248.out) _) | exact HK.out)⟩, ⟨by repeat (first | (with_reducible first | exact HB.out | apply below_alloc | apply pw_below_drewN | apply below_drew1 | refine below_set ?_ GE248.out) | exact HB.out)⟩⟩
        case rest =>
          clear HC10
          try clear c1
          try clear p2
          try clear c5
          try clear c5b0
          try clear p6
          try clear c7
          try clear c9
          try clear c13
          try clear c13b0
          try clear hcz11_0
          try clear hcz11_1
          try clear hcz15_0
          try clear hcz15_1
          try clear hcz18_0
          try clear hcz18_1
          try clear hcz6_0
          try clear hcz6_1
          try clear hcz7_0
          try clear hcz7_1
          try clear hfz11_0
          try clear hfz11_1
          try clear hfz15_0
          try clear hfz15_1
          try clear hfz18_0
          try clear hfz18_1
          try clear hfz6_0
          try clear hfz6_1
          try clear hfz7_0
          try clear hfz7_1
          try clear p2
          obtain ⟨kq, x4_9, x5_9, rfl, rfl, HA, HJ9, HO_0, BK248, HK, HB⟩ := hcut
          cases kq with
          | zero => exact absurd HA.out (by simp [standbyref01_Add.j1])
          | succ kj9 =>
            have H := HA.out
            clear HA
            simp only [standbyref01_Add.j1] at H
            have H' := Aside0.mk H
            clear H
            go_wp2
            go_loopg [6] kj9 (fun kq v6 w' => ∃ (x0_3 : List Bool) (x6_3 : Int), v6 = .int .i64 x6_3 ∧ Aside0 (standbyref01_Add.l0 kq x0_3 x5_9 x6_3 = some r) ∧ Aside0 (kq ≤ kj9) ∧ Aside0 (Kd.R Kd.bool 4 w' w0.heap.size (fun k_ => (P0_ k_ ∨ w.heap.size ≤ k_)) (.slice Ao12 l0.length co12) x0_3) ∧ Aside0 (w'.heap[gb248]? = some (.cells #[.int .i64 a1_0, .int .i64 a1_1] 54 (0, 0))) ∧ Aside0 (Kept w w' (fun k_ => P0_ k_)) ∧ Aside0 (Below w0.heap.size w0 w'))
            case atStart => exact ⟨(l0), (x4_9), (by first | rfl | (simp; done) | (simp [*]; done)), H', ⟨Nat.le_refl _⟩, ⟨by (with_reducible repeat (first | apply Kd.R_alloc | apply Kd.R_drewN | apply Kd.R_drew)); exact HO_0.out⟩, ⟨by (with_reducible repeat (first | refine blk_drewN ?_ _ | refine blk_drew ?_ | refine blk_alloc ?_ _)); exact BK248.out⟩, ⟨by repeat (first | (with_reducible first | exact HK.out | apply Kept.alloc | apply Kept.drewN | apply Kept.drew | refine Kept.setCell ?_ (.inr GW248.out) _) | exact HK.out)⟩, ⟨by repeat (first | (with_reducible first | exact HB.out | apply below_alloc | apply pw_below_drewN | apply below_drew1 | refine below_set ?_ GE248.out) | exact HB.out)⟩⟩
            case round =>
              clear H'
              try clear c1
              try clear p2
              try clear c5
              try clear c5b0
              try clear p6
              try clear c7
              try clear c9
              try clear c13
              try clear c13b0
              try clear hcz11_0
              try clear hcz11_1
              try clear hcz15_0
              try clear hcz15_1
              try clear hcz18_0
              try clear hcz18_1
              try clear hcz6_0
              try clear hcz6_1
              try clear hcz7_0
              try clear hcz7_1
              try clear hfz11_0
              try clear hfz11_1
              try clear hfz15_0
              try clear hfz15_1
              try clear hfz18_0
              try clear hfz18_1
              try clear hfz6_0
              try clear hfz6_1
              try clear hfz7_0
              try clear hfz7_1
              try clear p2
              try clear p6
              obtain ⟨x0_3, x6_3, rfl, HA, HK3, HO_0, BK248, HK, HB⟩ := hrel
              have hl0_3 := (Kd.R_reads' HO_0.out).1
              rw [hl0_3] at HO_0
              (try simp only [hl0_3])
              (try simp only [hl0_3] at BK248)
              cases gk with
              | zero => exact absurd HA.out (by simp [standbyref01_Add.l0])
              | succ k3 =>
                have H := HA.out
                clear HA
                simp only [standbyref01_Add.l0] at H
                by_cases c19 : x6_3 < x5_9
                · rw [if_pos c19] at H
                  have c19b0 : decide (x6_3 < x5_9) = true := decide_eq_true c19
                  clear c19
                  by_cases c20 : 0 ≤ x6_3
                  · rw [if_pos c20] at H
                    have c20b0 : decide (0 ≤ x6_3) = true := decide_eq_true c20
                    clear c20
                    by_cases c21 : x6_3 < (x0_3.length : Int)
                    · rw [if_pos c21] at H
                      have c21b0 : decide (x6_3 < (x0_3.length : Int)) = true := decide_eq_true c21
                      clear c21
                      obtain ⟨y249, hy249⟩ : ∃ y_ : List Bool, y_ = (x0_3.set (x6_3 : Int).toNat true) := ⟨_, rfl⟩
                      replace H : (standbyref01_Add.l0 k3 y249 x5_9 (wrap64 (x6_3 + 1))) = some r := by first | (rw [hy249]; with_reducible exact H) | (have H2_ := (Option.bind_some _ _).symm.trans H; rw [hy249]; with_reducible exact H2_) | (have H2_ := (Option.bind_some _ _).symm.trans H; with_reducible exact H2_) | with_reducible exact H | (rw [hy249]; exact H) | exact H
                      have Ny249 := Aside0.mk hy249
                      clear hy249
                      have H' := Aside0.mk H
                      clear H
                      have p22 : 0 ≤ (x6_3 : Int) := of_decide_eq_true (by first | (with_reducible assumption) | assumption)
                      have q22 : (x6_3 : Int) < ((x0_3.length : Int) : Int) := of_decide_eq_true (by first | (with_reducible assumption) | assumption)
                      obtain ⟨go22, co22, eo22, gb22, gl22, cl22, HG22⟩ := Kd.R_form HO_0.out (by omega)
                      (first | cases eo22 | (injection eo22 with ea_ en_ ec_; (first | subst ea_ | (injection ea_ with ea_; subst ea_)); subst ec_; clear en_))
                      have GB22 := Aside0.mk gb22
                      have GG22 := Aside0.mk HG22
                      clear gb22 gl22 HG22
                      have HMgo22 := Aside0.mk (show (P0_ go22 ∨ w.heap.size ≤ go22) from (HO_0.out.1 _ rfl))
                      obtain ⟨hx22_0, hf22_0⟩ := Kd.R_celln false HO_0.out (x6_3 : Int) p22 q22
                      replace p22 := eq_true p22
                      replace q22 := eq_true q22
                      have HP23 := Kd.R_putg HO_0.out (x6_3 : Int) true
                      go_wp2_with (first | ((with_reducible refine gate_store (t := 4) (p := 46) rfl ?_); refine store_event (t := 4) (p := 46) (v := ?vo_w24) (w1 := (wr.setCell ⟨go22, (x6_3 : Int).toNat, none⟩ (.bool true))) ?hg ?ho ?hn ?hr ?_; (case ho => rfl); (case hg => rfl); (case hn => rfl); (case hr => first | (go_simp; done) | (go_simp; rfl)); intro w24 hw; have hg : wr.grownBy w24 (some go22) := (by rw [hw]; exact HP23.2); have hp_ : Kd.R Kd.bool 4 w24 w0.heap.size (fun k_ => (P0_ k_ ∨ w.heap.size ≤ k_)) (.slice (some ⟨go22, 0, none⟩) x0_3.length co12) y249 := (by rw [hw, Ny249.out]; exact HP23.1); clear HP23; have n0_ := Aside0.mk (hp_); have n1_ := Aside0.mk (blk_grown (g := gb248) (o := .cells #[.int .i64 a1_0, .int .i64 a1_1] 54 (0, 0)) (by (with_reducible repeat (first | refine blk_drewN ?_ _ | refine blk_drew ?_ | refine blk_alloc ?_ _)); exact BK248.out) hg (Kd.R_ne HO_0.out BK248.out (by decide))); have n2_ := Aside0.mk ((by rw [hw]; exact below_set (HB.out) GB22.out : Below w0.heap.size w0 w24)); have n3_ := Aside0.mk (Kept.of_grown (S := (fun k_ => P0_ k_)) hg (by repeat (first | (with_reducible first | exact HK.out | apply Kept.alloc | apply Kept.drewN | apply Kept.drew | refine Kept.setCell ?_ (.inr GW248.out) _) | exact HK.out)) (fun k_ e_ => (HO_0.out.1 k_ e_))); clear HO_0; clear BK248; clear HB; clear HK; have HO_0 := n0_; have BK248 := n1_; have HB := n2_; have HK := n3_; clear n0_ n1_ n2_ n3_; clear hg hw hp_))
                      (try simp only [← hl0_3])
                      go_roundg k3
                      case measure => have := HJ2.out; have := HJ9.out; have := HK3.out; omega
                      case rel => exact ⟨(y249), (wrap64 (x6_3 + 1)), (by first | rfl | (simp; done) | (simp [*]; done)), H', ⟨by have := HJ2.out; have := HJ9.out; have := HK3.out; omega⟩, ⟨by (try simp only [hl0_3]); (with_reducible repeat (first | apply Kd.R_alloc | apply Kd.R_drewN | apply Kd.R_drew)); exact HO_0.out⟩, ⟨by (try simp only [hl0_3]); (with_reducible repeat (first | refine blk_drewN ?_ _ | refine blk_drew ?_ | refine blk_alloc ?_ _)); exact BK248.out⟩, ⟨by repeat (first | (with_reducible first | exact HK.out | apply Kept.alloc | apply Kept.drewN | apply Kept.drew | refine Kept.setCell ?_ (.inr GW248.out) _) | exact HK.out)⟩, ⟨by repeat (first | (with_reducible first | exact HB.out | apply below_alloc | apply pw_below_drewN | apply below_drew1 | refine below_set ?_ GE248.out) | exact HB.out)⟩⟩
                    · rw [if_neg c21] at H
                      exact absurd H (by simp)
                  · rw [if_neg c20] at H
                    exact absurd H (by simp)
                · rw [if_neg c19] at H
                  have c19b0 : decide (x6_3 < x5_9) = false := decide_eq_false c19
                  clear c19
                  obtain rfl := Option.some.inj H
                  go_wp2
                  first | go_end0 | ((try simp only [Exit.inBlock, Exit.then]); refine bodyPost_ret (results_none rfl _ _ _) rfl ?_)
                  exact ⟨by first | rfl | (simp [errW_none, errW_some] <;> rfl) | (simp [*, errW_none, errW_some] <;> rfl), (by first | exact (by (with_reducible repeat (first | apply Kd.R_alloc | apply Kd.R_drewN | apply Kd.R_drew)); exact HO_0.out) | (simp only [hl0_3]; exact (by (with_reducible repeat (first | apply Kd.R_alloc | apply Kd.R_drewN | apply Kd.R_drew)); exact HO_0.out))), by repeat (first | (with_reducible first | exact HB.out | apply below_alloc | apply pw_below_drewN | apply below_drew1 | refine below_set ?_ GE248.out) | exact HB.out), by repeat (first | (with_reducible first | exact HK.out | apply Kept.alloc | apply Kept.drewN | apply Kept.drew | refine Kept.setCell ?_ (.inr GW248.out) _) | exact HK.out)⟩
def standbyref01_Marks.l0 : Nat → List (S54) → List Bool → Int → Option (List Bool)
  | 0, _, _, _ => none
  | k + 1, x0, x3, x4 => if x4 < (x0.length : Int) then (if 0 ≤ x4 then ((standbyref01_Add.f k x3 ((rd_T54 x0 x4).f0) ((rd_T54 x0 x4).f1)).bind fun t254 => (standbyref01_Marks.l0 k x0 t254 (wrap64 (x4 + 1)))) else (none)) else (some x3)
def standbyref01_Marks.f (k : Nat) (l0 : List (S54)) : Option (List Bool) := if 4096 ≤ 281474976710656 then (standbyref01_Marks.l0 k l0 (List.replicate 4096 false) 0) else (none)
set_option maxHeartbeats 8000000 in
set_option maxRecDepth 100000 in
theorem standbyref01_Marks.calls (k : Nat) (A0 : Option Addr) (c0 : Nat) (l0 : List (S54)) (r : List Bool) (w : World) (hr0 : Kd.C k54 w A0 l0.length l0) (hc0 : l0.length ≤ c0) (h : standbyref01_Marks.f k l0 = some r) :
    Calls Try.prog 58 #[.slice A0 l0.length c0] w fun e w' => ∃ v0_ : Value, e = .returned (v0_) ∧ Kd.R Kd.bool 4 w' w.heap.size (fun _ => True) v0_ r ∧ Below w.heap.size w w' := by
  have hu54 := Try.underlying54
  have HR0 := Aside0.mk hr0
  have HC0 := Aside0.mk hc0
  clear hr0 hc0
  have HB := Aside0.mk (Below.refl w.heap.size w)
  have H : (if 4096 ≤ 281474976710656 then (standbyref01_Marks.l0 k l0 (List.replicate 4096 false) 0) else (none)) = some r := h
  clear h
  by_cases c2 : 4096 ≤ 281474976710656
  · rw [if_pos c2] at H
    have c2b0 := eq_true c2
    have c2b1 : decide (4096 ≤ 281474976710656) = true := decide_eq_true c2
    clear c2
    obtain ⟨y250, hy250⟩ : ∃ y_ : List Bool, y_ = (List.replicate 4096 false) := ⟨_, rfl⟩
    replace H : (standbyref01_Marks.l0 k l0 y250 0) = some r := by first | (rw [hy250]; with_reducible exact H) | (have H2_ := (Option.bind_some _ _).symm.trans H; rw [hy250]; with_reducible exact H2_) | (have H2_ := (Option.bind_some _ _).symm.trans H; with_reducible exact H2_) | with_reducible exact H | (rw [hy250]; exact H) | exact H
    have Ny250 := Aside0.mk hy250
    clear hy250
    have H' := Aside0.mk H
    clear H
    go_enter Try.func58, Try.ntmps58
    go_wp2_with (first | ((with_reducible refine gate_dst (N := 5) rfl ?_); refine Kd.R_make Kd.bool _ 4 rfl (N := 5) rfl 81 _ _ rfl 4096 rfl rfl Try.underlying81 (.bool false) 1 info4 rfl (by decide) (by omega) false (ok := fun _ => True) (okp := fun _ => True) rfl (fun _ hk => hk) trivial (by omega) (by omega) (Below.refl _ _) (Nat.le_refl _) ?_; intro v251 w3 ho4 hb hg_ hnew_; clear hg_ hnew_; (first | rw [← Ny250.out] at ho4 | (simp only [Int.reduceToNat] at ho4; rw [← Ny250.out] at ho4)); have n0_ := Aside0.mk (Kd.R_lower ho4 (below_size (by repeat (first | (with_reducible first | exact HB.out | apply below_alloc | apply pw_below_drewN | apply below_drew1) | exact HB.out)))); have n1_ := Aside0.mk (below_step (by repeat (first | (with_reducible first | exact HB.out | apply below_alloc | apply pw_below_drewN | apply below_drew1) | exact HB.out)) hb); clear HB; have HO252 := n0_; have HB := n1_; clear n0_ n1_; clear hb ho4))
    go_loopg [4] k (fun kq v4 w' => ∃ (x3_1 : List Bool) (x4_1 : Int), v4 = .int .i64 x4_1 ∧ Aside0 (standbyref01_Marks.l0 kq l0 x3_1 x4_1 = some r) ∧ Aside0 (kq ≤ k) ∧ Aside0 (Kd.R Kd.bool 4 w' w.heap.size (fun _ => True) v251 x3_1) ∧ Aside0 (Below w.heap.size w w'))
    case atStart => exact ⟨(y250), (0), (by first | rfl | (simp; done) | (simp [*]; done)), H', ⟨Nat.le_refl _⟩, ⟨by (with_reducible repeat (first | apply Kd.R_alloc | apply Kd.R_drewN | apply Kd.R_drew)); exact HO252.out⟩, ⟨by repeat (first | (with_reducible first | exact HB.out | apply below_alloc | apply pw_below_drewN | apply below_drew1) | exact HB.out)⟩⟩
    case round =>
      clear H'
      try clear c2
      try clear c2b0
      try clear c2b1
      try clear p2
      obtain ⟨x3_1, x4_1, rfl, HA, HK1, HO_3, HB⟩ := hrel
      cases gk with
      | zero => exact absurd HA.out (by simp [standbyref01_Marks.l0])
      | succ k1 =>
        have H := HA.out
        clear HA
        simp only [standbyref01_Marks.l0] at H
        by_cases c5 : x4_1 < (l0.length : Int)
        · rw [if_pos c5] at H
          have c5b0 : decide (x4_1 < (l0.length : Int)) = true := decide_eq_true c5
          clear c5
          by_cases c6 : 0 ≤ x4_1
          · rw [if_pos c6] at H
            have c6b0 : decide (0 ≤ x4_1) = true := decide_eq_true c6
            clear c6
            replace H := Option.bind_eq_some_iff.mp H
            obtain ⟨t254, A70, H⟩ := H
            replace H : (standbyref01_Marks.l0 k1 l0 t254 (wrap64 (x4_1 + 1))) = some r := H
            have A7 := Aside0.mk A70
            clear A70
            have H' := Aside0.mk H
            clear H
            have p253 : 0 ≤ (x4_1 : Int) := of_decide_eq_true (by first | (with_reducible assumption) | assumption)
            have q253 : x4_1 < (l0.length : Int) := of_decide_eq_true (by first | (with_reducible assumption) | assumption)
            obtain ⟨ad253, e253, hx253_0, hx253_1⟩ := at_T54 HR0.out x4_1 p253 q253
            cases e253
            replace hx253_0 := (HB.out.cell (World.block_lt_of_cell? w _ hx253_0)).trans hx253_0
            replace hx253_1 := (HB.out.cell (World.block_lt_of_cell? w _ hx253_1)).trans hx253_1
            replace p253 := eq_true p253
            replace q253 := eq_true q253
            obtain ⟨Ao8, co8, eo8⟩ := Kd.R_slice HO_3.out
            subst eo8
            go_wp2_with (first | ((with_reducible refine gate_callee (f := 77) rfl ?_); refine goesL_ (some 17) rfl rfl Try.func77 (by kernel_rfl) rfl #[.slice Ao8 x3_1.length co8, .agg #[.int .i64 ((rd_T54 l0 x4_1).f0), .int .i64 ((rd_T54 l0 x4_1).f1)]] rfl (by (try simp only [List.map_toArray, List.map_cons, List.map_nil]); first | done | rfl | (simp only [List.length_drop, List.length_take]; rfl)) ?_; (with_reducible refine (standbyref01_Add.calls k1 (fun k_ => some k_ = (.slice Ao8 x3_1.length co8 : Value).ownBlock) (.slice Ao8 x3_1.length co8) x3_1 ((rd_T54 l0 x4_1).f0) ((rd_T54 l0 x4_1).f1) t254 w _ ?side1 ?side2 A7.out).mono ?_); (case side1 => repeat (first | (with_reducible first | exact HB.out | apply below_alloc | apply pw_below_drewN | apply below_drew1) | exact HB.out)); (case side2 => exact Kd.R_tight rfl HO_3.out); rintro e w9 ⟨rfl, hy0, hb, hkp⟩; refine ⟨_, rfl, ?_⟩; have n0_ := Aside0.mk (Kd.R_reok rfl hy0 (fun k_ e_ => HO_3.out.1 k_ e_)); have n1_ := Aside0.mk (hb); clear HO_3; clear HB; have HO_3 := n0_; have HB := n1_; clear n0_ n1_; (try clear hb); (try clear hkp); (try clear hy0)))
            go_roundg k1
            case measure => have := HK1.out; omega
            case rel => exact ⟨(t254), (wrap64 (x4_1 + 1)), (by first | rfl | (simp; done) | (simp [*]; done)), H', ⟨by have := HK1.out; omega⟩, ⟨by (with_reducible repeat (first | apply Kd.R_alloc | apply Kd.R_drewN | apply Kd.R_drew)); exact HO_3.out⟩, ⟨by repeat (first | (with_reducible first | exact HB.out | apply below_alloc | apply pw_below_drewN | apply below_drew1) | exact HB.out)⟩⟩
          · rw [if_neg c6] at H
            exact absurd H (by simp)
        · rw [if_neg c5] at H
          have c5b0 : decide (x4_1 < (l0.length : Int)) = false := decide_eq_false c5
          clear c5
          obtain rfl := Option.some.inj H
          go_wp2
          go_ret
          exact ⟨_, by first | rfl | (simp [errW_none, errW_some] <;> rfl) | (simp [*, errW_none, errW_some] <;> rfl), by (with_reducible repeat (first | apply Kd.R_alloc | apply Kd.R_drewN | apply Kd.R_drew)); exact HO_3.out, by repeat (first | (with_reducible first | exact HB.out | apply below_alloc | apply pw_below_drewN | apply below_drew1) | exact HB.out)⟩
  · rw [if_neg c2] at H
    exact absurd H (by simp)
def standbyref01_List.l0 : Nat → List Bool → List (S54) → Int → Option ((List (S54)))
  | 0, _, _, _ => none
  | k + 1, x0, x3, x4 => if x4 < (x0.length : Int) then (if 0 ≤ x4 then (if rdOf false x0 x4 = true then (if x4 > 0 then (if 0 ≤ (wrap64 (x4 - 1)) then (if (wrap64 (x4 - 1)) < (x0.length : Int) then (if rdOf false x0 (wrap64 (x4 - 1)) = true then (if 0 ≤ (wrap64 ((x3.length : Int) - 1)) then (if (wrap64 ((x3.length : Int) - 1)) < (x3.length : Int) then (standbyref01_List.l0 k x0 (x3.set ((wrap64 ((x3.length : Int) - 1)) : Int).toNat (⟨(rd_T54 x3 (wrap64 ((x3.length : Int) - 1))).f0, wrap64 (((rd_T54 x3 (wrap64 ((x3.length : Int) - 1))).f1) + 1)⟩ : S54)) (wrap64 (x4 + 1))) else (none)) else (none)) else (if x3.length < 8796093022208 then (standbyref01_List.l0 k x0 (x3 ++ [(⟨x4, 1⟩ : S54)]) (wrap64 (x4 + 1))) else (none))) else (none)) else (none)) else (if x3.length < 8796093022208 then (standbyref01_List.l0 k x0 (x3 ++ [(⟨x4, 1⟩ : S54)]) (wrap64 (x4 + 1))) else (none))) else (standbyref01_List.l0 k x0 x3 (wrap64 (x4 + 1)))) else (none)) else (some x3)
def standbyref01_List.f (k : Nat) (l0 : List Bool) : Option ((List (S54))) := standbyref01_List.l0 k l0 ([] : List (S54)) 0
set_option maxHeartbeats 8000000 in
set_option maxRecDepth 100000 in
theorem standbyref01_List.calls (k : Nat) (A0 : Option Addr) (c0 : Nat) (l0 : List Bool) (r : List (S54)) (w : World) (hr0 : Kd.C Kd.bool w A0 l0.length l0) (hc0 : l0.length ≤ c0) (h : standbyref01_List.f k l0 = some r) :
    Calls Try.prog 59 #[.slice A0 l0.length c0] w fun e w' => ∃ v0_ : Value, e = .returned (v0_) ∧ Kd.R k54 54 w' w.heap.size (fun _ => True) v0_ r ∧ Below w.heap.size w w' := by
  have hu54 := Try.underlying54
  have HR0 := Aside0.mk hr0
  have HC0 := Aside0.mk hc0
  clear hr0 hc0
  have HB := Aside0.mk (Below.refl w.heap.size w)
  have H : (standbyref01_List.l0 k l0 ([] : List (S54)) 0) = some r := h
  clear h
  have H' := Aside0.mk H
  clear H
  go_enter Try.func59, Try.ntmps59
  go_wp2
  go_loopg [3, 4] k (fun kq v3 v4 w' => ∃ (x3_1 : List (S54)) (x4_1 : Int), v4 = .int .i64 x4_1 ∧ Aside0 (standbyref01_List.l0 kq l0 x3_1 x4_1 = some r) ∧ Aside0 (kq ≤ k) ∧ Aside0 (Kd.R k54 54 w' w.heap.size (fun _ => True) v3 x3_1) ∧ Aside0 (Below w.heap.size w w'))
  case atStart => exact ⟨(([] : List (S54))), (0), (by first | rfl | (simp; done) | (simp [*]; done)), H', ⟨Nat.le_refl _⟩, ⟨by first | exact Kd.R_nil _ _ _ _ _ | exact Kd.N_nil _ _ _ _ _ | exact Kd.V_nil _ _ _ _ _ | exact Kd.Q_nil _ _ _ _ _ | exact Kd.S_nil _ _ _ _ _⟩, ⟨by repeat (first | (with_reducible first | exact HB.out | apply below_alloc | apply pw_below_drewN | apply below_drew1) | exact HB.out)⟩⟩
  case round =>
    clear H'
    obtain ⟨x3_1, x4_1, rfl, HA, HK1, HO_3, HB⟩ := hrel
    cases gk with
    | zero => exact absurd HA.out (by simp [standbyref01_List.l0])
    | succ k1 =>
      have H := HA.out
      clear HA
      simp only [standbyref01_List.l0] at H
      by_cases c2 : x4_1 < (l0.length : Int)
      · rw [if_pos c2] at H
        have c2b0 : decide (x4_1 < (l0.length : Int)) = true := decide_eq_true c2
        clear c2
        by_cases c3 : 0 ≤ x4_1
        · rw [if_pos c3] at H
          have c3b0 : decide (0 ≤ x4_1) = true := decide_eq_true c3
          clear c3
          obtain ⟨bq4, hbq4⟩ : ∃ b_ : Bool, b_ = (rdOf false l0 x4_1) := ⟨_, rfl⟩
          replace H : (if bq4 = true then (if x4_1 > 0 then (if 0 ≤ (wrap64 (x4_1 - 1)) then (if (wrap64 (x4_1 - 1)) < (l0.length : Int) then (if rdOf false l0 (wrap64 (x4_1 - 1)) = true then (if 0 ≤ (wrap64 ((x3_1.length : Int) - 1)) then (if (wrap64 ((x3_1.length : Int) - 1)) < (x3_1.length : Int) then (standbyref01_List.l0 k1 l0 (x3_1.set ((wrap64 ((x3_1.length : Int) - 1)) : Int).toNat (⟨(rd_T54 x3_1 (wrap64 ((x3_1.length : Int) - 1))).f0, wrap64 (((rd_T54 x3_1 (wrap64 ((x3_1.length : Int) - 1))).f1) + 1)⟩ : S54)) (wrap64 (x4_1 + 1))) else (none)) else (none)) else (if x3_1.length < 8796093022208 then (standbyref01_List.l0 k1 l0 (x3_1 ++ [(⟨x4_1, 1⟩ : S54)]) (wrap64 (x4_1 + 1))) else (none))) else (none)) else (none)) else (if x3_1.length < 8796093022208 then (standbyref01_List.l0 k1 l0 (x3_1 ++ [(⟨x4_1, 1⟩ : S54)]) (wrap64 (x4_1 + 1))) else (none))) else (standbyref01_List.l0 k1 l0 x3_1 (wrap64 (x4_1 + 1)))) = some r := by rw [← hbq4] at H; exact H
          have Nbq4 := Aside0.mk hbq4
          clear hbq4
          by_cases c5 : bq4 = true
          · subst c5
            have H1 : (if x4_1 > 0 then (if 0 ≤ (wrap64 (x4_1 - 1)) then (if (wrap64 (x4_1 - 1)) < (l0.length : Int) then (if rdOf false l0 (wrap64 (x4_1 - 1)) = true then (if 0 ≤ (wrap64 ((x3_1.length : Int) - 1)) then (if (wrap64 ((x3_1.length : Int) - 1)) < (x3_1.length : Int) then (standbyref01_List.l0 k1 l0 (x3_1.set ((wrap64 ((x3_1.length : Int) - 1)) : Int).toNat (⟨(rd_T54 x3_1 (wrap64 ((x3_1.length : Int) - 1))).f0, wrap64 (((rd_T54 x3_1 (wrap64 ((x3_1.length : Int) - 1))).f1) + 1)⟩ : S54)) (wrap64 (x4_1 + 1))) else (none)) else (none)) else (if x3_1.length < 8796093022208 then (standbyref01_List.l0 k1 l0 (x3_1 ++ [(⟨x4_1, 1⟩ : S54)]) (wrap64 (x4_1 + 1))) else (none))) else (none)) else (none)) else (if x3_1.length < 8796093022208 then (standbyref01_List.l0 k1 l0 (x3_1 ++ [(⟨x4_1, 1⟩ : S54)]) (wrap64 (x4_1 + 1))) else (none))) = some r := by rw [if_pos rfl] at H; exact H
            clear H
            have H := H1
            clear H1
            by_cases c6 : x4_1 > 0
            · rw [if_pos c6] at H
              have c6b0 : decide (0 < x4_1) = true := decide_eq_true c6
              clear c6
              obtain ⟨ji7, hji7⟩ : ∃ j_ : Int, (wrap64 (x4_1 - 1)) = j_ := ⟨_, rfl⟩
              replace H : (if 0 ≤ (ji7) then (if (ji7) < (l0.length : Int) then (if rdOf false l0 (ji7) = true then (if 0 ≤ (wrap64 ((x3_1.length : Int) - 1)) then (if (wrap64 ((x3_1.length : Int) - 1)) < (x3_1.length : Int) then (standbyref01_List.l0 k1 l0 (x3_1.set ((wrap64 ((x3_1.length : Int) - 1)) : Int).toNat (⟨(rd_T54 x3_1 (wrap64 ((x3_1.length : Int) - 1))).f0, wrap64 (((rd_T54 x3_1 (wrap64 ((x3_1.length : Int) - 1))).f1) + 1)⟩ : S54)) (wrap64 (x4_1 + 1))) else (none)) else (none)) else (if x3_1.length < 8796093022208 then (standbyref01_List.l0 k1 l0 (x3_1 ++ [(⟨x4_1, 1⟩ : S54)]) (wrap64 (x4_1 + 1))) else (none))) else (none)) else (none)) = some r := by first | (rw [hji7] at H; exact H) | (simp only [hji7] at H ⊢; exact H)
              have hji7w : (IntKind.i64.wrap (x4_1 - 1)) = ji7 := (i64_w _).trans hji7
              by_cases c8 : 0 ≤ (ji7)
              · rw [if_pos c8] at H
                have c8b0 : decide (0 ≤ (ji7)) = true := decide_eq_true c8
                clear c8
                by_cases c9 : (ji7) < (l0.length : Int)
                · rw [if_pos c9] at H
                  have c9b0 : decide ((ji7) < (l0.length : Int)) = true := decide_eq_true c9
                  clear c9
                  obtain ⟨bq10, hbq10⟩ : ∃ b_ : Bool, b_ = (rdOf false l0 (ji7)) := ⟨_, rfl⟩
                  replace H : (if bq10 = true then (if 0 ≤ (wrap64 ((x3_1.length : Int) - 1)) then (if (wrap64 ((x3_1.length : Int) - 1)) < (x3_1.length : Int) then (standbyref01_List.l0 k1 l0 (x3_1.set ((wrap64 ((x3_1.length : Int) - 1)) : Int).toNat (⟨(rd_T54 x3_1 (wrap64 ((x3_1.length : Int) - 1))).f0, wrap64 (((rd_T54 x3_1 (wrap64 ((x3_1.length : Int) - 1))).f1) + 1)⟩ : S54)) (wrap64 (x4_1 + 1))) else (none)) else (none)) else (if x3_1.length < 8796093022208 then (standbyref01_List.l0 k1 l0 (x3_1 ++ [(⟨x4_1, 1⟩ : S54)]) (wrap64 (x4_1 + 1))) else (none))) = some r := by rw [← hbq10] at H; exact H
                  have Nbq10 := Aside0.mk hbq10
                  clear hbq10
                  by_cases c11 : bq10 = true
                  · subst c11
                    have H1 : (if 0 ≤ (wrap64 ((x3_1.length : Int) - 1)) then (if (wrap64 ((x3_1.length : Int) - 1)) < (x3_1.length : Int) then (standbyref01_List.l0 k1 l0 (x3_1.set ((wrap64 ((x3_1.length : Int) - 1)) : Int).toNat (⟨(rd_T54 x3_1 (wrap64 ((x3_1.length : Int) - 1))).f0, wrap64 (((rd_T54 x3_1 (wrap64 ((x3_1.length : Int) - 1))).f1) + 1)⟩ : S54)) (wrap64 (x4_1 + 1))) else (none)) else (none)) = some r := by rw [if_pos rfl] at H; exact H
                    clear H
                    have H := H1
                    clear H1
                    obtain ⟨ji12, hji12⟩ : ∃ j_ : Int, (wrap64 ((x3_1.length : Int) - 1)) = j_ := ⟨_, rfl⟩
                    replace H : (if 0 ≤ (ji12) then (if (ji12) < (x3_1.length : Int) then (standbyref01_List.l0 k1 l0 (x3_1.set ((ji12) : Int).toNat (⟨(rd_T54 x3_1 (ji12)).f0, wrap64 (((rd_T54 x3_1 (ji12)).f1) + 1)⟩ : S54)) (wrap64 (x4_1 + 1))) else (none)) else (none)) = some r := by first | (rw [hji12] at H; exact H) | (simp only [hji12] at H ⊢; exact H)
                    have hji12w : (IntKind.i64.wrap ((x3_1.length : Int) - 1)) = ji12 := (i64_w _).trans hji12
                    by_cases c13 : 0 ≤ (ji12)
                    · rw [if_pos c13] at H
                      have c13b0 : decide (0 ≤ (ji12)) = true := decide_eq_true c13
                      clear c13
                      by_cases c14 : (ji12) < (x3_1.length : Int)
                      · rw [if_pos c14] at H
                        have c14b0 : decide ((ji12) < (x3_1.length : Int)) = true := decide_eq_true c14
                        clear c14
                        obtain ⟨y258, hy258⟩ : ∃ y_ : List (S54), y_ = (x3_1.set ((ji12) : Int).toNat (⟨(rd_T54 x3_1 (ji12)).f0, wrap64 (((rd_T54 x3_1 (ji12)).f1) + 1)⟩ : S54)) := ⟨_, rfl⟩
                        replace H : (standbyref01_List.l0 k1 l0 y258 (wrap64 (x4_1 + 1))) = some r := by first | (rw [hy258]; with_reducible exact H) | (have H2_ := (Option.bind_some _ _).symm.trans H; rw [hy258]; with_reducible exact H2_) | (have H2_ := (Option.bind_some _ _).symm.trans H; with_reducible exact H2_) | with_reducible exact H | (rw [hy258]; exact H) | exact H
                        have Ny258 := Aside0.mk hy258
                        clear hy258
                        have H' := Aside0.mk H
                        clear H
                        have p255 : 0 ≤ (x4_1 : Int) := of_decide_eq_true (by first | (with_reducible assumption) | assumption)
                        have q255 : x4_1 < (l0.length : Int) := of_decide_eq_true (by first | (with_reducible assumption) | assumption)
                        obtain ⟨ad255, e255, hx255_0⟩ := Kd.at_bool HR0.out x4_1 p255 q255
                        (try rw [← Nbq4.out] at hx255_0)
                        (try rw [← Nbq10.out] at hx255_0)
                        cases e255
                        replace hx255_0 := (HB.out.cell (World.block_lt_of_cell? w _ hx255_0)).trans hx255_0
                        replace p255 := eq_true p255
                        replace q255 := eq_true q255
                        have p256 : 0 ≤ ((ji7) : Int) := of_decide_eq_true (by first | (with_reducible assumption) | assumption)
                        have q256 : (ji7) < (l0.length : Int) := of_decide_eq_true (by first | (with_reducible assumption) | assumption)
                        obtain ⟨ad256, e256, hx256_0⟩ := Kd.at_bool HR0.out (ji7) p256 q256
                        (try rw [← Nbq4.out] at hx256_0)
                        (try rw [← Nbq10.out] at hx256_0)
                        obtain rfl : ad255 = ad256 := (by injection e256)
                        replace hx256_0 := (HB.out.cell (World.block_lt_of_cell? w _ hx256_0)).trans hx256_0
                        replace p256 := eq_true p256
                        replace q256 := eq_true q256
                        obtain ⟨Ao16, co16, eo16⟩ := Kd.R_slice HO_3.out
                        subst eo16
                        have p257 : 0 ≤ ((ji12) : Int) := of_decide_eq_true (by first | (with_reducible assumption) | assumption)
                        have q257 : (ji12) < (x3_1.length : Int) := of_decide_eq_true (by first | (with_reducible assumption) | assumption)
                        obtain ⟨ad257, e257, hx257_0, hx257_1⟩ := at_T54 (Kd.R_reads' HO_3.out).2.2 (ji12) p257 q257
                        cases e257
                        replace p257 := eq_true p257
                        replace q257 := eq_true q257
                        have p15 : 0 ≤ ((ji12) : Int) := of_decide_eq_true (by first | (with_reducible assumption) | assumption)
                        have q15 : ((ji12) : Int) < ((x3_1.length : Int) : Int) := of_decide_eq_true (by first | (with_reducible assumption) | assumption)
                        obtain ⟨go15, co15, eo15, gb15, gl15, cl15, HG15⟩ := Kd.R_form HO_3.out (by omega)
                        (first | cases eo15 | (injection eo15 with ea_ en_ ec_; (first | subst ea_ | (injection ea_ with ea_; subst ea_)); subst ec_; clear en_))
                        have GB15 := Aside0.mk gb15
                        have GG15 := Aside0.mk HG15
                        clear gb15 gl15 HG15
                        (first | simp only [add_plain] at hx257_0 | skip)
                        (first | simp only [add_plain] at hx257_1 | skip)
                        obtain ⟨ce15, hcl15, hM15, hcc15, hfr15⟩ := Kd.R_elem HO_3.out z54 ((ji12) : Int) p15 q15
                        obtain rfl := k54_openM hM15
                        have hx15_0 : wr.cell? ⟨go15, ((ji12) : Int).toNat * 2, none⟩ = some (.int .i64 ((rd_T54 x3_1 (ji12)).f0)) := hcc15 0 _ rfl
                        have hx15_1 : wr.cell? ⟨go15, ((ji12) : Int).toNat * 2 + 1, none⟩ = some (.int .i64 ((rd_T54 x3_1 (ji12)).f1)) := hcc15 1 _ rfl
                        have hf15_0 : wr.frozen? ⟨go15, ((ji12) : Int).toNat * 2, none⟩ = false := hfr15 0
                        have hf15_1 : wr.frozen? ⟨go15, ((ji12) : Int).toNat * 2 + 1, none⟩ = false := hfr15 1
                        clear hcl15 hcc15 hfr15 hM15
                        replace p15 := eq_true p15
                        replace q15 := eq_true q15
                        have HX17 := Aside0.mk (show Kd.R k54 54 wr w.heap.size (fun _ => True) (.slice (some ⟨go15, 0, none⟩) x3_1.length co16) x3_1 from (by (with_reducible repeat (first | apply Kd.R_alloc | apply Kd.R_drewN | apply Kd.R_drew)); exact HO_3.out))
                        obtain ⟨ce17, hcl17, hM17, hcc17, hfr17⟩ := Kd.R_elem HX17.out z54 ((ji12) : Int) (of_decide_eq_true (by first | (with_reducible assumption) | assumption)) (by have h_ : ((ji12) : Int) < ((x3_1.length : Int) : Int) := of_decide_eq_true (by first | (with_reducible assumption) | assumption); first | exact h_ | (have e_ := (Kd.R_reads' HO_3.out).1; omega) | simpa using h_)
                        obtain rfl := k54_openM hM17
                        have HP17 := Kd.R_seg HX17.out ((ji12) : Int) (of_decide_eq_true (by first | (with_reducible assumption) | assumption)) (by have h_ : ((ji12) : Int) < ((x3_1.length : Int) : Int) := of_decide_eq_true (by first | (with_reducible assumption) | assumption); first | exact h_ | (have e_ := (Kd.R_reads' HO_3.out).1; omega) | simpa using h_) (seg := [.int .i64 (wrap64 (((rd_T54 x3_1 (ji12)).f1) + 1))]) (j := 1) hcl17 hcc17 (show 2 ≤ 2 from by decide) (x' := (⟨(rd_T54 x3_1 (ji12)).f0, wrap64 (((rd_T54 x3_1 (ji12)).f1) + 1)⟩ : S54)) (k54_mkM _ _ _ (⟨(rd_T54 x3_1 (ji12)).f0, wrap64 (((rd_T54 x3_1 (ji12)).f1) + 1)⟩ : S54) ) (fun _ hk => hk)
                        have hx17_1 := hcc17 1 _ rfl
                        (try simp only [show (k54).sz = 2 from rfl, Nat.mul_one, Nat.add_zero] at hx17_1)
                        have hf17_1 := hfr17 1
                        (try simp only [show (k54).sz = 2 from rfl, Nat.mul_one, Nat.add_zero] at hf17_1)
                        clear hcl17 hcc17 hfr17 hM17
                        go_wp2_with (first | ((with_reducible refine gate_store (t := 3) (p := 34) rfl ?_); refine store_event (t := 3) (p := 34) (v := ?vo_w18) (w1 := (wr.setCell ⟨go15, ((ji12) : Int).toNat * 2 + 1, none⟩ (.int .i64 (wrap64 (((rd_T54 x3_1 (ji12)).f1) + 1))))) ?hg ?ho ?hn ?hr ?_; (case ho => rfl); (case hg => rfl); (case hn => rfl); (case hr => first | (go_simp; done) | (go_simp; rfl)); intro w18 hw; have hg : wr.grownBy w18 (some go15) := (by rw [hw]; exact HP17.2); have hp_ : Kd.R k54 54 w18 w.heap.size (fun _ => True) (.slice (some ⟨go15, 0, none⟩) x3_1.length co16) y258 := (by rw [hw, Ny258.out]; exact HP17.1); clear HP17; have n0_ := Aside0.mk (hp_); have n1_ := Aside0.mk ((by rw [hw]; exact below_set (HB.out) GB15.out : Below w.heap.size w w18)); clear HO_3; clear HB; have HO_3 := n0_; have HB := n1_; clear n0_ n1_; clear hg hw hp_))
                        go_roundg k1
                        case measure => have := HK1.out; omega
                        case rel => exact ⟨(y258), (wrap64 (x4_1 + 1)), (by first | rfl | (simp; done) | (simp [*]; done)), H', ⟨by have := HK1.out; omega⟩, ⟨by (with_reducible repeat (first | apply Kd.R_alloc | apply Kd.R_drewN | apply Kd.R_drew)); exact HO_3.out⟩, ⟨by repeat (first | (with_reducible first | exact HB.out | apply below_alloc | apply pw_below_drewN | apply below_drew1) | exact HB.out)⟩⟩
                      · rw [if_neg c14] at H
                        exact absurd H (by simp)
                    · rw [if_neg c13] at H
                      exact absurd H (by simp)
                  · replace c11 := Bool.eq_false_iff.mpr c11
                    subst c11
                    have H1 : (if x3_1.length < 8796093022208 then (standbyref01_List.l0 k1 l0 (x3_1 ++ [(⟨x4_1, 1⟩ : S54)]) (wrap64 (x4_1 + 1))) else (none)) = some r := by rw [if_neg (show ¬ (false = true) by decide)] at H; exact H
                    clear H
                    have H := H1
                    clear H1
                    by_cases c19 : x3_1.length < 8796093022208
                    · rw [if_pos c19] at H
                      have LMc19 := Aside0.mk c19
                      clear c19
                      obtain ⟨y259, hy259⟩ : ∃ y_ : List (S54), y_ = (x3_1 ++ [(⟨x4_1, 1⟩ : S54)]) := ⟨_, rfl⟩
                      replace H : (standbyref01_List.l0 k1 l0 y259 (wrap64 (x4_1 + 1))) = some r := by first | (rw [hy259]; with_reducible exact H) | (have H2_ := (Option.bind_some _ _).symm.trans H; rw [hy259]; with_reducible exact H2_) | (have H2_ := (Option.bind_some _ _).symm.trans H; with_reducible exact H2_) | with_reducible exact H | (rw [hy259]; exact H) | exact H
                      have Ny259 := Aside0.mk hy259
                      clear hy259
                      have H' := Aside0.mk H
                      clear H
                      have p255 : 0 ≤ (x4_1 : Int) := of_decide_eq_true (by first | (with_reducible assumption) | assumption)
                      have q255 : x4_1 < (l0.length : Int) := of_decide_eq_true (by first | (with_reducible assumption) | assumption)
                      obtain ⟨ad255, e255, hx255_0⟩ := Kd.at_bool HR0.out x4_1 p255 q255
                      (try rw [← Nbq4.out] at hx255_0)
                      (try rw [← Nbq10.out] at hx255_0)
                      cases e255
                      replace hx255_0 := (HB.out.cell (World.block_lt_of_cell? w _ hx255_0)).trans hx255_0
                      replace p255 := eq_true p255
                      replace q255 := eq_true q255
                      have p256 : 0 ≤ ((ji7) : Int) := of_decide_eq_true (by first | (with_reducible assumption) | assumption)
                      have q256 : (ji7) < (l0.length : Int) := of_decide_eq_true (by first | (with_reducible assumption) | assumption)
                      obtain ⟨ad256, e256, hx256_0⟩ := Kd.at_bool HR0.out (ji7) p256 q256
                      (try rw [← Nbq4.out] at hx256_0)
                      (try rw [← Nbq10.out] at hx256_0)
                      obtain rfl : ad255 = ad256 := (by injection e256)
                      replace hx256_0 := (HB.out.cell (World.block_lt_of_cell? w _ hx256_0)).trans hx256_0
                      replace p256 := eq_true p256
                      replace q256 := eq_true q256
                      go_wp2_with (first | ((with_reducible refine gate_builtin (b := .append) (xs := #[.tmp 35, .tmp 38]) rfl ?_); at_builtin; refine Kd.R_append k54 (w0 := w) w.heap.size rfl (.tmp 35) (.tmp 38) 50 54 (.agg #[(.int .i64 0), (.int .i64 0)]) 16 rfl Try.underlying50 info54 rfl (by decide) (by omega) u3 x3_1 (⟨x4_1, 1⟩ : S54) [.int .i64 x4_1, .int .i64 1] (fun _ => True) (fun _ => False) rfl rfl ?aP (fun _ hk => hk.elim) ?aF ?aO ?aB ?aS ?aL ?_; (case aP => exact k54_mkM _ _ _ (⟨x4_1, 1⟩ : S54)); (case aB => exact (by repeat (first | (with_reducible first | exact HB.out | apply below_alloc | apply pw_below_drewN | apply below_drew1) | exact HB.out))); (case aF => exact (fun _ _ => trivial)); (case aO => exact (by (with_reducible repeat (first | apply Kd.R_alloc | apply Kd.R_drewN | apply Kd.R_drew)); exact HO_3.out)); (case aS => exact (below_size (by repeat (first | (with_reducible first | exact HB.out | apply below_alloc | apply pw_below_drewN | apply below_drew1) | exact HB.out)))); (case aL => have := LMc19.out; omega); intro v260 w20 ho hb hg hat; rw [← Ny259.out] at ho; have n0_ := Aside0.mk (hb); have n1_ := Aside0.mk (ho); clear HB; clear HO_3; have HB := n0_; have HO261 := n1_; clear n0_ n1_; clear ho hb hg hat))
                      go_roundg k1
                      case measure => have := HK1.out; omega
                      case rel => exact ⟨(y259), (wrap64 (x4_1 + 1)), (by first | rfl | (simp; done) | (simp [*]; done)), H', ⟨by have := HK1.out; omega⟩, ⟨by (with_reducible repeat (first | apply Kd.R_alloc | apply Kd.R_drewN | apply Kd.R_drew)); exact HO261.out⟩, ⟨by repeat (first | (with_reducible first | exact HB.out | apply below_alloc | apply pw_below_drewN | apply below_drew1) | exact HB.out)⟩⟩
                    · rw [if_neg c19] at H
                      exact absurd H (by simp)
                · rw [if_neg c9] at H
                  exact absurd H (by simp)
              · rw [if_neg c8] at H
                exact absurd H (by simp)
            · rw [if_neg c6] at H
              have c6b0 : decide (0 < x4_1) = false := decide_eq_false c6
              clear c6
              by_cases c21 : x3_1.length < 8796093022208
              · rw [if_pos c21] at H
                have LMc21 := Aside0.mk c21
                clear c21
                obtain ⟨y262, hy262⟩ : ∃ y_ : List (S54), y_ = (x3_1 ++ [(⟨x4_1, 1⟩ : S54)]) := ⟨_, rfl⟩
                replace H : (standbyref01_List.l0 k1 l0 y262 (wrap64 (x4_1 + 1))) = some r := by first | (rw [hy262]; with_reducible exact H) | (have H2_ := (Option.bind_some _ _).symm.trans H; rw [hy262]; with_reducible exact H2_) | (have H2_ := (Option.bind_some _ _).symm.trans H; with_reducible exact H2_) | with_reducible exact H | (rw [hy262]; exact H) | exact H
                have Ny262 := Aside0.mk hy262
                clear hy262
                have H' := Aside0.mk H
                clear H
                have p255 : 0 ≤ (x4_1 : Int) := of_decide_eq_true (by first | (with_reducible assumption) | assumption)
                have q255 : x4_1 < (l0.length : Int) := of_decide_eq_true (by first | (with_reducible assumption) | assumption)
                obtain ⟨ad255, e255, hx255_0⟩ := Kd.at_bool HR0.out x4_1 p255 q255
                (try rw [← Nbq4.out] at hx255_0)
                cases e255
                replace hx255_0 := (HB.out.cell (World.block_lt_of_cell? w _ hx255_0)).trans hx255_0
                replace p255 := eq_true p255
                replace q255 := eq_true q255
                go_wp2_with (first | ((with_reducible refine gate_builtin (b := .append) (xs := #[.tmp 35, .tmp 38]) rfl ?_); at_builtin; refine Kd.R_append k54 (w0 := w) w.heap.size rfl (.tmp 35) (.tmp 38) 50 54 (.agg #[(.int .i64 0), (.int .i64 0)]) 16 rfl Try.underlying50 info54 rfl (by decide) (by omega) u3 x3_1 (⟨x4_1, 1⟩ : S54) [.int .i64 x4_1, .int .i64 1] (fun _ => True) (fun _ => False) rfl rfl ?aP (fun _ hk => hk.elim) ?aF ?aO ?aB ?aS ?aL ?_; (case aP => exact k54_mkM _ _ _ (⟨x4_1, 1⟩ : S54)); (case aB => exact (by repeat (first | (with_reducible first | exact HB.out | apply below_alloc | apply pw_below_drewN | apply below_drew1) | exact HB.out))); (case aF => exact (fun _ _ => trivial)); (case aO => exact (by (with_reducible repeat (first | apply Kd.R_alloc | apply Kd.R_drewN | apply Kd.R_drew)); exact HO_3.out)); (case aS => exact (below_size (by repeat (first | (with_reducible first | exact HB.out | apply below_alloc | apply pw_below_drewN | apply below_drew1) | exact HB.out)))); (case aL => have := LMc21.out; omega); intro v263 w22 ho hb hg hat; rw [← Ny262.out] at ho; have n0_ := Aside0.mk (hb); have n1_ := Aside0.mk (ho); clear HB; clear HO_3; have HB := n0_; have HO264 := n1_; clear n0_ n1_; clear ho hb hg hat))
                go_roundg k1
                case measure => have := HK1.out; omega
                case rel => exact ⟨(y262), (wrap64 (x4_1 + 1)), (by first | rfl | (simp; done) | (simp [*]; done)), H', ⟨by have := HK1.out; omega⟩, ⟨by (with_reducible repeat (first | apply Kd.R_alloc | apply Kd.R_drewN | apply Kd.R_drew)); exact HO264.out⟩, ⟨by repeat (first | (with_reducible first | exact HB.out | apply below_alloc | apply pw_below_drewN | apply below_drew1) | exact HB.out)⟩⟩
              · rw [if_neg c21] at H
                exact absurd H (by simp)
          · replace c5 := Bool.eq_false_iff.mpr c5
            subst c5
            have H1 : (standbyref01_List.l0 k1 l0 x3_1 (wrap64 (x4_1 + 1))) = some r := by rw [if_neg (show ¬ (false = true) by decide)] at H; exact H
            clear H
            have H := H1
            clear H1
            have H' := Aside0.mk H
            clear H
            have p255 : 0 ≤ (x4_1 : Int) := of_decide_eq_true (by first | (with_reducible assumption) | assumption)
            have q255 : x4_1 < (l0.length : Int) := of_decide_eq_true (by first | (with_reducible assumption) | assumption)
            obtain ⟨ad255, e255, hx255_0⟩ := Kd.at_bool HR0.out x4_1 p255 q255
            (try rw [← Nbq4.out] at hx255_0)
            cases e255
            replace hx255_0 := (HB.out.cell (World.block_lt_of_cell? w _ hx255_0)).trans hx255_0
            replace p255 := eq_true p255
            replace q255 := eq_true q255
            go_wp2
            go_roundg k1
            case measure => have := HK1.out; omega
            case rel => exact ⟨(x3_1), (wrap64 (x4_1 + 1)), (by first | rfl | (simp; done) | (simp [*]; done)), H', ⟨by have := HK1.out; omega⟩, ⟨by (with_reducible repeat (first | apply Kd.R_alloc | apply Kd.R_drewN | apply Kd.R_drew)); exact HO_3.out⟩, ⟨by repeat (first | (with_reducible first | exact HB.out | apply below_alloc | apply pw_below_drewN | apply below_drew1) | exact HB.out)⟩⟩
        · rw [if_neg c3] at H
          exact absurd H (by simp)
      · rw [if_neg c2] at H
        have c2b0 : decide (x4_1 < (l0.length : Int)) = false := decide_eq_false c2
        clear c2
        obtain rfl := Option.some.inj H
        go_wp2
        go_ret
        exact ⟨_, by first | rfl | (simp [errW_none, errW_some] <;> rfl) | (simp [*, errW_none, errW_some] <;> rfl), by (with_reducible repeat (first | apply Kd.R_alloc | apply Kd.R_drewN | apply Kd.R_drew)); exact HO_3.out, by repeat (first | (with_reducible first | exact HB.out | apply below_alloc | apply pw_below_drewN | apply below_drew1) | exact HB.out)⟩
end Go.Proofs.Ytoichhdbomcdaaa.Pq
end
section
namespace Go.Proofs.Ytoichhdbomcdaaa.Pq
open Go.RowKit Go.Proofs.YtoichhdbomcdaaaW.PrintWords Go.Proofs.YtoichhdbomcdaaaW.PrintLast Go.Proofs.YtoichhdbomcdaaaW.PrintMore
attribute [local go_sem] max2_int min2_int max_two min_two max_three min_three max_four min_four
set_option linter.unusedVariables false
set_option linter.unusedSimpArgs false
mutual
def standbyref01_Check.j0 : Nat → List (S54) → Int → Bool → Option (Int)
  | 0, _, _, _ => none
  | k + 1, x0, x1, x12 => if x12 = true then (some 2) else (standbyref01_Check.l0 k x0 x1 (-2) 0)
def standbyref01_Check.l0 : Nat → List (S54) → Int → Int → Int → Option (Int)
  | 0, _, _, _, _ => none
  | k + 1, x0, x1, x5, x6 => if x6 < (x0.length : Int) then (if 0 ≤ x6 then (if ((rd_T54 x0 x6).f1) ≤ 0 then (some 1) else ((standbyref01_within.f ((rd_T54 x0 x6).f0) ((rd_T54 x0 x6).f1) x1).bind fun t241 => (if t241 = true then (if ((rd_T54 x0 x6).f0) < (wrap64 (x5 + 2)) then (some 3) else (standbyref01_Check.l0 k x0 x1 (wrap64 ((wrap64 (((rd_T54 x0 x6).f0) + ((rd_T54 x0 x6).f1))) - 1)) (wrap64 (x6 + 1)))) else (some 2)))) else (none)) else (some 0)
end
def standbyref01_Check.f (k : Nat) (l0 : List (S54)) (a1 : Int) : Option (Int) := if a1 < 0 then (standbyref01_Check.j0 k l0 a1 true) else (standbyref01_Check.j0 k l0 a1 (decide (a1 > 4096)))
set_option maxHeartbeats 8000000 in
set_option maxRecDepth 100000 in
theorem standbyref01_Check.calls (k : Nat) (A0 : Option Addr) (c0 : Nat) (l0 : List (S54)) (a1 : Int) (r : Int) (w : World) (hr0 : Kd.C k54 w A0 l0.length l0) (hc0 : l0.length ≤ c0) (h : standbyref01_Check.f k l0 a1 = some r) :
    Calls Try.prog 57 #[.slice A0 l0.length c0, .int .i64 a1] w fun e w' => e = .returned (.int .i64 r) ∧ Below w.heap.size w w' := by
  have hu54 := Try.underlying54
  have HR0 := Aside0.mk hr0
  have HC0 := Aside0.mk hc0
  clear hr0 hc0
  have HB := Aside0.mk (Below.refl w.heap.size w)
  have H : (if a1 < 0 then (standbyref01_Check.j0 k l0 a1 true) else (standbyref01_Check.j0 k l0 a1 (decide (a1 > 4096)))) = some r := h
  clear h
  have HC3 := Aside0.mk H
  clear H
  go_enter Try.func57, Try.ntmps57
  go_upto_region 1 with (fail)
  repeat (go_quiet (fail); go_upto_region 1 with (fail))
  go_cut [12] (fun v12 wc => ∃ (kq : Nat) (x12_2 : Bool), v12 = .bool x12_2 ∧ Aside0 (standbyref01_Check.j0 kq l0 a1 x12_2 = some r) ∧ Aside0 (kq ≤ k) ∧ Aside0 (Below w.heap.size w wc))
  case first =>
    have H := HC3.out
    clear HC3
    by_cases c4 : a1 < 0
    · rw [if_pos c4] at H
      have c4b0 : decide (a1 < 0) = true := decide_eq_true c4
      clear c4
      (first | rw [c4b0] | (simp only [i64_w, i32_w]; rw [c4b0]) | skip)
      have H' := Aside0.mk H
      clear H
      go_wp2
      repeat (go_quiet (fail); try go_wp2)
      go_meet
      case rel => exact ⟨_, (true), (by first | rfl | (simp; done) | (simp [*]; done)), H', ⟨by first | omega | exact Nat.le_refl _⟩, ⟨by repeat (first | (with_reducible first | exact HB.out | apply below_alloc | apply pw_below_drewN | apply below_drew1) | exact HB.out)⟩⟩
    · rw [if_neg c4] at H
      have c4b0 : decide (a1 < 0) = false := decide_eq_false c4
      clear c4
      (first | rw [c4b0] | (simp only [i64_w, i32_w]; rw [c4b0]) | skip)
      have H' := Aside0.mk H
      clear H
      go_wp2
      repeat (go_quiet (fail); try go_wp2)
      go_meet
      case rel => exact ⟨_, (decide (a1 > 4096)), (by first | rfl | (simp; done) | (simp [*]; done)), H', ⟨by first | omega | exact Nat.le_refl _⟩, ⟨by repeat (first | (with_reducible first | exact HB.out | apply below_alloc | apply pw_below_drewN | apply below_drew1) | exact HB.out)⟩⟩
  case rest =>
    clear HC3
    try clear p2
    try clear c4
    try clear c4b0
    obtain ⟨kq, x12_2, rfl, HA, HJ2, HB⟩ := hcut
    cases kq with
    | zero => exact absurd HA.out (by simp [standbyref01_Check.j0])
    | succ kj2 =>
      have H := HA.out
      clear HA
      simp only [standbyref01_Check.j0] at H
      by_cases c5 : x12_2 = true
      · subst c5
        have H1 : (some 2) = some r := by rw [if_pos rfl] at H; exact H
        clear H
        have H := H1
        clear H1
        obtain rfl := Option.some.inj H
        go_wp2
        repeat (go_quiet (fail); try go_wp2)
        go_ret
        exact ⟨by first | rfl | (simp [errW_none, errW_some] <;> rfl) | (simp [*, errW_none, errW_some] <;> rfl), by repeat (first | (with_reducible first | exact HB.out | apply below_alloc | apply pw_below_drewN | apply below_drew1) | exact HB.out)⟩
      · replace c5 := Bool.eq_false_iff.mpr c5
        subst c5
        have H1 : (standbyref01_Check.l0 kj2 l0 a1 (-2) 0) = some r := by rw [if_neg (show ¬ (false = true) by decide)] at H; exact H
        clear H
        have H := H1
        clear H1
        have H' := Aside0.mk H
        clear H
        go_wp2
        repeat (go_quiet (fail); try go_wp2)
        go_loopg [5, 6] kj2 (fun kq v5 v6 w' => ∃ (x5_2 : Int) (x6_2 : Int), v5 = .int .i64 x5_2 ∧ v6 = .int .i64 x6_2 ∧ Aside0 (standbyref01_Check.l0 kq l0 a1 x5_2 x6_2 = some r) ∧ Aside0 (kq ≤ kj2) ∧ Aside0 (Below w.heap.size w w'))
        case atStart => exact ⟨((-2)), (0), (by first | rfl | (simp; done) | (simp [*]; done)), (by first | rfl | (simp; done) | (simp [*]; done)), H', ⟨Nat.le_refl _⟩, ⟨by repeat (first | (with_reducible first | exact HB.out | apply below_alloc | apply pw_below_drewN | apply below_drew1) | exact HB.out)⟩⟩
        case round =>
          clear H'
          try clear p2
          try clear c4
          try clear c4b0
          try clear c5
          try clear p2
          obtain ⟨x5_2, x6_2, rfl, rfl, HA, HK2, HB⟩ := hrel
          cases gk with
          | zero => exact absurd HA.out (by simp [standbyref01_Check.l0])
          | succ k2 =>
            have H := HA.out
            clear HA
            simp only [standbyref01_Check.l0] at H
            by_cases c6 : x6_2 < (l0.length : Int)
            · rw [if_pos c6] at H
              have c6b0 : decide (x6_2 < (l0.length : Int)) = true := decide_eq_true c6
              clear c6
              by_cases c7 : 0 ≤ x6_2
              · rw [if_pos c7] at H
                have c7b0 : decide (0 ≤ x6_2) = true := decide_eq_true c7
                clear c7
                by_cases c8 : ((rd_T54 l0 x6_2).f1) ≤ 0
                · rw [if_pos c8] at H
                  have c8b0 : decide (((rd_T54 l0 x6_2).f1) ≤ 0) = true := decide_eq_true c8
                  clear c8
                  obtain rfl := Option.some.inj H
                  have p239 : 0 ≤ (x6_2 : Int) := of_decide_eq_true (by first | (with_reducible assumption) | assumption)
                  have q239 : x6_2 < (l0.length : Int) := of_decide_eq_true (by first | (with_reducible assumption) | assumption)
                  obtain ⟨ad239, e239, hx239_0, hx239_1⟩ := at_T54 HR0.out x6_2 p239 q239
                  cases e239
                  replace hx239_0 := (HB.out.cell (World.block_lt_of_cell? w _ hx239_0)).trans hx239_0
                  replace hx239_1 := (HB.out.cell (World.block_lt_of_cell? w _ hx239_1)).trans hx239_1
                  replace p239 := eq_true p239
                  replace q239 := eq_true q239
                  go_wp2
                  repeat (go_quiet (fail); try go_wp2)
                  go_ret
                  exact ⟨by first | rfl | (simp [errW_none, errW_some] <;> rfl) | (simp [*, errW_none, errW_some] <;> rfl), by repeat (first | (with_reducible first | exact HB.out | apply below_alloc | apply pw_below_drewN | apply below_drew1) | exact HB.out)⟩
                · rw [if_neg c8] at H
                  have c8b0 : decide (((rd_T54 l0 x6_2).f1) ≤ 0) = false := decide_eq_false c8
                  clear c8
                  replace H := Option.bind_eq_some_iff.mp H
                  obtain ⟨t241, A90, H⟩ := H
                  replace H : (if t241 = true then (if ((rd_T54 l0 x6_2).f0) < (wrap64 (x5_2 + 2)) then (some 3) else (standbyref01_Check.l0 k2 l0 a1 (wrap64 ((wrap64 (((rd_T54 l0 x6_2).f0) + ((rd_T54 l0 x6_2).f1))) - 1)) (wrap64 (x6_2 + 1)))) else (some 2)) = some r := H
                  have A9 := Aside0.mk A90
                  clear A90
                  by_cases c10 : t241 = true
                  · subst c10
                    have H1 : (if ((rd_T54 l0 x6_2).f0) < (wrap64 (x5_2 + 2)) then (some 3) else (standbyref01_Check.l0 k2 l0 a1 (wrap64 ((wrap64 (((rd_T54 l0 x6_2).f0) + ((rd_T54 l0 x6_2).f1))) - 1)) (wrap64 (x6_2 + 1)))) = some r := by rw [if_pos rfl] at H; exact H
                    clear H
                    have H := H1
                    clear H1
                    by_cases c11 : ((rd_T54 l0 x6_2).f0) < (wrap64 (x5_2 + 2))
                    · rw [if_pos c11] at H
                      have c11b0 : decide (((rd_T54 l0 x6_2).f0) < (wrap64 (x5_2 + 2))) = true := decide_eq_true c11
                      clear c11
                      obtain rfl := Option.some.inj H
                      have p239 : 0 ≤ (x6_2 : Int) := of_decide_eq_true (by first | (with_reducible assumption) | assumption)
                      have q239 : x6_2 < (l0.length : Int) := of_decide_eq_true (by first | (with_reducible assumption) | assumption)
                      obtain ⟨ad239, e239, hx239_0, hx239_1⟩ := at_T54 HR0.out x6_2 p239 q239
                      cases e239
                      replace hx239_0 := (HB.out.cell (World.block_lt_of_cell? w _ hx239_0)).trans hx239_0
                      replace hx239_1 := (HB.out.cell (World.block_lt_of_cell? w _ hx239_1)).trans hx239_1
                      replace p239 := eq_true p239
                      replace q239 := eq_true q239
                      have p240 : 0 ≤ (x6_2 : Int) := of_decide_eq_true (by first | (with_reducible assumption) | assumption)
                      have q240 : x6_2 < (l0.length : Int) := of_decide_eq_true (by first | (with_reducible assumption) | assumption)
                      obtain ⟨ad240, e240, hx240_0, hx240_1⟩ := at_T54 HR0.out x6_2 p240 q240
                      obtain rfl : ad239 = ad240 := (by injection e240)
                      replace hx240_0 := (HB.out.cell (World.block_lt_of_cell? w _ hx240_0)).trans hx240_0
                      replace hx240_1 := (HB.out.cell (World.block_lt_of_cell? w _ hx240_1)).trans hx240_1
                      replace p240 := eq_true p240
                      replace q240 := eq_true q240
                      go_wp2_with (first | (go_at_call 76; (with_reducible refine (standbyref01_within.calls ((rd_T54 l0 x6_2).f0) ((rd_T54 l0 x6_2).f1) a1 true _ A9.out).mono ?_); rintro e w12 ⟨rfl, hb⟩; have n0_ := Aside0.mk (below_step (by repeat (first | (with_reducible first | exact HB.out | apply below_alloc | apply pw_below_drewN | apply below_drew1) | exact HB.out)) hb); clear HB; have HB := n0_; clear n0_; (try clear hb); (try clear hb2); (try clear hk); (try clear hi); have p242 : 0 ≤ (x6_2 : Int) := of_decide_eq_true (by first | (with_reducible assumption) | assumption); have q242 : x6_2 < (l0.length : Int) := of_decide_eq_true (by first | (with_reducible assumption) | assumption); obtain ⟨ad242, e242, hx242_0, hx242_1⟩ := at_T54 HR0.out x6_2 p242 q242; obtain rfl : ad239 = ad242 := (by injection e242); replace hx242_0 := (HB.out.cell (World.block_lt_of_cell? w _ hx242_0)).trans hx242_0; replace hx242_1 := (HB.out.cell (World.block_lt_of_cell? w _ hx242_1)).trans hx242_1; replace p242 := eq_true p242; replace q242 := eq_true q242))
                      repeat (go_quiet (first | (go_at_call 76; (with_reducible refine (standbyref01_within.calls ((rd_T54 l0 x6_2).f0) ((rd_T54 l0 x6_2).f1) a1 true _ A9.out).mono ?_); rintro e w12 ⟨rfl, hb⟩; have n0_ := Aside0.mk (below_step (by repeat (first | (with_reducible first | exact HB.out | apply below_alloc | apply pw_below_drewN | apply below_drew1) | exact HB.out)) hb); clear HB; have HB := n0_; clear n0_; (try clear hb); (try clear hb2); (try clear hk); (try clear hi); have p242 : 0 ≤ (x6_2 : Int) := of_decide_eq_true (by first | (with_reducible assumption) | assumption); have q242 : x6_2 < (l0.length : Int) := of_decide_eq_true (by first | (with_reducible assumption) | assumption); obtain ⟨ad242, e242, hx242_0, hx242_1⟩ := at_T54 HR0.out x6_2 p242 q242; obtain rfl : ad239 = ad242 := (by injection e242); replace hx242_0 := (HB.out.cell (World.block_lt_of_cell? w _ hx242_0)).trans hx242_0; replace hx242_1 := (HB.out.cell (World.block_lt_of_cell? w _ hx242_1)).trans hx242_1; replace p242 := eq_true p242; replace q242 := eq_true q242)); try go_wp2_with (first | (go_at_call 76; (with_reducible refine (standbyref01_within.calls ((rd_T54 l0 x6_2).f0) ((rd_T54 l0 x6_2).f1) a1 true _ A9.out).mono ?_); rintro e w12 ⟨rfl, hb⟩; have n0_ := Aside0.mk (below_step (by repeat (first | (with_reducible first | exact HB.out | apply below_alloc | apply pw_below_drewN | apply below_drew1) | exact HB.out)) hb); clear HB; have HB := n0_; clear n0_; (try clear hb); (try clear hb2); (try clear hk); (try clear hi); have p242 : 0 ≤ (x6_2 : Int) := of_decide_eq_true (by first | (with_reducible assumption) | assumption); have q242 : x6_2 < (l0.length : Int) := of_decide_eq_true (by first | (with_reducible assumption) | assumption); obtain ⟨ad242, e242, hx242_0, hx242_1⟩ := at_T54 HR0.out x6_2 p242 q242; obtain rfl : ad239 = ad242 := (by injection e242); replace hx242_0 := (HB.out.cell (World.block_lt_of_cell? w _ hx242_0)).trans hx242_0; replace hx242_1 := (HB.out.cell (World.block_lt_of_cell? w _ hx242_1)).trans hx242_1; replace p242 := eq_true p242; replace q242 := eq_true q242)))
                      go_ret
                      exact ⟨by first | rfl | (simp [errW_none, errW_some] <;> rfl) | (simp [*, errW_none, errW_some] <;> rfl), by repeat (first | (with_reducible first | exact HB.out | apply below_alloc | apply pw_below_drewN | apply below_drew1) | exact HB.out)⟩
                    · rw [if_neg c11] at H
                      have c11b0 : decide (((rd_T54 l0 x6_2).f0) < (wrap64 (x5_2 + 2))) = false := decide_eq_false c11
                      clear c11
                      have H' := Aside0.mk H
                      clear H
                      have p239 : 0 ≤ (x6_2 : Int) := of_decide_eq_true (by first | (with_reducible assumption) | assumption)
                      have q239 : x6_2 < (l0.length : Int) := of_decide_eq_true (by first | (with_reducible assumption) | assumption)
                      obtain ⟨ad239, e239, hx239_0, hx239_1⟩ := at_T54 HR0.out x6_2 p239 q239
                      cases e239
                      replace hx239_0 := (HB.out.cell (World.block_lt_of_cell? w _ hx239_0)).trans hx239_0
                      replace hx239_1 := (HB.out.cell (World.block_lt_of_cell? w _ hx239_1)).trans hx239_1
                      replace p239 := eq_true p239
                      replace q239 := eq_true q239
                      have p240 : 0 ≤ (x6_2 : Int) := of_decide_eq_true (by first | (with_reducible assumption) | assumption)
                      have q240 : x6_2 < (l0.length : Int) := of_decide_eq_true (by first | (with_reducible assumption) | assumption)
                      obtain ⟨ad240, e240, hx240_0, hx240_1⟩ := at_T54 HR0.out x6_2 p240 q240
                      obtain rfl : ad239 = ad240 := (by injection e240)
                      replace hx240_0 := (HB.out.cell (World.block_lt_of_cell? w _ hx240_0)).trans hx240_0
                      replace hx240_1 := (HB.out.cell (World.block_lt_of_cell? w _ hx240_1)).trans hx240_1
                      replace p240 := eq_true p240
                      replace q240 := eq_true q240
                      go_wp2_with (first | (go_at_call 76; (with_reducible refine (standbyref01_within.calls ((rd_T54 l0 x6_2).f0) ((rd_T54 l0 x6_2).f1) a1 true _ A9.out).mono ?_); rintro e w13 ⟨rfl, hb⟩; have n0_ := Aside0.mk (below_step (by repeat (first | (with_reducible first | exact HB.out | apply below_alloc | apply pw_below_drewN | apply below_drew1) | exact HB.out)) hb); clear HB; have HB := n0_; clear n0_; (try clear hb); (try clear hb2); (try clear hk); (try clear hi); have p242 : 0 ≤ (x6_2 : Int) := of_decide_eq_true (by first | (with_reducible assumption) | assumption); have q242 : x6_2 < (l0.length : Int) := of_decide_eq_true (by first | (with_reducible assumption) | assumption); obtain ⟨ad242, e242, hx242_0, hx242_1⟩ := at_T54 HR0.out x6_2 p242 q242; obtain rfl : ad239 = ad242 := (by injection e242); replace hx242_0 := (HB.out.cell (World.block_lt_of_cell? w _ hx242_0)).trans hx242_0; replace hx242_1 := (HB.out.cell (World.block_lt_of_cell? w _ hx242_1)).trans hx242_1; replace p242 := eq_true p242; replace q242 := eq_true q242; have p243 : 0 ≤ (x6_2 : Int) := of_decide_eq_true (by first | (with_reducible assumption) | assumption); have q243 : x6_2 < (l0.length : Int) := of_decide_eq_true (by first | (with_reducible assumption) | assumption); obtain ⟨ad243, e243, hx243_0, hx243_1⟩ := at_T54 HR0.out x6_2 p243 q243; obtain rfl : ad239 = ad243 := (by injection e243); replace hx243_0 := (HB.out.cell (World.block_lt_of_cell? w _ hx243_0)).trans hx243_0; replace hx243_1 := (HB.out.cell (World.block_lt_of_cell? w _ hx243_1)).trans hx243_1; replace p243 := eq_true p243; replace q243 := eq_true q243; have p244 : 0 ≤ (x6_2 : Int) := of_decide_eq_true (by first | (with_reducible assumption) | assumption); have q244 : x6_2 < (l0.length : Int) := of_decide_eq_true (by first | (with_reducible assumption) | assumption); obtain ⟨ad244, e244, hx244_0, hx244_1⟩ := at_T54 HR0.out x6_2 p244 q244; obtain rfl : ad239 = ad244 := (by injection e244); replace hx244_0 := (HB.out.cell (World.block_lt_of_cell? w _ hx244_0)).trans hx244_0; replace hx244_1 := (HB.out.cell (World.block_lt_of_cell? w _ hx244_1)).trans hx244_1; replace p244 := eq_true p244; replace q244 := eq_true q244))
                      repeat (go_quiet (first | (go_at_call 76; (with_reducible refine (standbyref01_within.calls ((rd_T54 l0 x6_2).f0) ((rd_T54 l0 x6_2).f1) a1 true _ A9.out).mono ?_); rintro e w13 ⟨rfl, hb⟩; have n0_ := Aside0.mk (below_step (by repeat (first | (with_reducible first | exact HB.out | apply below_alloc | apply pw_below_drewN | apply below_drew1) | exact HB.out)) hb); clear HB; have HB := n0_; clear n0_; (try clear hb); (try clear hb2); (try clear hk); (try clear hi); have p242 : 0 ≤ (x6_2 : Int) := of_decide_eq_true (by first | (with_reducible assumption) | assumption); have q242 : x6_2 < (l0.length : Int) := of_decide_eq_true (by first | (with_reducible assumption) | assumption); obtain ⟨ad242, e242, hx242_0, hx242_1⟩ := at_T54 HR0.out x6_2 p242 q242; obtain rfl : ad239 = ad242 := (by injection e242); replace hx242_0 := (HB.out.cell (World.block_lt_of_cell? w _ hx242_0)).trans hx242_0; replace hx242_1 := (HB.out.cell (World.block_lt_of_cell? w _ hx242_1)).trans hx242_1; replace p242 := eq_true p242; replace q242 := eq_true q242; have p243 : 0 ≤ (x6_2 : Int) := of_decide_eq_true (by first | (with_reducible assumption) | assumption); have q243 : x6_2 < (l0.length : Int) := of_decide_eq_true (by first | (with_reducible assumption) | assumption); obtain ⟨ad243, e243, hx243_0, hx243_1⟩ := at_T54 HR0.out x6_2 p243 q243; obtain rfl : ad239 = ad243 := (by injection e243); replace hx243_0 := (HB.out.cell (World.block_lt_of_cell? w _ hx243_0)).trans hx243_0; replace hx243_1 := (HB.out.cell (World.block_lt_of_cell? w _ hx243_1)).trans hx243_1; replace p243 := eq_true p243; replace q243 := eq_true q243; have p244 : 0 ≤ (x6_2 : Int) := of_decide_eq_true (by first | (with_reducible assumption) | assumption); have q244 : x6_2 < (l0.length : Int) := of_decide_eq_true (by first | (with_reducible assumption) | assumption); obtain ⟨ad244, e244, hx244_0, hx244_1⟩ := at_T54 HR0.out x6_2 p244 q244; obtain rfl : ad239 = ad244 := (by injection e244); replace hx244_0 := (HB.out.cell (World.block_lt_of_cell? w _ hx244_0)).trans hx244_0; replace hx244_1 := (HB.out.cell (World.block_lt_of_cell? w _ hx244_1)).trans hx244_1; replace p244 := eq_true p244; replace q244 := eq_true q244)); try go_wp2_with (first | (go_at_call 76; (with_reducible refine (standbyref01_within.calls ((rd_T54 l0 x6_2).f0) ((rd_T54 l0 x6_2).f1) a1 true _ A9.out).mono ?_); rintro e w13 ⟨rfl, hb⟩; have n0_ := Aside0.mk (below_step (by repeat (first | (with_reducible first | exact HB.out | apply below_alloc | apply pw_below_drewN | apply below_drew1) | exact HB.out)) hb); clear HB; have HB := n0_; clear n0_; (try clear hb); (try clear hb2); (try clear hk); (try clear hi); have p242 : 0 ≤ (x6_2 : Int) := of_decide_eq_true (by first | (with_reducible assumption) | assumption); have q242 : x6_2 < (l0.length : Int) := of_decide_eq_true (by first | (with_reducible assumption) | assumption); obtain ⟨ad242, e242, hx242_0, hx242_1⟩ := at_T54 HR0.out x6_2 p242 q242; obtain rfl : ad239 = ad242 := (by injection e242); replace hx242_0 := (HB.out.cell (World.block_lt_of_cell? w _ hx242_0)).trans hx242_0; replace hx242_1 := (HB.out.cell (World.block_lt_of_cell? w _ hx242_1)).trans hx242_1; replace p242 := eq_true p242; replace q242 := eq_true q242; have p243 : 0 ≤ (x6_2 : Int) := of_decide_eq_true (by first | (with_reducible assumption) | assumption); have q243 : x6_2 < (l0.length : Int) := of_decide_eq_true (by first | (with_reducible assumption) | assumption); obtain ⟨ad243, e243, hx243_0, hx243_1⟩ := at_T54 HR0.out x6_2 p243 q243; obtain rfl : ad239 = ad243 := (by injection e243); replace hx243_0 := (HB.out.cell (World.block_lt_of_cell? w _ hx243_0)).trans hx243_0; replace hx243_1 := (HB.out.cell (World.block_lt_of_cell? w _ hx243_1)).trans hx243_1; replace p243 := eq_true p243; replace q243 := eq_true q243; have p244 : 0 ≤ (x6_2 : Int) := of_decide_eq_true (by first | (with_reducible assumption) | assumption); have q244 : x6_2 < (l0.length : Int) := of_decide_eq_true (by first | (with_reducible assumption) | assumption); obtain ⟨ad244, e244, hx244_0, hx244_1⟩ := at_T54 HR0.out x6_2 p244 q244; obtain rfl : ad239 = ad244 := (by injection e244); replace hx244_0 := (HB.out.cell (World.block_lt_of_cell? w _ hx244_0)).trans hx244_0; replace hx244_1 := (HB.out.cell (World.block_lt_of_cell? w _ hx244_1)).trans hx244_1; replace p244 := eq_true p244; replace q244 := eq_true q244)))
                      go_roundg k2
                      case measure => have := HJ2.out; have := HK2.out; omega
                      case rel => exact ⟨(wrap64 ((wrap64 (((rd_T54 l0 x6_2).f0) + ((rd_T54 l0 x6_2).f1))) - 1)), (wrap64 (x6_2 + 1)), (by first | rfl | (simp; done) | (simp [*]; done)), (by first | rfl | (simp; done) | (simp [*]; done)), H', ⟨by have := HJ2.out; have := HK2.out; omega⟩, ⟨by repeat (first | (with_reducible first | exact HB.out | apply below_alloc | apply pw_below_drewN | apply below_drew1) | exact HB.out)⟩⟩
                  · replace c10 := Bool.eq_false_iff.mpr c10
                    subst c10
                    have H1 : (some 2) = some r := by rw [if_neg (show ¬ (false = true) by decide)] at H; exact H
                    clear H
                    have H := H1
                    clear H1
                    obtain rfl := Option.some.inj H
                    have p239 : 0 ≤ (x6_2 : Int) := of_decide_eq_true (by first | (with_reducible assumption) | assumption)
                    have q239 : x6_2 < (l0.length : Int) := of_decide_eq_true (by first | (with_reducible assumption) | assumption)
                    obtain ⟨ad239, e239, hx239_0, hx239_1⟩ := at_T54 HR0.out x6_2 p239 q239
                    cases e239
                    replace hx239_0 := (HB.out.cell (World.block_lt_of_cell? w _ hx239_0)).trans hx239_0
                    replace hx239_1 := (HB.out.cell (World.block_lt_of_cell? w _ hx239_1)).trans hx239_1
                    replace p239 := eq_true p239
                    replace q239 := eq_true q239
                    have p240 : 0 ≤ (x6_2 : Int) := of_decide_eq_true (by first | (with_reducible assumption) | assumption)
                    have q240 : x6_2 < (l0.length : Int) := of_decide_eq_true (by first | (with_reducible assumption) | assumption)
                    obtain ⟨ad240, e240, hx240_0, hx240_1⟩ := at_T54 HR0.out x6_2 p240 q240
                    obtain rfl : ad239 = ad240 := (by injection e240)
                    replace hx240_0 := (HB.out.cell (World.block_lt_of_cell? w _ hx240_0)).trans hx240_0
                    replace hx240_1 := (HB.out.cell (World.block_lt_of_cell? w _ hx240_1)).trans hx240_1
                    replace p240 := eq_true p240
                    replace q240 := eq_true q240
                    go_wp2_with (first | (go_at_call 76; (with_reducible refine (standbyref01_within.calls ((rd_T54 l0 x6_2).f0) ((rd_T54 l0 x6_2).f1) a1 false _ A9.out).mono ?_); rintro e w14 ⟨rfl, hb⟩; have n0_ := Aside0.mk (below_step (by repeat (first | (with_reducible first | exact HB.out | apply below_alloc | apply pw_below_drewN | apply below_drew1) | exact HB.out)) hb); clear HB; have HB := n0_; clear n0_; (try clear hb); (try clear hb2); (try clear hk); (try clear hi)))
                    repeat (go_quiet (first | (go_at_call 76; (with_reducible refine (standbyref01_within.calls ((rd_T54 l0 x6_2).f0) ((rd_T54 l0 x6_2).f1) a1 false _ A9.out).mono ?_); rintro e w14 ⟨rfl, hb⟩; have n0_ := Aside0.mk (below_step (by repeat (first | (with_reducible first | exact HB.out | apply below_alloc | apply pw_below_drewN | apply below_drew1) | exact HB.out)) hb); clear HB; have HB := n0_; clear n0_; (try clear hb); (try clear hb2); (try clear hk); (try clear hi))); try go_wp2_with (first | (go_at_call 76; (with_reducible refine (standbyref01_within.calls ((rd_T54 l0 x6_2).f0) ((rd_T54 l0 x6_2).f1) a1 false _ A9.out).mono ?_); rintro e w14 ⟨rfl, hb⟩; have n0_ := Aside0.mk (below_step (by repeat (first | (with_reducible first | exact HB.out | apply below_alloc | apply pw_below_drewN | apply below_drew1) | exact HB.out)) hb); clear HB; have HB := n0_; clear n0_; (try clear hb); (try clear hb2); (try clear hk); (try clear hi))))
                    go_ret
                    exact ⟨by first | rfl | (simp [errW_none, errW_some] <;> rfl) | (simp [*, errW_none, errW_some] <;> rfl), by repeat (first | (with_reducible first | exact HB.out | apply below_alloc | apply pw_below_drewN | apply below_drew1) | exact HB.out)⟩
              · rw [if_neg c7] at H
                exact absurd H (by simp)
            · rw [if_neg c6] at H
              have c6b0 : decide (x6_2 < (l0.length : Int)) = false := decide_eq_false c6
              clear c6
              obtain rfl := Option.some.inj H
              go_wp2
              repeat (go_quiet (fail); try go_wp2)
              go_ret
              exact ⟨by first | rfl | (simp [errW_none, errW_some] <;> rfl) | (simp [*, errW_none, errW_some] <;> rfl), by repeat (first | (with_reducible first | exact HB.out | apply below_alloc | apply pw_below_drewN | apply below_drew1) | exact HB.out)⟩
def standbyref45_Fit.l0 : Nat → List (List (S52)) → List (List (S54)) → Int → Option (Int)
  | 0, _, _, _ => none
  | k + 1, x0, x1, x5 => if x5 < (x1.length : Int) then (if 0 ≤ x5 then (if x5 < (x0.length : Int) then ((standbyref01_Check.f k (rd_L7 x1 x5) ((rd_L2 x0 x5).length : Int)).bind fun t247 => (if t247 = 0 then (standbyref45_Fit.l0 k x0 x1 (wrap64 (x5 + 1))) else (some 3))) else (none)) else (none)) else (some 0)
def standbyref45_Fit.f (k : Nat) (l0 : List (List (S52))) (l1 : List (List (S54))) : Option (Int) := if (l1.length : Int) = (l0.length : Int) then (standbyref45_Fit.l0 k l0 l1 0) else (some 6)
def standbyref45_Fit.T6 : Bool × List (List Nat × List Nat) := (true, [([], []), ([], []), ([0, 1], [0, 1]), ([2], [2]), ([], []), ([], []), ([4, 5], [4, 5]), ([6], [6]), ([7], [7]), ([3, 8], [3, 8]), ([9], [9])])
def standbyref45_Fit.B6 : List Nat := [0, 0, 3, 7, 0, 0, 48, 112, 240, 511, 1023]
theorem standbyref45_Fit.tab6 : rtab .any (opsOf Try.f28 6) = standbyref45_Fit.T6 := by kernel_rfl
theorem standbyref45_Fit.bits6 : waitsOk standbyref45_Fit.T6.2 standbyref45_Fit.B6 = true := by kernel_rfl
set_option maxHeartbeats 8000000 in
set_option maxRecDepth 100000 in
theorem standbyref45_Fit.calls (k : Nat) (A0 : Option Addr) (c0 : Nat) (l0 : List (List (S52))) (A1 : Option Addr) (c1 : Nat) (l1 : List (List (S54))) (r : Int) (w : World) (hr0 : Kd.C (Kd.slice 52 k52) w A0 l0.length l0) (hc0 : l0.length ≤ c0) (hr1 : Kd.C (Kd.slice 54 k54) w A1 l1.length l1) (hc1 : l1.length ≤ c1) (h : standbyref45_Fit.f k l0 l1 = some r) :
    Calls Try.prog 28 #[.slice A0 l0.length c0, .slice A1 l1.length c1] w fun e w' => e = .returned (.int .i64 r) ∧ Below w.heap.size w w' := by
  have HR0 := Aside0.mk hr0
  have HC0 := Aside0.mk hc0
  clear hr0 hc0
  have HR1 := Aside0.mk hr1
  have HC1 := Aside0.mk hc1
  clear hr1 hc1
  have HB := Aside0.mk (Below.refl w.heap.size w)
  have H : (if (l1.length : Int) = (l0.length : Int) then (standbyref45_Fit.l0 k l0 l1 0) else (some 6)) = some r := h
  clear h
  by_cases c3 : (l1.length : Int) = (l0.length : Int)
  · rw [if_pos c3] at H
    have c3b0 : ((l1.length : Int) == (l0.length : Int)) = true := beq_iff_eq.mpr c3
    have c3b1 : ((l1.length : Int) != (l0.length : Int)) = false := bne_eq_false_iff_eq.mpr c3
    have c3b2 : (l1.length == l0.length) = true := by first | simpa using c3 | (simp at c3 ⊢; omega)
    clear c3
    have H' := Aside0.mk H
    clear H
    go_enter Try.func28, Try.ntmps28
    go_wp2
    go_loopg [5] k (fun kq v5 w' => ∃ (x5_1 : Int), v5 = .int .i64 x5_1 ∧ Aside0 (standbyref45_Fit.l0 kq l0 l1 x5_1 = some r) ∧ Aside0 (kq ≤ k) ∧ Aside0 (Below w.heap.size w w'))
    case atStart => exact ⟨(0), (by first | rfl | (simp; done) | (simp [*]; done)), H', ⟨Nat.le_refl _⟩, ⟨by repeat (first | (with_reducible first | exact HB.out | apply below_alloc | apply pw_below_drewN | apply below_drew1) | exact HB.out)⟩⟩
    case round =>
      clear H'
      try clear c1
      try clear c2
      try clear p2
      try clear c3
      try clear c3b0
      try clear c3b1
      try clear c3b2
      obtain ⟨x5_1, rfl, HA, HK1, HB⟩ := hrel
      cases gk with
      | zero => exact absurd HA.out (by simp [standbyref45_Fit.l0])
      | succ k1 =>
        have H := HA.out
        clear HA
        simp only [standbyref45_Fit.l0] at H
        by_cases c4 : x5_1 < (l1.length : Int)
        · rw [if_pos c4] at H
          have c4b0 : decide (x5_1 < (l1.length : Int)) = true := decide_eq_true c4
          clear c4
          by_cases c5 : 0 ≤ x5_1
          · rw [if_pos c5] at H
            have c5b0 : decide (0 ≤ x5_1) = true := decide_eq_true c5
            clear c5
            by_cases c6 : x5_1 < (l0.length : Int)
            · rw [if_pos c6] at H
              have c6b0 : decide (x5_1 < (l0.length : Int)) = true := decide_eq_true c6
              clear c6
              replace H := Option.bind_eq_some_iff.mp H
              obtain ⟨t247, A70, H⟩ := H
              replace H : (if t247 = 0 then (standbyref45_Fit.l0 k1 l0 l1 (wrap64 (x5_1 + 1))) else (some 3)) = some r := H
              have A7 := Aside0.mk A70
              clear A70
              by_cases c8 : t247 = 0
              · rw [if_pos c8] at H
                have c8b0 : (t247 == 0) = true := beq_iff_eq.mpr c8
                have c8b1 : (t247 != 0) = false := bne_eq_false_iff_eq.mpr c8
                clear c8
                have H' := Aside0.mk H
                clear H
                try go_wp2
                have n0_ := Aside0.mk (below_drew1 HB.out)
                clear HB
                have HB := n0_
                clear n0_
                have p245 : 0 ≤ (x5_1 : Int) := of_decide_eq_true (by first | (with_reducible assumption) | assumption)
                have q245 : x5_1 < (l1.length : Int) := of_decide_eq_true (by first | (with_reducible assumption) | assumption)
                obtain ⟨ad245, A245_0, c245_0, e245, hx245_0, hl245_0, hi245_0⟩ := at_L7 HR1.out x5_1 p245 q245
                have hw245_0 := hx245_0
                cases e245
                replace hx245_0 := (HB.out.cell (World.block_lt_of_cell? w _ hx245_0)).trans hx245_0
                have HR245_0 := Aside0.mk hi245_0
                have HC245_0 := Aside0.mk hl245_0
                clear hi245_0 hl245_0
                replace p245 := eq_true p245
                replace q245 := eq_true q245
                have p246 : 0 ≤ (x5_1 : Int) := of_decide_eq_true (by first | (with_reducible assumption) | assumption)
                have q246 : x5_1 < (l0.length : Int) := of_decide_eq_true (by first | (with_reducible assumption) | assumption)
                obtain ⟨ad246, A246_0, c246_0, e246, hx246_0, hl246_0, hi246_0⟩ := at_L2 HR0.out x5_1 p246 q246
                have hw246_0 := hx246_0
                cases e246
                replace hx246_0 := (HB.out.cell (World.block_lt_of_cell? w _ hx246_0)).trans hx246_0
                have HR246_0 := Aside0.mk hi246_0
                have HC246_0 := Aside0.mk hl246_0
                clear hi246_0 hl246_0
                replace p246 := eq_true p246
                replace q246 := eq_true q246
                refine start_ (n := 11) (S := fun w' => w'.cell? (ad245.add (x5_1).toNat) = some (.slice A245_0 (rd_L7 l1 x5_1).length c245_0) ∧ w'.cell? (ad246.add (x5_1).toNat) = some (.slice A246_0 (rd_L2 l0 x5_1).length c246_0)) (ds := []) #[false, false, false, false, false, false, false, false, false, false, false] (by kernel_rfl) rfl rfl ⟨((HB.out.cell (World.block_lt_of_cell? w _ hw245_0)).trans hw245_0), ((HB.out.cell (World.block_lt_of_cell? w _ hw246_0)).trans hw246_0)⟩ (fun hHeld => ?_); refine with_tabW standbyref45_Fit.tab6 standbyref45_Fit.bits6 (fun HT_ HW_ => ?_)
                generalize wr.drew = w9 at HB HR245_0 HR246_0 hx245_0 hx246_0 hHeld ⊢
                refine pure_ (i := 0) (N := some 17) (v := ?_) (a' := ?_) #[true, false, false, false, false, false, false, false, false, false, false] rfl rfl (any_of HT_.out (by kernel_rfl)) (fun _ _ _ h => h) (Or.inl ⟨by rfl, ?_⟩) ?_ ?_
                rotate_left
                · intro w'
                  go_simp
                  with_reducible rfl
                rotate_left
                · simp only [Act.put, List.setIfInBounds_toArray, List.set_cons_zero, List.set_cons_succ, i64_w, i32_w]
                  rfl
                refine pure_ (i := 1) (N := some 18) (v := ?_) (a' := ?_) #[true, true, false, false, false, false, false, false, false, false, false] rfl rfl (any_of HT_.out (by kernel_rfl)) (fun _ _ _ h => h) (Or.inl ⟨by rfl, ?_⟩) ?_ ?_
                rotate_left
                · intro w'
                  go_simp
                  with_reducible rfl
                rotate_left
                · simp only [Act.put, List.setIfInBounds_toArray, List.set_cons_zero, List.set_cons_succ, i64_w, i32_w]
                  rfl
                refine pure_ (i := 2) (N := some 19) (v := ?_) (a' := ?_) #[true, true, true, false, false, false, false, false, false, false, false] rfl rfl (any_of HT_.out (by kernel_rfl)) (fun _ _ _ h => h) (Or.inl ⟨by rfl, ?_⟩) ?_ ?_
                rotate_left
                · intro w'
                  go_simp
                  with_reducible rfl
                rotate_left
                · simp only [Act.put, List.setIfInBounds_toArray, List.set_cons_zero, List.set_cons_succ, i64_w, i32_w]
                  rfl
                refine pure_ (i := 4) (N := some 21) (v := ?_) (a' := ?_) #[true, true, true, false, true, false, false, false, false, false, false] rfl rfl (any_of HT_.out (by kernel_rfl)) (fun _ _ _ h => h) (Or.inl ⟨by rfl, ?_⟩) ?_ ?_
                rotate_left
                · intro w'
                  go_simp
                  with_reducible rfl
                rotate_left
                · simp only [Act.put, List.setIfInBounds_toArray, List.set_cons_zero, List.set_cons_succ, i64_w, i32_w]
                  rfl
                refine pure_ (i := 5) (N := some 22) (v := ?_) (a' := ?_) #[true, true, true, false, true, true, false, false, false, false, false] rfl rfl (any_of HT_.out (by kernel_rfl)) (fun _ _ _ h => h) (Or.inl ⟨by rfl, ?_⟩) ?_ ?_
                rotate_left
                · intro w'
                  go_simp
                  with_reducible rfl
                rotate_left
                · simp only [Act.put, List.setIfInBounds_toArray, List.set_cons_zero, List.set_cons_succ, i64_w, i32_w]
                  rfl
                refine pure_ (i := 6) (N := some 23) (v := ?_) (a' := ?_) #[true, true, true, false, true, true, true, false, false, false, false] rfl rfl (any_of HT_.out (by kernel_rfl)) (fun _ _ _ h => h) (Or.inl ⟨by rfl, ?_⟩) ?_ ?_
                rotate_left
                · intro w'
                  go_simp
                  with_reducible rfl
                rotate_left
                · simp only [Act.put, List.setIfInBounds_toArray, List.set_cons_zero, List.set_cons_succ, i64_w, i32_w]
                  rfl
                refine take_ (i := 3) (N := some 20) (v := ?_) (a' := ?_) #[true, true, true, true, true, true, true, false, false, false, false] rfl rfl (take_ofW HT_.out HW_.out (by kernel_rfl)) (fun _ _ _ h => h) (Or.inl ⟨by rfl, ?_⟩) hHeld ?_ ?_
                rotate_left
                · rintro w' ⟨s0, s1⟩
                  go_simp
                  with_reducible rfl
                rotate_left
                · simp only [Act.put, List.setIfInBounds_toArray, List.set_cons_zero, List.set_cons_succ, i64_w, i32_w]
                  rfl
                refine take_ (i := 7) (N := some 24) (v := ?_) (a' := ?_) #[true, true, true, true, true, true, true, true, false, false, false] rfl rfl (take_ofW HT_.out HW_.out (by kernel_rfl)) (fun _ _ _ h => h) (Or.inl ⟨by rfl, ?_⟩) hHeld ?_ ?_
                rotate_left
                · rintro w' ⟨s0, s1⟩
                  go_simp
                  with_reducible rfl
                rotate_left
                · simp only [Act.put, List.setIfInBounds_toArray, List.set_cons_zero, List.set_cons_succ, i64_w, i32_w]
                  rfl
                refine pure_ (i := 8) (N := some 25) (v := ?_) (a' := ?_) #[true, true, true, true, true, true, true, true, true, false, false] rfl rfl (any_of HT_.out (by kernel_rfl)) (fun _ _ _ h => h) (Or.inl ⟨by rfl, ?_⟩) ?_ ?_
                rotate_left
                · intro w'
                  go_simp
                  with_reducible rfl
                rotate_left
                · simp only [Act.put, List.setIfInBounds_toArray, List.set_cons_zero, List.set_cons_succ, i64_w, i32_w]
                  rfl
                refine one_ (i := 9) (N := some 26) #[true, true, true, true, true, true, true, true, true, true, false] rfl rfl (one_of HT_.out (by kernel_rfl)) (by decide) (fun K hK => ?_)
                refine goes_ Try.func57 (by kernel_rfl) rfl #[.slice A245_0 (rd_L7 l1 x5_1).length c245_0, .int .i64 ((rd_L2 l0 x5_1).length : Int)] (by rfl) rfl rfl (by (try simp only [List.map_toArray, List.map_cons, List.map_nil]); first | done | rfl | (simp only [List.length_drop, List.length_take]; rfl)) ?_
                with_reducible refine (standbyref01_Check.calls k1 _ _ (rd_L7 l1 x5_1) ((rd_L2 l0 x5_1).length : Int) t247 _ ?side1 ?side2 A7.out).mono ?_
                (case side1 => repeat (first | exact (Kd.C_below HR245_0.out HB.out) | (with_reducible refine Kd.C_alloc ?_ _) | (with_reducible refine Kd.C_drewN ?_ _) | (with_reducible refine Kd.C_drew ?_)))
                (case side2 => exact HC245_0.out)
                rintro e w10 ⟨rfl, hb⟩
                refine ⟨_, rfl, ?_⟩
                have n0_ := Aside0.mk (below_step (by repeat (first | (with_reducible first | exact HB.out | apply below_alloc | apply pw_below_drewN | apply below_drew1) | exact HB.out)) hb)
                clear HB
                have HB := n0_
                clear n0_
                (try clear hb)
                (try clear hb2)
                (try clear hk)
                (try clear hi)
                refine hK.out _ _ ⟨((HB.out.cell (World.block_lt_of_cell? w _ hw245_0)).trans hw245_0), ((HB.out.cell (World.block_lt_of_cell? w _ hw246_0)).trans hw246_0)⟩ (fun hHeld => ?_)
                clear hK K
                refine norm_ (a' := ?_) ?_ ?_
                rotate_left
                · show Act.put _ (some 26) _ = _
                  simp only [Act.put, List.setIfInBounds_toArray, List.set_cons_zero, List.set_cons_succ, i64_w, i32_w]
                  rfl
                refine pure_ (i := 10) (N := some 27) (v := ?_) (a' := ?_) #[true, true, true, true, true, true, true, true, true, true, true] rfl rfl (any_of HT_.out (by kernel_rfl)) (fun _ _ _ h => h) (Or.inl ⟨by rfl, ?_⟩) ?_ ?_
                rotate_left
                · intro w'
                  go_simp
                  with_reducible rfl
                rotate_left
                · simp only [Act.put, List.setIfInBounds_toArray, List.set_cons_zero, List.set_cons_succ, i64_w, i32_w]
                  rfl
                refine done_ (done_of HT_.out (by kernel_rfl)) ?_
                try go_wp2
                go_roundg k1
                case measure => have := HK1.out; omega
                case rel => exact ⟨(wrap64 (x5_1 + 1)), (by first | rfl | (simp; done) | (simp [*]; done)), H', ⟨by have := HK1.out; omega⟩, ⟨by repeat (first | (with_reducible first | exact HB.out | apply below_alloc | apply pw_below_drewN | apply below_drew1) | exact HB.out)⟩⟩
              · rw [if_neg c8] at H
                have c8b0 : (t247 == 0) = false := beq_eq_false_iff_ne.mpr c8
                have c8b1 : (t247 != 0) = true := bne_iff_ne.mpr c8
                obtain rfl := Option.some.inj H
                try go_wp2
                have n0_ := Aside0.mk (below_drew1 HB.out)
                clear HB
                have HB := n0_
                clear n0_
                have p245 : 0 ≤ (x5_1 : Int) := of_decide_eq_true (by first | (with_reducible assumption) | assumption)
                have q245 : x5_1 < (l1.length : Int) := of_decide_eq_true (by first | (with_reducible assumption) | assumption)
                obtain ⟨ad245, A245_0, c245_0, e245, hx245_0, hl245_0, hi245_0⟩ := at_L7 HR1.out x5_1 p245 q245
                have hw245_0 := hx245_0
                cases e245
                replace hx245_0 := (HB.out.cell (World.block_lt_of_cell? w _ hx245_0)).trans hx245_0
                have HR245_0 := Aside0.mk hi245_0
                have HC245_0 := Aside0.mk hl245_0
                clear hi245_0 hl245_0
                replace p245 := eq_true p245
                replace q245 := eq_true q245
                have p246 : 0 ≤ (x5_1 : Int) := of_decide_eq_true (by first | (with_reducible assumption) | assumption)
                have q246 : x5_1 < (l0.length : Int) := of_decide_eq_true (by first | (with_reducible assumption) | assumption)
                obtain ⟨ad246, A246_0, c246_0, e246, hx246_0, hl246_0, hi246_0⟩ := at_L2 HR0.out x5_1 p246 q246
                have hw246_0 := hx246_0
                cases e246
                replace hx246_0 := (HB.out.cell (World.block_lt_of_cell? w _ hx246_0)).trans hx246_0
                have HR246_0 := Aside0.mk hi246_0
                have HC246_0 := Aside0.mk hl246_0
                clear hi246_0 hl246_0
                replace p246 := eq_true p246
                replace q246 := eq_true q246
                refine start_ (n := 11) (S := fun w' => w'.cell? (ad245.add (x5_1).toNat) = some (.slice A245_0 (rd_L7 l1 x5_1).length c245_0) ∧ w'.cell? (ad246.add (x5_1).toNat) = some (.slice A246_0 (rd_L2 l0 x5_1).length c246_0)) (ds := []) #[false, false, false, false, false, false, false, false, false, false, false] (by kernel_rfl) rfl rfl ⟨((HB.out.cell (World.block_lt_of_cell? w _ hw245_0)).trans hw245_0), ((HB.out.cell (World.block_lt_of_cell? w _ hw246_0)).trans hw246_0)⟩ (fun hHeld => ?_); refine with_tabW standbyref45_Fit.tab6 standbyref45_Fit.bits6 (fun HT_ HW_ => ?_)
                generalize wr.drew = w11 at HB HR245_0 HR246_0 hx245_0 hx246_0 hHeld ⊢
                refine pure_ (i := 0) (N := some 17) (v := ?_) (a' := ?_) #[true, false, false, false, false, false, false, false, false, false, false] rfl rfl (any_of HT_.out (by kernel_rfl)) (fun _ _ _ h => h) (Or.inl ⟨by rfl, ?_⟩) ?_ ?_
                rotate_left
                · intro w'
                  go_simp
                  with_reducible rfl
                rotate_left
                · simp only [Act.put, List.setIfInBounds_toArray, List.set_cons_zero, List.set_cons_succ, i64_w, i32_w]
                  rfl
                refine pure_ (i := 1) (N := some 18) (v := ?_) (a' := ?_) #[true, true, false, false, false, false, false, false, false, false, false] rfl rfl (any_of HT_.out (by kernel_rfl)) (fun _ _ _ h => h) (Or.inl ⟨by rfl, ?_⟩) ?_ ?_
                rotate_left
                · intro w'
                  go_simp
                  with_reducible rfl
                rotate_left
                · simp only [Act.put, List.setIfInBounds_toArray, List.set_cons_zero, List.set_cons_succ, i64_w, i32_w]
                  rfl
                refine pure_ (i := 2) (N := some 19) (v := ?_) (a' := ?_) #[true, true, true, false, false, false, false, false, false, false, false] rfl rfl (any_of HT_.out (by kernel_rfl)) (fun _ _ _ h => h) (Or.inl ⟨by rfl, ?_⟩) ?_ ?_
                rotate_left
                · intro w'
                  go_simp
                  with_reducible rfl
                rotate_left
                · simp only [Act.put, List.setIfInBounds_toArray, List.set_cons_zero, List.set_cons_succ, i64_w, i32_w]
                  rfl
                refine pure_ (i := 4) (N := some 21) (v := ?_) (a' := ?_) #[true, true, true, false, true, false, false, false, false, false, false] rfl rfl (any_of HT_.out (by kernel_rfl)) (fun _ _ _ h => h) (Or.inl ⟨by rfl, ?_⟩) ?_ ?_
                rotate_left
                · intro w'
                  go_simp
                  with_reducible rfl
                rotate_left
                · simp only [Act.put, List.setIfInBounds_toArray, List.set_cons_zero, List.set_cons_succ, i64_w, i32_w]
                  rfl
                refine pure_ (i := 5) (N := some 22) (v := ?_) (a' := ?_) #[true, true, true, false, true, true, false, false, false, false, false] rfl rfl (any_of HT_.out (by kernel_rfl)) (fun _ _ _ h => h) (Or.inl ⟨by rfl, ?_⟩) ?_ ?_
                rotate_left
                · intro w'
                  go_simp
                  with_reducible rfl
                rotate_left
                · simp only [Act.put, List.setIfInBounds_toArray, List.set_cons_zero, List.set_cons_succ, i64_w, i32_w]
                  rfl
                refine pure_ (i := 6) (N := some 23) (v := ?_) (a' := ?_) #[true, true, true, false, true, true, true, false, false, false, false] rfl rfl (any_of HT_.out (by kernel_rfl)) (fun _ _ _ h => h) (Or.inl ⟨by rfl, ?_⟩) ?_ ?_
                rotate_left
                · intro w'
                  go_simp
                  with_reducible rfl
                rotate_left
                · simp only [Act.put, List.setIfInBounds_toArray, List.set_cons_zero, List.set_cons_succ, i64_w, i32_w]
                  rfl
                refine take_ (i := 3) (N := some 20) (v := ?_) (a' := ?_) #[true, true, true, true, true, true, true, false, false, false, false] rfl rfl (take_ofW HT_.out HW_.out (by kernel_rfl)) (fun _ _ _ h => h) (Or.inl ⟨by rfl, ?_⟩) hHeld ?_ ?_
                rotate_left
                · rintro w' ⟨s0, s1⟩
                  go_simp
                  with_reducible rfl
                rotate_left
                · simp only [Act.put, List.setIfInBounds_toArray, List.set_cons_zero, List.set_cons_succ, i64_w, i32_w]
                  rfl
                refine take_ (i := 7) (N := some 24) (v := ?_) (a' := ?_) #[true, true, true, true, true, true, true, true, false, false, false] rfl rfl (take_ofW HT_.out HW_.out (by kernel_rfl)) (fun _ _ _ h => h) (Or.inl ⟨by rfl, ?_⟩) hHeld ?_ ?_
                rotate_left
                · rintro w' ⟨s0, s1⟩
                  go_simp
                  with_reducible rfl
                rotate_left
                · simp only [Act.put, List.setIfInBounds_toArray, List.set_cons_zero, List.set_cons_succ, i64_w, i32_w]
                  rfl
                refine pure_ (i := 8) (N := some 25) (v := ?_) (a' := ?_) #[true, true, true, true, true, true, true, true, true, false, false] rfl rfl (any_of HT_.out (by kernel_rfl)) (fun _ _ _ h => h) (Or.inl ⟨by rfl, ?_⟩) ?_ ?_
                rotate_left
                · intro w'
                  go_simp
                  with_reducible rfl
                rotate_left
                · simp only [Act.put, List.setIfInBounds_toArray, List.set_cons_zero, List.set_cons_succ, i64_w, i32_w]
                  rfl
                refine one_ (i := 9) (N := some 26) #[true, true, true, true, true, true, true, true, true, true, false] rfl rfl (one_of HT_.out (by kernel_rfl)) (by decide) (fun K hK => ?_)
                refine goes_ Try.func57 (by kernel_rfl) rfl #[.slice A245_0 (rd_L7 l1 x5_1).length c245_0, .int .i64 ((rd_L2 l0 x5_1).length : Int)] (by rfl) rfl rfl (by (try simp only [List.map_toArray, List.map_cons, List.map_nil]); first | done | rfl | (simp only [List.length_drop, List.length_take]; rfl)) ?_
                with_reducible refine (standbyref01_Check.calls k1 _ _ (rd_L7 l1 x5_1) ((rd_L2 l0 x5_1).length : Int) t247 _ ?side1 ?side2 A7.out).mono ?_
                (case side1 => repeat (first | exact (Kd.C_below HR245_0.out HB.out) | (with_reducible refine Kd.C_alloc ?_ _) | (with_reducible refine Kd.C_drewN ?_ _) | (with_reducible refine Kd.C_drew ?_)))
                (case side2 => exact HC245_0.out)
                rintro e w12 ⟨rfl, hb⟩
                refine ⟨_, rfl, ?_⟩
                have n0_ := Aside0.mk (below_step (by repeat (first | (with_reducible first | exact HB.out | apply below_alloc | apply pw_below_drewN | apply below_drew1) | exact HB.out)) hb)
                clear HB
                have HB := n0_
                clear n0_
                (try clear hb)
                (try clear hb2)
                (try clear hk)
                (try clear hi)
                refine hK.out _ _ ⟨((HB.out.cell (World.block_lt_of_cell? w _ hw245_0)).trans hw245_0), ((HB.out.cell (World.block_lt_of_cell? w _ hw246_0)).trans hw246_0)⟩ (fun hHeld => ?_)
                clear hK K
                refine norm_ (a' := ?_) ?_ ?_
                rotate_left
                · show Act.put _ (some 26) _ = _
                  simp only [Act.put, List.setIfInBounds_toArray, List.set_cons_zero, List.set_cons_succ, i64_w, i32_w]
                  rfl
                refine pure_ (i := 10) (N := some 27) (v := ?_) (a' := ?_) #[true, true, true, true, true, true, true, true, true, true, true] rfl rfl (any_of HT_.out (by kernel_rfl)) (fun _ _ _ h => h) (Or.inl ⟨by rfl, ?_⟩) ?_ ?_
                rotate_left
                · intro w'
                  go_simp
                  with_reducible rfl
                rotate_left
                · simp only [Act.put, List.setIfInBounds_toArray, List.set_cons_zero, List.set_cons_succ, i64_w, i32_w]
                  rfl
                refine done_ (done_of HT_.out (by kernel_rfl)) ?_
                try go_wp2
                go_ret
                exact ⟨by first | rfl | (simp [errW_none, errW_some] <;> rfl) | (simp [*, errW_none, errW_some] <;> rfl), by repeat (first | (with_reducible first | exact HB.out | apply below_alloc | apply pw_below_drewN | apply below_drew1) | exact HB.out)⟩
            · rw [if_neg c6] at H
              exact absurd H (by simp)
          · rw [if_neg c5] at H
            exact absurd H (by simp)
        · rw [if_neg c4] at H
          have c4b0 : decide (x5_1 < (l1.length : Int)) = false := decide_eq_false c4
          clear c4
          obtain rfl := Option.some.inj H
          go_wp2
          go_ret
          exact ⟨by first | rfl | (simp [errW_none, errW_some] <;> rfl) | (simp [*, errW_none, errW_some] <;> rfl), by repeat (first | (with_reducible first | exact HB.out | apply below_alloc | apply pw_below_drewN | apply below_drew1) | exact HB.out)⟩
  · rw [if_neg c3] at H
    have c3b0 : ((l1.length : Int) == (l0.length : Int)) = false := beq_eq_false_iff_ne.mpr c3
    have c3b1 : ((l1.length : Int) != (l0.length : Int)) = true := bne_iff_ne.mpr c3
    have c3b2 : (l1.length == l0.length) = false := by first | simpa using c3 | (simp at c3 ⊢; omega)
    obtain rfl := Option.some.inj H
    go_enter Try.func28, Try.ntmps28
    go_wp2
    go_ret
    exact ⟨by first | rfl | (simp [errW_none, errW_some] <;> rfl) | (simp [*, errW_none, errW_some] <;> rfl), by repeat (first | (with_reducible first | exact HB.out | apply below_alloc | apply pw_below_drewN | apply below_drew1) | exact HB.out)⟩
end Go.Proofs.Ytoichhdbomcdaaa.Pq
end
section
namespace Go.Proofs.Ytoichhdbomcdaaa.Pq
open Go.RowKit Go.Proofs.YtoichhdbomcdaaaW.PrintWords Go.Proofs.YtoichhdbomcdaaaW.PrintLast Go.Proofs.YtoichhdbomcdaaaW.PrintMore
attribute [local go_sem] max2_int min2_int max_two min_two max_three min_three max_four min_four
set_option linter.unusedVariables false
set_option linter.unusedSimpArgs false
attribute [local go_sem high] eqA54
def standbyref01_Intersect.l0 : Nat → List Bool → List Bool → Int → Option ((List (S54)))
  | 0, _, _, _ => none
  | k + 1, x5, x6, x7 => if x7 < (x5.length : Int) then (if 0 ≤ x7 then (if rdOf false x5 x7 = true then (if x7 < (x6.length : Int) then (standbyref01_Intersect.l0 k (x5.set (x7 : Int).toNat (rdOf false x6 x7)) x6 (wrap64 (x7 + 1))) else (none)) else (standbyref01_Intersect.l0 k (x5.set (x7 : Int).toNat false) x6 (wrap64 (x7 + 1)))) else (none)) else ((standbyref01_List.f k x5).bind fun t275 => (some t275))
def standbyref01_Intersect.f (k : Nat) (l0 : List (S54)) (l1 : List (S54)) : Option ((List (S54))) := (standbyref01_Marks.f k l0).bind fun t265 => ((standbyref01_Marks.f k l1).bind fun t268 => (standbyref01_Intersect.l0 k t265 t268 0))
set_option maxHeartbeats 8000000 in
set_option maxRecDepth 100000 in
theorem standbyref01_Intersect.calls (k : Nat) (A0 : Option Addr) (c0 : Nat) (l0 : List (S54)) (A1 : Option Addr) (c1 : Nat) (l1 : List (S54)) (r : List (S54)) (w : World) (hr0 : Kd.C k54 w A0 l0.length l0) (hc0 : l0.length ≤ c0) (hr1 : Kd.C k54 w A1 l1.length l1) (hc1 : l1.length ≤ c1) (h : standbyref01_Intersect.f k l0 l1 = some r) :
    Calls Try.prog 29 #[.slice A0 l0.length c0, .slice A1 l1.length c1] w fun e w' => ∃ v0_ : Value, e = .returned (v0_) ∧ Kd.R k54 54 w' w.heap.size (fun _ => True) v0_ r ∧ Below w.heap.size w w' := by
  have HR0 := Aside0.mk hr0
  have HC0 := Aside0.mk hc0
  clear hr0 hc0
  have HR1 := Aside0.mk hr1
  have HC1 := Aside0.mk hc1
  clear hr1 hc1
  have HB := Aside0.mk (Below.refl w.heap.size w)
  have H : ((standbyref01_Marks.f k l0).bind fun t265 => ((standbyref01_Marks.f k l1).bind fun t268 => (standbyref01_Intersect.l0 k t265 t268 0))) = some r := h
  clear h
  replace H := Option.bind_eq_some_iff.mp H
  obtain ⟨t265, A30, H⟩ := H
  replace H : ((standbyref01_Marks.f k l1).bind fun t268 => (standbyref01_Intersect.l0 k t265 t268 0)) = some r := H
  have A3 := Aside0.mk A30
  clear A30
  replace H := Option.bind_eq_some_iff.mp H
  obtain ⟨t268, A40, H⟩ := H
  replace H : (standbyref01_Intersect.l0 k t265 t268 0) = some r := H
  have A4 := Aside0.mk A40
  clear A40
  have H' := Aside0.mk H
  clear H
  go_enter Try.func29, Try.ntmps29
  go_wp2_with (first | ((with_reducible refine gate_callee (f := 58) rfl ?_); refine goesL_ (some 9) rfl rfl Try.func58 (by kernel_rfl) rfl #[.slice A0 l0.length c0] rfl (by (try simp only [List.map_toArray, List.map_cons, List.map_nil]); first | done | rfl | (simp only [List.length_drop, List.length_take]; rfl)) ?_; (with_reducible refine (standbyref01_Marks.calls k _ _ l0 t265 _ ?side1 ?side2 A3.out).mono ?_); (case side1 => repeat (first | exact HR0.out | (with_reducible refine Kd.C_alloc ?_ _) | (with_reducible refine Kd.C_drewN ?_ _) | (with_reducible refine Kd.C_drew ?_))); (case side2 => exact HC0.out); rintro e w5 ⟨v266, rfl, ho0, hb⟩; refine ⟨_, rfl, ?_⟩; have n0_ := Aside0.mk (Kd.R_lower ho0 (below_size (by repeat (first | (with_reducible first | exact HB.out | apply below_alloc | apply pw_below_drewN | apply below_drew1) | exact HB.out)))); have n1_ := Aside0.mk (below_step (by repeat (first | (with_reducible first | exact HB.out | apply below_alloc | apply pw_below_drewN | apply below_drew1) | exact HB.out)) hb); clear HB; have HO267 := n0_; have HB := n1_; clear n0_ n1_; (try clear hb); (try clear hb2); (try clear hk); (try clear hi); (try clear ho0)) | ((with_reducible refine gate_callee (f := 58) rfl ?_); refine goesL_ (some 11) rfl rfl Try.func58 (by kernel_rfl) rfl #[.slice A1 l1.length c1] rfl (by (try simp only [List.map_toArray, List.map_cons, List.map_nil]); first | done | rfl | (simp only [List.length_drop, List.length_take]; rfl)) ?_; (with_reducible refine (standbyref01_Marks.calls k _ _ l1 t268 _ ?side1 ?side2 A4.out).mono ?_); (case side1 => repeat (first | exact (Kd.C_below HR1.out HB.out) | (with_reducible refine Kd.C_alloc ?_ _) | (with_reducible refine Kd.C_drewN ?_ _) | (with_reducible refine Kd.C_drew ?_))); (case side2 => exact HC1.out); rintro e w6 ⟨v269, rfl, ho0, hb⟩; refine ⟨_, rfl, ?_⟩; have n0_ := Aside0.mk (Kd.R_elder' (by (with_reducible repeat (first | apply Kd.R_alloc | apply Kd.R_drewN | apply Kd.R_drew)); exact HO267.out) (Kd.R_base ho0) hb); have n1_ := Aside0.mk (Kd.R_lower (Kd.R_new' ho0 (Kd.R_lt (by (with_reducible repeat (first | apply Kd.R_alloc | apply Kd.R_drewN | apply Kd.R_drew)); exact HO267.out))) (below_size (by repeat (first | (with_reducible first | exact HB.out | apply below_alloc | apply pw_below_drewN | apply below_drew1) | exact HB.out)))); have n2_ := Aside0.mk (below_step (by repeat (first | (with_reducible first | exact HB.out | apply below_alloc | apply pw_below_drewN | apply below_drew1) | exact HB.out)) hb); clear HO267; clear HB; have HO267 := n0_; have HO270 := n1_; have HB := n2_; clear n0_ n1_ n2_; (try clear hb); (try clear hb2); (try clear hk); (try clear hi); (try clear ho0)))
  go_loopg [7] k (fun kq v7 w' => ∃ (x5_1 : List Bool) (x7_1 : Int), v7 = .int .i64 x7_1 ∧ Aside0 (standbyref01_Intersect.l0 kq x5_1 t268 x7_1 = some r) ∧ Aside0 (kq ≤ k) ∧ Aside0 (Kd.R Kd.bool 4 w' w.heap.size (fun k_ => some k_ ≠ (v269 : Value).ownBlock) v266 x5_1) ∧ Aside0 (Kd.R Kd.bool 4 w' w.heap.size (fun k_ => some k_ ≠ (v266 : Value).ownBlock) v269 t268) ∧ Aside0 (Below w.heap.size w w'))
  case atStart => exact ⟨(t265), (0), (by first | rfl | (simp; done) | (simp [*]; done)), H', ⟨Nat.le_refl _⟩, ⟨by (with_reducible repeat (first | apply Kd.R_alloc | apply Kd.R_drewN | apply Kd.R_drew)); exact Kd.R_mono HO267.out (fun _ hk => hk.2)⟩, ⟨by (with_reducible repeat (first | apply Kd.R_alloc | apply Kd.R_drewN | apply Kd.R_drew)); exact Kd.R_mono HO270.out (fun _ hk => hk.2)⟩, ⟨by repeat (first | (with_reducible first | exact HB.out | apply below_alloc | apply pw_below_drewN | apply below_drew1) | exact HB.out)⟩⟩
  case round =>
    clear H'
    try clear c1
    try clear c2
    try clear p2
    try clear c5
    obtain ⟨x5_1, x7_1, rfl, HA, HK1, HO_5, HO_6, HB⟩ := hrel
    cases gk with
    | zero => exact absurd HA.out (by simp [standbyref01_Intersect.l0])
    | succ k1 =>
      have H := HA.out
      clear HA
      simp only [standbyref01_Intersect.l0] at H
      by_cases c7 : x7_1 < (x5_1.length : Int)
      · rw [if_pos c7] at H
        have c7b0 : decide (x7_1 < (x5_1.length : Int)) = true := decide_eq_true c7
        clear c7
        by_cases c8 : 0 ≤ x7_1
        · rw [if_pos c8] at H
          have c8b0 : decide (0 ≤ x7_1) = true := decide_eq_true c8
          clear c8
          obtain ⟨bq9, hbq9⟩ : ∃ b_ : Bool, b_ = (rdOf false x5_1 x7_1) := ⟨_, rfl⟩
          replace H : (if bq9 = true then (if x7_1 < (t268.length : Int) then (standbyref01_Intersect.l0 k1 (x5_1.set (x7_1 : Int).toNat (rdOf false t268 x7_1)) t268 (wrap64 (x7_1 + 1))) else (none)) else (standbyref01_Intersect.l0 k1 (x5_1.set (x7_1 : Int).toNat false) t268 (wrap64 (x7_1 + 1)))) = some r := by rw [← hbq9] at H; exact H
          have Nbq9 := Aside0.mk hbq9
          clear hbq9
          by_cases c10 : bq9 = true
          · subst c10
            have H1 : (if x7_1 < (t268.length : Int) then (standbyref01_Intersect.l0 k1 (x5_1.set (x7_1 : Int).toNat (rdOf false t268 x7_1)) t268 (wrap64 (x7_1 + 1))) else (none)) = some r := by rw [if_pos rfl] at H; exact H
            clear H
            have H := H1
            clear H1
            by_cases c11 : x7_1 < (t268.length : Int)
            · rw [if_pos c11] at H
              have c11b0 : decide (x7_1 < (t268.length : Int)) = true := decide_eq_true c11
              clear c11
              obtain ⟨y273, hy273⟩ : ∃ y_ : List Bool, y_ = (x5_1.set (x7_1 : Int).toNat (rdOf false t268 x7_1)) := ⟨_, rfl⟩
              replace H : (standbyref01_Intersect.l0 k1 y273 t268 (wrap64 (x7_1 + 1))) = some r := by first | (rw [hy273]; with_reducible exact H) | (have H2_ := (Option.bind_some _ _).symm.trans H; rw [hy273]; with_reducible exact H2_) | (have H2_ := (Option.bind_some _ _).symm.trans H; with_reducible exact H2_) | with_reducible exact H | (rw [hy273]; exact H) | exact H
              have Ny273 := Aside0.mk hy273
              clear hy273
              have H' := Aside0.mk H
              clear H
              obtain ⟨Ao13, co13, eo13⟩ := Kd.R_slice HO_5.out
              subst eo13
              have p271 : 0 ≤ (x7_1 : Int) := of_decide_eq_true (by first | (with_reducible assumption) | assumption)
              have q271 : x7_1 < (x5_1.length : Int) := of_decide_eq_true (by first | (with_reducible assumption) | assumption)
              obtain ⟨ad271, e271, hx271_0⟩ := Kd.at_bool (Kd.R_reads' HO_5.out).2.2 x7_1 p271 q271
              (try rw [← Nbq9.out] at hx271_0)
              cases e271
              replace p271 := eq_true p271
              replace q271 := eq_true q271
              obtain ⟨Ao14, co14, eo14⟩ := Kd.R_slice HO_6.out
              subst eo14
              have p272 : 0 ≤ (x7_1 : Int) := of_decide_eq_true (by first | (with_reducible assumption) | assumption)
              have q272 : x7_1 < (t268.length : Int) := of_decide_eq_true (by first | (with_reducible assumption) | assumption)
              obtain ⟨ad272, e272, hx272_0⟩ := Kd.at_bool (Kd.R_reads' HO_6.out).2.2 x7_1 p272 q272
              (try rw [← Nbq9.out] at hx272_0)
              cases e272
              replace p272 := eq_true p272
              replace q272 := eq_true q272
              have p12 : 0 ≤ (x7_1 : Int) := of_decide_eq_true (by first | (with_reducible assumption) | assumption)
              have q12 : (x7_1 : Int) < ((x5_1.length : Int) : Int) := of_decide_eq_true (by first | (with_reducible assumption) | assumption)
              obtain ⟨go12, co12, eo12, gb12, gl12, cl12, HG12⟩ := Kd.R_form HO_5.out (by omega)
              (first | cases eo12 | (injection eo12 with ea_ en_ ec_; (first | subst ea_ | (injection ea_ with ea_; subst ea_)); subst ec_; clear en_))
              have GB12 := Aside0.mk gb12
              have GG12 := Aside0.mk HG12
              clear gb12 gl12 HG12
              (first | simp only [add_plain] at hx271_0 | skip)
              obtain ⟨hx12_0, hf12_0⟩ := Kd.R_celln false HO_5.out (x7_1 : Int) p12 q12
              replace p12 := eq_true p12
              replace q12 := eq_true q12
              have HP15 := Kd.R_putg HO_5.out (x7_1 : Int) (rdOf false t268 x7_1)
              go_wp2_with (first | ((with_reducible refine gate_store (t := 4) (p := 30) rfl ?_); refine store_event (t := 4) (p := 30) (v := ?vo_w16) (w1 := (wr.setCell ⟨go12, (x7_1 : Int).toNat, none⟩ (.bool (rdOf false t268 x7_1)))) ?hg ?ho ?hn ?hr ?_; (case ho => rfl); (case hg => rfl); (case hn => rfl); (case hr => first | (go_simp; done) | (go_simp; rfl)); intro w16 hw; have hg : wr.grownBy w16 (some go12) := (by rw [hw]; exact HP15.2); have hp_ : Kd.R Kd.bool 4 w16 w.heap.size (fun k_ => some k_ ≠ (.slice (some ad272) t268.length co14 : Value).ownBlock) (.slice (some ⟨go12, 0, none⟩) x5_1.length co13) y273 := (by rw [hw, Ny273.out]; exact HP15.1); clear HP15; have n0_ := Aside0.mk (hp_); have n1_ := Aside0.mk (Kd.R_after (v := (.slice (some ⟨go12, 0, none⟩) x5_1.length co13)) (v1 := (.slice (some ⟨go12, 0, none⟩) x5_1.length co13)) (ok := (fun _ => True)) (by (with_reducible repeat (first | apply Kd.R_alloc | apply Kd.R_drewN | apply Kd.R_drew)); exact Kd.R_mono HO_6.out (fun _ hk => ⟨trivial, hk⟩)) hg (.inl rfl)); have n2_ := Aside0.mk ((by rw [hw]; exact below_set (HB.out) GB12.out : Below w.heap.size w w16)); clear HO_5; clear HO_6; clear HB; have HO_5 := n0_; have HO_6 := n1_; have HB := n2_; clear n0_ n1_ n2_; clear hg hw hp_))
              go_roundg k1
              case measure => have := HK1.out; omega
              case rel => exact ⟨(y273), (wrap64 (x7_1 + 1)), (by first | rfl | (simp; done) | (simp [*]; done)), H', ⟨by have := HK1.out; omega⟩, ⟨by (with_reducible repeat (first | apply Kd.R_alloc | apply Kd.R_drewN | apply Kd.R_drew)); exact HO_5.out⟩, ⟨by (with_reducible repeat (first | apply Kd.R_alloc | apply Kd.R_drewN | apply Kd.R_drew)); exact Kd.R_mono HO_6.out (fun _ hk => hk.2)⟩, ⟨by repeat (first | (with_reducible first | exact HB.out | apply below_alloc | apply pw_below_drewN | apply below_drew1) | exact HB.out)⟩⟩
            · rw [if_neg c11] at H
              exact absurd H (by simp)
          · replace c10 := Bool.eq_false_iff.mpr c10
            subst c10
            have H1 : (standbyref01_Intersect.l0 k1 (x5_1.set (x7_1 : Int).toNat false) t268 (wrap64 (x7_1 + 1))) = some r := by rw [if_neg (show ¬ (false = true) by decide)] at H; exact H
            clear H
            have H := H1
            clear H1
            obtain ⟨y274, hy274⟩ : ∃ y_ : List Bool, y_ = (x5_1.set (x7_1 : Int).toNat false) := ⟨_, rfl⟩
            replace H : (standbyref01_Intersect.l0 k1 y274 t268 (wrap64 (x7_1 + 1))) = some r := by first | (rw [hy274]; with_reducible exact H) | (have H2_ := (Option.bind_some _ _).symm.trans H; rw [hy274]; with_reducible exact H2_) | (have H2_ := (Option.bind_some _ _).symm.trans H; with_reducible exact H2_) | with_reducible exact H | (rw [hy274]; exact H) | exact H
            have Ny274 := Aside0.mk hy274
            clear hy274
            have H' := Aside0.mk H
            clear H
            obtain ⟨Ao18, co18, eo18⟩ := Kd.R_slice HO_5.out
            subst eo18
            have p271 : 0 ≤ (x7_1 : Int) := of_decide_eq_true (by first | (with_reducible assumption) | assumption)
            have q271 : x7_1 < (x5_1.length : Int) := of_decide_eq_true (by first | (with_reducible assumption) | assumption)
            obtain ⟨ad271, e271, hx271_0⟩ := Kd.at_bool (Kd.R_reads' HO_5.out).2.2 x7_1 p271 q271
            (try rw [← Nbq9.out] at hx271_0)
            cases e271
            replace p271 := eq_true p271
            replace q271 := eq_true q271
            have p17 : 0 ≤ (x7_1 : Int) := of_decide_eq_true (by first | (with_reducible assumption) | assumption)
            have q17 : (x7_1 : Int) < ((x5_1.length : Int) : Int) := of_decide_eq_true (by first | (with_reducible assumption) | assumption)
            obtain ⟨go17, co17, eo17, gb17, gl17, cl17, HG17⟩ := Kd.R_form HO_5.out (by omega)
            (first | cases eo17 | (injection eo17 with ea_ en_ ec_; (first | subst ea_ | (injection ea_ with ea_; subst ea_)); subst ec_; clear en_))
            have GB17 := Aside0.mk gb17
            have GG17 := Aside0.mk HG17
            clear gb17 gl17 HG17
            (first | simp only [add_plain] at hx271_0 | skip)
            obtain ⟨hx17_0, hf17_0⟩ := Kd.R_celln false HO_5.out (x7_1 : Int) p17 q17
            replace p17 := eq_true p17
            replace q17 := eq_true q17
            have HP19 := Kd.R_putg HO_5.out (x7_1 : Int) false
            go_wp2_with (first | ((with_reducible refine gate_store (t := 4) (p := 30) rfl ?_); refine store_event (t := 4) (p := 30) (v := ?vo_w20) (w1 := (wr.setCell ⟨go17, (x7_1 : Int).toNat, none⟩ (.bool false))) ?hg ?ho ?hn ?hr ?_; (case ho => rfl); (case hg => rfl); (case hn => rfl); (case hr => first | (go_simp; done) | (go_simp; rfl)); intro w20 hw; have hg : wr.grownBy w20 (some go17) := (by rw [hw]; exact HP19.2); have hp_ : Kd.R Kd.bool 4 w20 w.heap.size (fun k_ => some k_ ≠ (v269 : Value).ownBlock) (.slice (some ⟨go17, 0, none⟩) x5_1.length co18) y274 := (by rw [hw, Ny274.out]; exact HP19.1); clear HP19; have n0_ := Aside0.mk (hp_); have n1_ := Aside0.mk (Kd.R_after (v := (.slice (some ⟨go17, 0, none⟩) x5_1.length co18)) (v1 := (.slice (some ⟨go17, 0, none⟩) x5_1.length co18)) (ok := (fun _ => True)) (by (with_reducible repeat (first | apply Kd.R_alloc | apply Kd.R_drewN | apply Kd.R_drew)); exact Kd.R_mono HO_6.out (fun _ hk => ⟨trivial, hk⟩)) hg (.inl rfl)); have n2_ := Aside0.mk ((by rw [hw]; exact below_set (HB.out) GB17.out : Below w.heap.size w w20)); clear HO_5; clear HO_6; clear HB; have HO_5 := n0_; have HO_6 := n1_; have HB := n2_; clear n0_ n1_ n2_; clear hg hw hp_))
            go_roundg k1
            case measure => have := HK1.out; omega
            case rel => exact ⟨(y274), (wrap64 (x7_1 + 1)), (by first | rfl | (simp; done) | (simp [*]; done)), H', ⟨by have := HK1.out; omega⟩, ⟨by (with_reducible repeat (first | apply Kd.R_alloc | apply Kd.R_drewN | apply Kd.R_drew)); exact HO_5.out⟩, ⟨by (with_reducible repeat (first | apply Kd.R_alloc | apply Kd.R_drewN | apply Kd.R_drew)); exact Kd.R_mono HO_6.out (fun _ hk => hk.2)⟩, ⟨by repeat (first | (with_reducible first | exact HB.out | apply below_alloc | apply pw_below_drewN | apply below_drew1) | exact HB.out)⟩⟩
        · rw [if_neg c8] at H
          exact absurd H (by simp)
      · rw [if_neg c7] at H
        have c7b0 : decide (x7_1 < (x5_1.length : Int)) = false := decide_eq_false c7
        clear c7
        replace H := Option.bind_eq_some_iff.mp H
        obtain ⟨t275, A210, H⟩ := H
        replace H : (some t275) = some r := H
        have A21 := Aside0.mk A210
        clear A210
        obtain rfl := Option.some.inj H
        obtain ⟨Ao22, co22, eo22⟩ := Kd.R_slice HO_5.out
        subst eo22
        go_wp2_with (first | ((with_reducible refine gate_callee (f := 59) rfl ?_); refine goesL_ (some 32) rfl rfl Try.func59 (by kernel_rfl) rfl #[.slice Ao22 x5_1.length co22] rfl (by (try simp only [List.map_toArray, List.map_cons, List.map_nil]); first | done | rfl | (simp only [List.length_drop, List.length_take]; rfl)) ?_; (with_reducible refine (standbyref01_List.calls k1 _ _ x5_1 t275 _ ?side1 ?side2 A21.out).mono ?_); (case side1 => repeat (first | exact (Kd.R_reads' HO_5.out).2.2 | (with_reducible refine Kd.C_alloc ?_ _) | (with_reducible refine Kd.C_drewN ?_ _) | (with_reducible refine Kd.C_drew ?_))); (case side2 => exact (Kd.R_reads' HO_5.out).2.1); rintro e w23 ⟨v276, rfl, ho0, hb⟩; refine ⟨_, rfl, ?_⟩; have n0_ := Aside0.mk (Kd.R_below (by (with_reducible repeat (first | apply Kd.R_alloc | apply Kd.R_drewN | apply Kd.R_drew)); exact HO_5.out) hb); have n1_ := Aside0.mk (Kd.R_below (by (with_reducible repeat (first | apply Kd.R_alloc | apply Kd.R_drewN | apply Kd.R_drew)); exact HO_6.out) hb); have n2_ := Aside0.mk (Kd.R_lower ho0 (below_size (by repeat (first | (with_reducible first | exact HB.out | apply below_alloc | apply pw_below_drewN | apply below_drew1) | exact HB.out)))); have n3_ := Aside0.mk (below_step (by repeat (first | (with_reducible first | exact HB.out | apply below_alloc | apply pw_below_drewN | apply below_drew1) | exact HB.out)) hb); clear HO_5; clear HO_6; clear HB; have HO_5 := n0_; have HO_6 := n1_; have HO277 := n2_; have HB := n3_; clear n0_ n1_ n2_ n3_; (try clear hb); (try clear hb2); (try clear hk); (try clear hi); (try clear ho0)))
        go_ret
        exact ⟨_, by first | rfl | (simp [errW_none, errW_some] <;> rfl) | (simp [*, errW_none, errW_some] <;> rfl), by (with_reducible repeat (first | apply Kd.R_alloc | apply Kd.R_drewN | apply Kd.R_drew)); exact HO277.out, by repeat (first | (with_reducible first | exact HB.out | apply below_alloc | apply pw_below_drewN | apply below_drew1) | exact HB.out)⟩
def standbyref45_Needed.l0 : Nat → List (List (S54)) → List (List (S54)) → List (List (S54)) → Int → Option ((List (List (S54))) × Int)
  | 0, _, _, _, _ => none
  | k + 1, x2, x8, x11, x12 => if x12 < (x2.length : Int) then (if 0 ≤ x12 then (if x12 < (x8.length : Int) then ((standbyref01_Intersect.f k (rd_L7 x8 x12) (rd_L7 x2 x12)).bind fun t285 => (if x11.length < 5864062014805 then (standbyref45_Needed.l0 k x2 x8 (x11 ++ [t285]) (wrap64 (x12 + 1))) else (none))) else (none)) else (none)) else (some (x11, 0))
def standbyref45_Needed.f (k : Nat) (l0 : List (List (S52))) (l1 : List (List (S52))) (l2 : List (List (S54))) : Option ((List (List (S54))) × Int) := (standbyref07_Differ.f k l0 l1).bind fun bt278 => (if bt278.2 = 0 then ((standbyref45_Fit.f k l0 l2).bind fun t282 => (if t282 = 0 then (standbyref45_Needed.l0 k l2 bt278.1 ([] : List (List (S54))) 0) else (some (([] : List (List (S54))), t282)))) else (some (([] : List (List (S54))), bt278.2)))
def standbyref45_Needed.T11 : Bool × List (List Nat × List Nat) := (true, [([], []), ([], []), ([], []), ([1, 2], [1, 2]), ([3], [3]), ([], []), ([], []), ([5, 6], [5, 6]), ([7], [7]), ([4, 8], [4, 8]), ([9], [9]), ([0, 10, 9], [0, 10]), ([11, 11, 0, 1, 2, 3, 4, 5, 6, 7, 8, 9, 10, 11], [0, 11])])
def standbyref45_Needed.B11 : List Nat := [0, 0, 0, 6, 14, 0, 0, 96, 224, 510, 1022, 2047, 4095]
theorem standbyref45_Needed.tab11 : rtab .any (opsOf Try.f10 11) = standbyref45_Needed.T11 := by kernel_rfl
theorem standbyref45_Needed.bits11 : waitsOk standbyref45_Needed.T11.2 standbyref45_Needed.B11 = true := by kernel_rfl
set_option maxHeartbeats 8000000 in
set_option maxRecDepth 100000 in
theorem standbyref45_Needed.calls (k : Nat) (A0 : Option Addr) (c0 : Nat) (l0 : List (List (S52))) (A1 : Option Addr) (c1 : Nat) (l1 : List (List (S52))) (A2 : Option Addr) (c2 : Nat) (l2 : List (List (S54))) (r1 : List (List (S54))) (r2 : Int) (w : World) (hr0 : Kd.C (Kd.slice 52 k52) w A0 l0.length l0) (hc0 : l0.length ≤ c0) (hr1 : Kd.C (Kd.slice 52 k52) w A1 l1.length l1) (hc1 : l1.length ≤ c1) (hr2 : Kd.C (Kd.slice 54 k54) w A2 l2.length l2) (hc2 : l2.length ≤ c2) (h : standbyref45_Needed.f k l0 l1 l2 = some (r1, r2)) :
    Calls Try.prog 10 #[.slice A0 l0.length c0, .slice A1 l1.length c1, .slice A2 l2.length c2] w fun e w' => ∃ v0_ : Value, e = .returned (.tuple #[v0_, .int .i64 r2]) ∧ Kd.S (Kd.slice 54 k54) 50 w' w.heap.size (fun _ => True) v0_ r1 ∧ Below w.heap.size w w' := by
  have HR0 := Aside0.mk hr0
  have HC0 := Aside0.mk hc0
  clear hr0 hc0
  have HR1 := Aside0.mk hr1
  have HC1 := Aside0.mk hc1
  clear hr1 hc1
  have HR2 := Aside0.mk hr2
  have HC2 := Aside0.mk hc2
  clear hr2 hc2
  have HB := Aside0.mk (Below.refl w.heap.size w)
  have H : ((standbyref07_Differ.f k l0 l1).bind fun bt278 => (if bt278.2 = 0 then ((standbyref45_Fit.f k l0 l2).bind fun t282 => (if t282 = 0 then (standbyref45_Needed.l0 k l2 bt278.1 ([] : List (List (S54))) 0) else (some (([] : List (List (S54))), t282)))) else (some (([] : List (List (S54))), bt278.2)))) = some (r1, r2) := h
  clear h
  replace H := Option.bind_eq_some_iff.mp H
  obtain ⟨⟨t278, t279⟩, A40, H⟩ := H
  replace H : (if t279 = 0 then ((standbyref45_Fit.f k l0 l2).bind fun t282 => (if t282 = 0 then (standbyref45_Needed.l0 k l2 t278 ([] : List (List (S54))) 0) else (some (([] : List (List (S54))), t282)))) else (some (([] : List (List (S54))), t279))) = some (r1, r2) := H
  have A4 := Aside0.mk A40
  clear A40
  by_cases c5 : t279 = 0
  · rw [if_pos c5] at H
    have c5b0 : (t279 == 0) = true := beq_iff_eq.mpr c5
    have c5b1 : (t279 != 0) = false := bne_eq_false_iff_eq.mpr c5
    clear c5
    replace H := Option.bind_eq_some_iff.mp H
    obtain ⟨t282, A60, H⟩ := H
    replace H : (if t282 = 0 then (standbyref45_Needed.l0 k l2 t278 ([] : List (List (S54))) 0) else (some (([] : List (List (S54))), t282))) = some (r1, r2) := H
    have A6 := Aside0.mk A60
    clear A60
    by_cases c7 : t282 = 0
    · rw [if_pos c7] at H
      have c7b0 : (t282 == 0) = true := beq_iff_eq.mpr c7
      have c7b1 : (t282 != 0) = false := bne_eq_false_iff_eq.mpr c7
      clear c7
      have H' := Aside0.mk H
      clear H
      go_enter Try.func10, Try.ntmps10
      go_wp2_with (first | ((with_reducible refine gate_callee (f := 27) rfl ?_); refine goesL_ (some 16) rfl rfl Try.func27 (by kernel_rfl) rfl #[.slice A0 l0.length c0, .slice A1 l1.length c1] rfl (by (try simp only [List.map_toArray, List.map_cons, List.map_nil]); first | done | rfl | (simp only [List.length_drop, List.length_take]; rfl)) ?_; (with_reducible refine (standbyref07_Differ.calls k _ _ l0 _ _ l1 t278 t279 _ ?side1 ?side2 ?side3 ?side4 A4.out).mono ?_); (case side1 => repeat (first | exact HR0.out | (with_reducible refine Kd.C_alloc ?_ _) | (with_reducible refine Kd.C_drewN ?_ _) | (with_reducible refine Kd.C_drew ?_))); (case side2 => exact HC0.out); (case side3 => repeat (first | exact HR1.out | (with_reducible refine Kd.C_alloc ?_ _) | (with_reducible refine Kd.C_drewN ?_ _) | (with_reducible refine Kd.C_drew ?_))); (case side4 => exact HC1.out); rintro e w8 ⟨v280, rfl, ho0, hb⟩; refine ⟨_, rfl, ?_⟩; have n0_ := Aside0.mk (Kd.S_lower ho0 (below_size (by repeat (first | (with_reducible first | exact HB.out | apply below_alloc | apply pw_below_drewN | apply below_drew1) | exact HB.out)))); have n1_ := Aside0.mk (below_step (by repeat (first | (with_reducible first | exact HB.out | apply below_alloc | apply pw_below_drewN | apply below_drew1) | exact HB.out)) hb); clear HB; have HO281 := n0_; have HB := n1_; clear n0_ n1_; (try clear hb); (try clear hb2); (try clear hk); (try clear hi); (try clear ho0)) | ((with_reducible refine gate_callee (f := 28) rfl ?_); refine goesL_ (some 24) rfl rfl Try.func28 (by kernel_rfl) rfl #[.slice A0 l0.length c0, .slice A2 l2.length c2] rfl (by (try simp only [List.map_toArray, List.map_cons, List.map_nil]); first | done | rfl | (simp only [List.length_drop, List.length_take]; rfl)) ?_; (with_reducible refine (standbyref45_Fit.calls k _ _ l0 _ _ l2 t282 _ ?side1 ?side2 ?side3 ?side4 A6.out).mono ?_); (case side1 => repeat (first | exact (Kd.C_below HR0.out HB.out) | (with_reducible refine Kd.C_alloc ?_ _) | (with_reducible refine Kd.C_drewN ?_ _) | (with_reducible refine Kd.C_drew ?_))); (case side2 => exact HC0.out); (case side3 => repeat (first | exact (Kd.C_below HR2.out HB.out) | (with_reducible refine Kd.C_alloc ?_ _) | (with_reducible refine Kd.C_drewN ?_ _) | (with_reducible refine Kd.C_drew ?_))); (case side4 => exact HC2.out); rintro e w9 ⟨rfl, hb⟩; refine ⟨_, rfl, ?_⟩; have n0_ := Aside0.mk (Kd.S_below (by (with_reducible repeat (first | apply Kd.S_alloc | apply Kd.S_drewN | apply Kd.S_drew)); exact HO281.out) hb); have n1_ := Aside0.mk (below_step (by repeat (first | (with_reducible first | exact HB.out | apply below_alloc | apply pw_below_drewN | apply below_drew1) | exact HB.out)) hb); clear HO281; clear HB; have HO281 := n0_; have HB := n1_; clear n0_ n1_; (try clear hb); (try clear hb2); (try clear hk); (try clear hi)))
      go_loopg [11, 12] k (fun kq v11 v12 w' => ∃ (x11_1 : List (List (S54))) (x12_1 : Int), v12 = .int .i64 x12_1 ∧ Aside0 (standbyref45_Needed.l0 kq l2 t278 x11_1 x12_1 = some (r1, r2)) ∧ Aside0 (kq ≤ k) ∧ Aside0 (Kd.S (Kd.slice 54 k54) 50 w' w.heap.size (fun k_ => some k_ ≠ (v11 : Value).ownBlock) v280 t278) ∧ Aside0 (Kd.S (Kd.slice 54 k54) 50 w' w.heap.size (fun k_ => some k_ ≠ (v280 : Value).ownBlock) v11 x11_1) ∧ Aside0 (Below w.heap.size w w'))
      case atStart => exact ⟨(([] : List (List (S54)))), (0), (by first | rfl | (simp; done) | (simp [*]; done)), H', ⟨Nat.le_refl _⟩, ⟨by (with_reducible repeat (first | apply Kd.S_alloc | apply Kd.S_drewN | apply Kd.S_drew)); exact Kd.S_mono HO281.out (fun _ hk => (by simp [Value.ownBlock]))⟩, ⟨by first | exact Kd.S_nil _ _ _ _ _ | exact Kd.N_nil _ _ _ _ _ | exact Kd.V_nil _ _ _ _ _ | exact Kd.Q_nil _ _ _ _ _ | exact Kd.R_nil _ _ _ _ _⟩, ⟨by repeat (first | (with_reducible first | exact HB.out | apply below_alloc | apply pw_below_drewN | apply below_drew1) | exact HB.out)⟩⟩
      case round =>
        clear H'
        try clear c1
        try clear c2
        try clear p2
        try clear c5
        try clear c5b0
        try clear c5b1
        try clear c7
        try clear c7b0
        try clear c7b1
        obtain ⟨x11_1, x12_1, rfl, HA, HK1, HO_8, HO_11, HB⟩ := hrel
        cases gk with
        | zero => exact absurd HA.out (by simp [standbyref45_Needed.l0])
        | succ k1 =>
          have H := HA.out
          clear HA
          simp only [standbyref45_Needed.l0] at H
          by_cases c10 : x12_1 < (l2.length : Int)
          · rw [if_pos c10] at H
            have c10b0 : decide (x12_1 < (l2.length : Int)) = true := decide_eq_true c10
            clear c10
            by_cases c11 : 0 ≤ x12_1
            · rw [if_pos c11] at H
              have c11b0 : decide (0 ≤ x12_1) = true := decide_eq_true c11
              clear c11
              by_cases c12 : x12_1 < (t278.length : Int)
              · rw [if_pos c12] at H
                have c12b0 : decide (x12_1 < (t278.length : Int)) = true := decide_eq_true c12
                clear c12
                replace H := Option.bind_eq_some_iff.mp H
                obtain ⟨t285, A130, H⟩ := H
                replace H : (if x11_1.length < 5864062014805 then (standbyref45_Needed.l0 k1 l2 t278 (x11_1 ++ [t285]) (wrap64 (x12_1 + 1))) else (none)) = some (r1, r2) := H
                have A13 := Aside0.mk A130
                clear A130
                by_cases c14 : x11_1.length < 5864062014805
                · rw [if_pos c14] at H
                  have LMc14 := Aside0.mk c14
                  clear c14
                  obtain ⟨y288, hy288⟩ : ∃ y_ : List (List (S54)), y_ = (x11_1 ++ [t285]) := ⟨_, rfl⟩
                  replace H : (standbyref45_Needed.l0 k1 l2 t278 y288 (wrap64 (x12_1 + 1))) = some (r1, r2) := by first | (rw [hy288]; with_reducible exact H) | (have H2_ := (Option.bind_some _ _).symm.trans H; rw [hy288]; with_reducible exact H2_) | (have H2_ := (Option.bind_some _ _).symm.trans H; with_reducible exact H2_) | with_reducible exact H | (rw [hy288]; exact H) | exact H
                  have Ny288 := Aside0.mk hy288
                  clear hy288
                  have H' := Aside0.mk H
                  clear H
                  try go_wp2
                  have n0_ := Aside0.mk (Kd.S_drew HO_8.out)
                  have n1_ := Aside0.mk (Kd.S_drew HO_11.out)
                  have n2_ := Aside0.mk (below_drew1 HB.out)
                  clear HO_8
                  clear HO_11
                  clear HB
                  have HO_8 := n0_
                  have HO_11 := n1_
                  have HB := n2_
                  clear n0_ n1_ n2_
                  obtain ⟨Ao16, co16, eo16⟩ := Kd.S_slice HO_8.out
                  (first | subst eo16 | (injection eo16 with f1_ f2_ f3_; have f4_ := f1_.symm; have f5_ := f3_.symm; clear f1_ f2_ f3_; subst f4_; subst f5_))
                  have p283 : 0 ≤ (x12_1 : Int) := of_decide_eq_true (by first | (with_reducible assumption) | assumption)
                  have q283 : x12_1 < (t278.length : Int) := of_decide_eq_true (by first | (with_reducible assumption) | assumption)
                  obtain ⟨ad283, A283_0, c283_0, e283, hx283_0, hl283_0, hi283_0⟩ := at_L7 (Kd.S_reads' HO_8.out).2.2 x12_1 p283 q283
                  cases e283
                  obtain ⟨ce283, hce283, hMe283, hcc283⟩ := Kd.S_get HO_8.out [] x12_1 p283 (by first | exact q283 | exact of_decide_eq_true (by first | (with_reducible assumption) | assumption) | (have e_ := (Kd.S_reads' HO_8.out).1; omega))
                  obtain ⟨ve283_0, rfl, ge283_0⟩ := hMe283
                  have hv283_0 := hcc283 0 _ rfl
                  rw [Nat.add_zero, show ((Kd.slice 54 k54)).sz = 1 from rfl, Nat.mul_one] at hv283_0
                  replace hv283_0 := Option.some.inj (hv283_0.symm.trans hx283_0)
                  rw [hv283_0] at ge283_0
                  have HL283_0 := Aside0.mk (show Kd.R k54 54 _ _ _ _ (rd_L7 t278 x12_1) from ge283_0)
                  clear hv283_0 ge283_0
                  clear hcc283 hce283
                  have HR283_0 := Aside0.mk hi283_0
                  have HC283_0 := Aside0.mk hl283_0
                  clear hi283_0 hl283_0
                  replace p283 := eq_true p283
                  replace q283 := eq_true q283
                  have p284 : 0 ≤ (x12_1 : Int) := of_decide_eq_true (by first | (with_reducible assumption) | assumption)
                  have q284 : x12_1 < (l2.length : Int) := of_decide_eq_true (by first | (with_reducible assumption) | assumption)
                  obtain ⟨ad284, A284_0, c284_0, e284, hx284_0, hl284_0, hi284_0⟩ := at_L7 HR2.out x12_1 p284 q284
                  have hw284_0 := hx284_0
                  cases e284
                  replace hx284_0 := (HB.out.cell (World.block_lt_of_cell? w _ hx284_0)).trans hx284_0
                  have HR284_0 := Aside0.mk hi284_0
                  have HC284_0 := Aside0.mk hl284_0
                  clear hi284_0 hl284_0
                  replace p284 := eq_true p284
                  replace q284 := eq_true q284
                  refine start_ (n := 13) (S := fun w' => w'.cell? (ad283.add (x12_1).toNat) = some (.slice A283_0 (rd_L7 t278 x12_1).length c283_0) ∧ w'.cell? (ad284.add (x12_1).toNat) = some (.slice A284_0 (rd_L7 l2 x12_1).length c284_0)) (ds := [10, 11]) #[false, false, false, false, false, false, false, false, false, false, false, false, false] (by kernel_rfl) rfl rfl ⟨hx283_0, ((HB.out.cell (World.block_lt_of_cell? w _ hw284_0)).trans hw284_0)⟩ (fun hHeld => ?_); refine with_tabW standbyref45_Needed.tab11 standbyref45_Needed.bits11 (fun HT_ HW_ => ?_)
                  generalize wr.drew = w15 at HO_8 HO_11 HB HL283_0 HR283_0 HR284_0 hx283_0 hx284_0 hHeld ⊢
                  refine pure_ (i := 0) (N := some 34) (v := ?_) (a' := ?_) #[true, false, false, false, false, false, false, false, false, false, false, false, false] rfl rfl (any_of HT_.out (by kernel_rfl)) (fun _ _ _ h => h) (Or.inl ⟨by rfl, ?_⟩) ?_ ?_
                  rotate_left
                  · intro w'
                    go_simp
                    with_reducible rfl
                  rotate_left
                  · simp only [Act.put, List.setIfInBounds_toArray, List.set_cons_zero, List.set_cons_succ, i64_w, i32_w]
                    rfl
                  refine pure_ (i := 1) (N := some 35) (v := ?_) (a' := ?_) #[true, true, false, false, false, false, false, false, false, false, false, false, false] rfl rfl (any_of HT_.out (by kernel_rfl)) (fun _ _ _ h => h) (Or.inl ⟨by rfl, ?_⟩) ?_ ?_
                  rotate_left
                  · intro w'
                    go_simp
                    with_reducible rfl
                  rotate_left
                  · simp only [Act.put, List.setIfInBounds_toArray, List.set_cons_zero, List.set_cons_succ, i64_w, i32_w]
                    rfl
                  refine pure_ (i := 2) (N := some 36) (v := ?_) (a' := ?_) #[true, true, true, false, false, false, false, false, false, false, false, false, false] rfl rfl (any_of HT_.out (by kernel_rfl)) (fun _ _ _ h => h) (Or.inl ⟨by rfl, ?_⟩) ?_ ?_
                  rotate_left
                  · intro w'
                    go_simp
                    with_reducible rfl
                  rotate_left
                  · simp only [Act.put, List.setIfInBounds_toArray, List.set_cons_zero, List.set_cons_succ, i64_w, i32_w]
                    rfl
                  refine pure_ (i := 3) (N := some 37) (v := ?_) (a' := ?_) #[true, true, true, true, false, false, false, false, false, false, false, false, false] rfl rfl (any_of HT_.out (by kernel_rfl)) (fun _ _ _ h => h) (Or.inl ⟨by rfl, ?_⟩) ?_ ?_
                  rotate_left
                  · intro w'
                    go_simp
                    with_reducible rfl
                  rotate_left
                  · simp only [Act.put, List.setIfInBounds_toArray, List.set_cons_zero, List.set_cons_succ, i64_w, i32_w]
                    rfl
                  refine pure_ (i := 5) (N := some 39) (v := ?_) (a' := ?_) #[true, true, true, true, false, true, false, false, false, false, false, false, false] rfl rfl (any_of HT_.out (by kernel_rfl)) (fun _ _ _ h => h) (Or.inl ⟨by rfl, ?_⟩) ?_ ?_
                  rotate_left
                  · intro w'
                    go_simp
                    with_reducible rfl
                  rotate_left
                  · simp only [Act.put, List.setIfInBounds_toArray, List.set_cons_zero, List.set_cons_succ, i64_w, i32_w]
                    rfl
                  refine pure_ (i := 6) (N := some 40) (v := ?_) (a' := ?_) #[true, true, true, true, false, true, true, false, false, false, false, false, false] rfl rfl (any_of HT_.out (by kernel_rfl)) (fun _ _ _ h => h) (Or.inl ⟨by rfl, ?_⟩) ?_ ?_
                  rotate_left
                  · intro w'
                    go_simp
                    with_reducible rfl
                  rotate_left
                  · simp only [Act.put, List.setIfInBounds_toArray, List.set_cons_zero, List.set_cons_succ, i64_w, i32_w]
                    rfl
                  refine pure_ (i := 7) (N := some 41) (v := ?_) (a' := ?_) #[true, true, true, true, false, true, true, true, false, false, false, false, false] rfl rfl (any_of HT_.out (by kernel_rfl)) (fun _ _ _ h => h) (Or.inl ⟨by rfl, ?_⟩) ?_ ?_
                  rotate_left
                  · intro w'
                    go_simp
                    with_reducible rfl
                  rotate_left
                  · simp only [Act.put, List.setIfInBounds_toArray, List.set_cons_zero, List.set_cons_succ, i64_w, i32_w]
                    rfl
                  refine take_ (i := 4) (N := some 38) (v := ?_) (a' := ?_) #[true, true, true, true, true, true, true, true, false, false, false, false, false] rfl rfl (take_ofW HT_.out HW_.out (by kernel_rfl)) (fun _ _ _ h => h) (Or.inl ⟨by rfl, ?_⟩) hHeld ?_ ?_
                  rotate_left
                  · rintro w' ⟨s0, s1⟩
                    go_simp
                    with_reducible rfl
                  rotate_left
                  · simp only [Act.put, List.setIfInBounds_toArray, List.set_cons_zero, List.set_cons_succ, i64_w, i32_w]
                    rfl
                  refine take_ (i := 8) (N := some 42) (v := ?_) (a' := ?_) #[true, true, true, true, true, true, true, true, true, false, false, false, false] rfl rfl (take_ofW HT_.out HW_.out (by kernel_rfl)) (fun _ _ _ h => h) (Or.inl ⟨by rfl, ?_⟩) hHeld ?_ ?_
                  rotate_left
                  · rintro w' ⟨s0, s1⟩
                    go_simp
                    with_reducible rfl
                  rotate_left
                  · simp only [Act.put, List.setIfInBounds_toArray, List.set_cons_zero, List.set_cons_succ, i64_w, i32_w]
                    rfl
                  refine one_ (i := 9) (N := some 43) #[true, true, true, true, true, true, true, true, true, true, false, false, false] rfl rfl (one_of HT_.out (by kernel_rfl)) (by decide) (fun K hK => ?_)
                  refine goes_ Try.func29 (by kernel_rfl) rfl #[.slice A283_0 (rd_L7 t278 x12_1).length c283_0, .slice A284_0 (rd_L7 l2 x12_1).length c284_0] (by rfl) rfl rfl (by (try simp only [List.map_toArray, List.map_cons, List.map_nil]); first | done | rfl | (simp only [List.length_drop, List.length_take]; rfl)) ?_
                  with_reducible refine (standbyref01_Intersect.calls k1 _ _ (rd_L7 t278 x12_1) _ _ (rd_L7 l2 x12_1) t285 _ ?side1 ?side2 ?side3 ?side4 A13.out).mono ?_
                  (case side1 => repeat (first | exact (by repeat (first | (with_reducible exact HR283_0.out) | (with_reducible refine Kd.C_alloc ?_ _) | (with_reducible refine Kd.C_drewN ?_ _) | (with_reducible refine Kd.C_drew ?_) | exact HR283_0.out)) | (with_reducible refine Kd.C_alloc ?_ _) | (with_reducible refine Kd.C_drewN ?_ _) | (with_reducible refine Kd.C_drew ?_)))
                  (case side2 => exact HC283_0.out)
                  (case side3 => repeat (first | exact (Kd.C_below HR284_0.out HB.out) | (with_reducible refine Kd.C_alloc ?_ _) | (with_reducible refine Kd.C_drewN ?_ _) | (with_reducible refine Kd.C_drew ?_)))
                  (case side4 => exact HC284_0.out)
                  rintro e w17 ⟨v286, rfl, ho0, hb⟩
                  have HS0_ := (hb.cell (World.block_lt_of_cell? _ _ (hHeld.1))).trans (hHeld.1)
                  refine ⟨_, rfl, ?_⟩
                  have n0_ := Aside0.mk (Kd.S_elder' (by (with_reducible repeat (first | apply Kd.S_alloc | apply Kd.S_drewN | apply Kd.S_drew)); exact HO_8.out) (Kd.R_base ho0) hb)
                  have n1_ := Aside0.mk (Kd.S_elder' (by (with_reducible repeat (first | apply Kd.S_alloc | apply Kd.S_drewN | apply Kd.S_drew)); exact HO_11.out) (Kd.R_base ho0) hb)
                  have n2_ := Aside0.mk (Kd.R_elder' (by (with_reducible repeat (first | apply Kd.R_alloc | apply Kd.R_drewN | apply Kd.R_drew)); exact HL283_0.out) (Kd.R_base ho0) hb)
                  have n3_ := Aside0.mk (Kd.R_lower (Kd.R_new' ho0 (Kd.R_lt (by (with_reducible repeat (first | apply Kd.R_alloc | apply Kd.R_drewN | apply Kd.R_drew)); exact HL283_0.out))) (below_size (by repeat (first | (with_reducible first | exact HB.out | apply below_alloc | apply pw_below_drewN | apply below_drew1) | exact HB.out))))
                  have n4_ := Aside0.mk (Kd.C_below (by repeat (first | (with_reducible exact HR283_0.out) | (with_reducible refine Kd.C_alloc ?_ _) | (with_reducible refine Kd.C_drewN ?_ _) | (with_reducible refine Kd.C_drew ?_) | exact HR283_0.out)) hb)
                  have n5_ := Aside0.mk (below_step (by repeat (first | (with_reducible first | exact HB.out | apply below_alloc | apply pw_below_drewN | apply below_drew1) | exact HB.out)) hb)
                  clear HO_8
                  clear HO_11
                  clear HL283_0
                  clear HR283_0
                  clear HB
                  have HO_8 := n0_
                  have HO_11 := n1_
                  have HL283_0 := n2_
                  have HO287 := n3_
                  have HR283_0 := n4_
                  have HB := n5_
                  clear n0_ n1_ n2_ n3_ n4_ n5_
                  (try clear hb)
                  (try clear hb2)
                  (try clear hk)
                  (try clear hi)
                  (try clear ho0)
                  obtain ⟨Ao19, co19, eo19⟩ := Kd.R_slice HO287.out
                  (first | subst eo19 | (injection eo19 with f1_ f2_ f3_; have f4_ := f1_.symm; have f5_ := f3_.symm; clear f1_ f2_ f3_; subst f4_; subst f5_))
                  refine hK.out _ _ ⟨HS0_, ((HB.out.cell (World.block_lt_of_cell? w _ hw284_0)).trans hw284_0)⟩ (fun hHeld => ?_)
                  clear hK K
                  refine norm_ (a' := ?_) ?_ ?_
                  rotate_left
                  · show Act.put _ (some 43) _ = _
                    simp only [Act.put, List.setIfInBounds_toArray, List.set_cons_zero, List.set_cons_succ, i64_w, i32_w]
                    rfl
                  refine last_ (i := 10) (N := some 44) #[true, true, true, true, true, true, true, true, true, true, true, false, false] rfl rfl (one_of HT_.out (by kernel_rfl)) (by decide) (fun K hK => ?_)
                  refine value_ (w1 := ?_) (v := ?_) (by rfl) rfl ?_ ?_
                  rotate_left 2
                  · go_simp
                    constructor
                    · rfl
                    · rfl
                  refine hK.out _ _ ?_
                  clear hK K
                  refine norm_ (a' := ?_) ?_ ?_
                  rotate_left
                  · show Act.put _ (some 44) _ = _
                    simp only [Act.put, List.setIfInBounds_toArray, List.set_cons_zero, List.set_cons_succ, i64_w, i32_w]
                    rfl
                  refine last_ (i := 11) (N := some 45) #[true, true, true, true, true, true, true, true, true, true, true, true, false] rfl rfl (one_of HT_.out (by kernel_rfl)) (by decide) (fun K hK => ?_)
                  refine Kd.S_append_step (Kd.slice 54 k54) (w0 := w) w.heap.size (by rfl) (.tmp 34) (.tmp 44) 24 50 (.slice none 0 0) 24 rfl Try.underlying24 info50 rfl (by decide) (by omega) u11 x11_1 t285 [.slice Ao19 t285.length co19] (fun k_ => some k_ ≠ (.slice (some ad283) t278.length co16 : Value).ownBlock) (fun k_ => some k_ = (.slice Ao19 t285.length co19 : Value).ownBlock) rfl rfl ?aP (fun k_ hk_ => ((Kd.R_mono (ok' := fun k_ => ((fun k_ => some k_ ≠ (.slice (some ad283) t278.length co16 : Value).ownBlock)) k_ ∧ some k_ ≠ (u11 : Value).ownBlock) (Kd.R_apart' (Kd.R_apart' (HO287.out) (Kd.S_typed HO_8.out) (by decide)) (Kd.S_typed HO_11.out) (by decide)) (fun k_ hk => ⟨hk.1.2, hk.2⟩))).1 k_ hk_.symm) ?aF ?aO ?aB ?aS ?aL ?_
                  (case aP => exact Kd.M_row (Kd.R_mono (Kd.R_tight rfl (Kd.R_mono (ok' := fun k_ => ((fun k_ => some k_ ≠ (.slice (some ad283) t278.length co16 : Value).ownBlock)) k_ ∧ some k_ ≠ (u11 : Value).ownBlock) (Kd.R_apart' (Kd.R_apart' (HO287.out) (Kd.S_typed HO_8.out) (by decide)) (Kd.S_typed HO_11.out) (by decide)) (fun k_ hk => ⟨hk.1.2, hk.2⟩))) (fun _ h_ => h_)))
                  (case aB => exact (by repeat (first | (with_reducible first | exact HB.out | apply below_alloc | apply pw_below_drewN | apply below_drew1) | exact HB.out)))
                  (case aF => exact (fun k_ hk => Kd.fresh' (Kd.S_lt (by (with_reducible repeat (first | apply Kd.S_alloc | apply Kd.S_drewN | apply Kd.S_drew)); exact HO_8.out)) k_ hk))
                  (case aO => exact (by (with_reducible repeat (first | apply Kd.S_alloc | apply Kd.S_drewN | apply Kd.S_drew)); exact Kd.S_mono HO_11.out (fun k_ hk => ⟨hk.1, fun e_ => hk.2 e_⟩)))
                  (case aS => exact (below_size (by repeat (first | (with_reducible first | exact HB.out | apply below_alloc | apply pw_below_drewN | apply below_drew1) | exact HB.out))))
                  (case aL => have := LMc14.out; omega)
                  intro v289 w18 ho hb hg hat
                  rw [← Ny288.out] at ho
                  have n0_ := Aside0.mk (Kd.S_after (ok := (fun k_ => some k_ ≠ (.slice Ao19 t285.length co19 : Value).ownBlock)) (by (with_reducible repeat (first | apply Kd.S_alloc | apply Kd.S_drewN | apply Kd.S_drew)); exact Kd.S_mono HO_8.out (fun _ hk => ⟨hk.2, hk.1⟩)) hg hat)
                  have n1_ := Aside0.mk (Kd.R_after (ok := (fun k_ => some k_ ≠ (.slice (some ad283) t278.length co16 : Value).ownBlock ∧ some k_ ≠ (.slice Ao19 t285.length co19 : Value).ownBlock)) (by (with_reducible repeat (first | apply Kd.R_alloc | apply Kd.R_drewN | apply Kd.R_drew)); exact Kd.R_mono HL283_0.out (fun _ hk => ⟨⟨hk.1.2, hk.2⟩, hk.1.1⟩)) hg hat)
                  have n2_ := Aside0.mk (hb)
                  have n3_ := Aside0.mk (ho)
                  clear HO_8
                  clear HL283_0
                  clear HB
                  clear HO_11
                  clear HO287
                  have HO_8 := n0_
                  have HL283_0 := n1_
                  have HB := n2_
                  have HO290 := n3_
                  clear n0_ n1_ n2_ n3_
                  clear ho hb hg hat
                  refine hK.out _ _ ?_
                  clear hK K
                  refine norm_ (a' := ?_) ?_ ?_
                  rotate_left
                  · show Act.put _ (some 45) _ = _
                    simp only [Act.put, List.setIfInBounds_toArray, List.set_cons_zero, List.set_cons_succ, i64_w, i32_w]
                    rfl
                  refine pure_ (i := 12) (N := some 11) (v := ?_) (a' := ?_) #[true, true, true, true, true, true, true, true, true, true, true, true, true] rfl rfl (any_of HT_.out (by kernel_rfl)) (fun _ _ _ h => h) (Or.inl ⟨by rfl, ?_⟩) ?_ ?_
                  rotate_left
                  · intro w'
                    go_simp
                    with_reducible rfl
                  rotate_left
                  · simp only [Act.put, List.setIfInBounds_toArray, List.set_cons_zero, List.set_cons_succ, i64_w, i32_w]
                    rfl
                  refine done_ (done_of HT_.out (by kernel_rfl)) ?_
                  try go_wp2
                  go_roundg k1
                  case measure => have := HK1.out; omega
                  case rel => exact ⟨(y288), (wrap64 (x12_1 + 1)), (by first | rfl | (simp; done) | (simp [*]; done)), H', ⟨by have := HK1.out; omega⟩, ⟨by (with_reducible repeat (first | apply Kd.S_alloc | apply Kd.S_drewN | apply Kd.S_drew)); exact Kd.S_mono HO_8.out (fun _ hk => hk.2)⟩, ⟨by (with_reducible repeat (first | apply Kd.S_alloc | apply Kd.S_drewN | apply Kd.S_drew)); exact HO290.out⟩, ⟨by repeat (first | (with_reducible first | exact HB.out | apply below_alloc | apply pw_below_drewN | apply below_drew1) | exact HB.out)⟩⟩
                · rw [if_neg c14] at H
                  exact absurd H (by simp)
              · rw [if_neg c12] at H
                exact absurd H (by simp)
            · rw [if_neg c11] at H
              exact absurd H (by simp)
          · rw [if_neg c10] at H
            have c10b0 : decide (x12_1 < (l2.length : Int)) = false := decide_eq_false c10
            clear c10
            simp only [Option.some.injEq, Prod.mk.injEq] at H
            obtain ⟨rfl, rfl⟩ := H
            go_wp2
            go_ret2
            exact ⟨_, by first | rfl | (simp [errW_none, errW_some] <;> rfl) | (simp [*, errW_none, errW_some] <;> rfl), by (with_reducible repeat (first | apply Kd.S_alloc | apply Kd.S_drewN | apply Kd.S_drew)); exact Kd.S_mono HO_11.out (fun _ hk => trivial), by repeat (first | (with_reducible first | exact HB.out | apply below_alloc | apply pw_below_drewN | apply below_drew1) | exact HB.out)⟩
    · rw [if_neg c7] at H
      have c7b0 : (t282 == 0) = false := beq_eq_false_iff_ne.mpr c7
      have c7b1 : (t282 != 0) = true := bne_iff_ne.mpr c7
      simp only [Option.some.injEq, Prod.mk.injEq] at H
      obtain ⟨rfl, rfl⟩ := H
      go_enter Try.func10, Try.ntmps10
      go_wp2_with (first | ((with_reducible refine gate_callee (f := 27) rfl ?_); refine goesL_ (some 16) rfl rfl Try.func27 (by kernel_rfl) rfl #[.slice A0 l0.length c0, .slice A1 l1.length c1] rfl (by (try simp only [List.map_toArray, List.map_cons, List.map_nil]); first | done | rfl | (simp only [List.length_drop, List.length_take]; rfl)) ?_; (with_reducible refine (standbyref07_Differ.calls k _ _ l0 _ _ l1 t278 t279 _ ?side1 ?side2 ?side3 ?side4 A4.out).mono ?_); (case side1 => repeat (first | exact HR0.out | (with_reducible refine Kd.C_alloc ?_ _) | (with_reducible refine Kd.C_drewN ?_ _) | (with_reducible refine Kd.C_drew ?_))); (case side2 => exact HC0.out); (case side3 => repeat (first | exact HR1.out | (with_reducible refine Kd.C_alloc ?_ _) | (with_reducible refine Kd.C_drewN ?_ _) | (with_reducible refine Kd.C_drew ?_))); (case side4 => exact HC1.out); rintro e w20 ⟨v280, rfl, ho0, hb⟩; refine ⟨_, rfl, ?_⟩; have n0_ := Aside0.mk (Kd.S_lower ho0 (below_size (by repeat (first | (with_reducible first | exact HB.out | apply below_alloc | apply pw_below_drewN | apply below_drew1) | exact HB.out)))); have n1_ := Aside0.mk (below_step (by repeat (first | (with_reducible first | exact HB.out | apply below_alloc | apply pw_below_drewN | apply below_drew1) | exact HB.out)) hb); clear HB; have HO281 := n0_; have HB := n1_; clear n0_ n1_; (try clear hb); (try clear hb2); (try clear hk); (try clear hi); (try clear ho0)) | ((with_reducible refine gate_callee (f := 28) rfl ?_); refine goesL_ (some 24) rfl rfl Try.func28 (by kernel_rfl) rfl #[.slice A0 l0.length c0, .slice A2 l2.length c2] rfl (by (try simp only [List.map_toArray, List.map_cons, List.map_nil]); first | done | rfl | (simp only [List.length_drop, List.length_take]; rfl)) ?_; (with_reducible refine (standbyref45_Fit.calls k _ _ l0 _ _ l2 t282 _ ?side1 ?side2 ?side3 ?side4 A6.out).mono ?_); (case side1 => repeat (first | exact (Kd.C_below HR0.out HB.out) | (with_reducible refine Kd.C_alloc ?_ _) | (with_reducible refine Kd.C_drewN ?_ _) | (with_reducible refine Kd.C_drew ?_))); (case side2 => exact HC0.out); (case side3 => repeat (first | exact (Kd.C_below HR2.out HB.out) | (with_reducible refine Kd.C_alloc ?_ _) | (with_reducible refine Kd.C_drewN ?_ _) | (with_reducible refine Kd.C_drew ?_))); (case side4 => exact HC2.out); rintro e w21 ⟨rfl, hb⟩; refine ⟨_, rfl, ?_⟩; have n0_ := Aside0.mk (Kd.S_below (by (with_reducible repeat (first | apply Kd.S_alloc | apply Kd.S_drewN | apply Kd.S_drew)); exact HO281.out) hb); have n1_ := Aside0.mk (below_step (by repeat (first | (with_reducible first | exact HB.out | apply below_alloc | apply pw_below_drewN | apply below_drew1) | exact HB.out)) hb); clear HO281; clear HB; have HO281 := n0_; have HB := n1_; clear n0_ n1_; (try clear hb); (try clear hb2); (try clear hk); (try clear hi)))
      go_ret2
      exact ⟨_, by first | rfl | (simp [errW_none, errW_some] <;> rfl) | (simp [*, errW_none, errW_some] <;> rfl), by first | exact Kd.S_nil _ _ _ _ _ | exact Kd.N_nil _ _ _ _ _ | exact Kd.V_nil _ _ _ _ _ | exact Kd.Q_nil _ _ _ _ _ | exact Kd.R_nil _ _ _ _ _, by repeat (first | (with_reducible first | exact HB.out | apply below_alloc | apply pw_below_drewN | apply below_drew1) | exact HB.out)⟩
  · rw [if_neg c5] at H
    have c5b0 : (t279 == 0) = false := beq_eq_false_iff_ne.mpr c5
    have c5b1 : (t279 != 0) = true := bne_iff_ne.mpr c5
    simp only [Option.some.injEq, Prod.mk.injEq] at H
    obtain ⟨rfl, rfl⟩ := H
    go_enter Try.func10, Try.ntmps10
    go_wp2_with (first | ((with_reducible refine gate_callee (f := 27) rfl ?_); refine goesL_ (some 16) rfl rfl Try.func27 (by kernel_rfl) rfl #[.slice A0 l0.length c0, .slice A1 l1.length c1] rfl (by (try simp only [List.map_toArray, List.map_cons, List.map_nil]); first | done | rfl | (simp only [List.length_drop, List.length_take]; rfl)) ?_; (with_reducible refine (standbyref07_Differ.calls k _ _ l0 _ _ l1 t278 t279 _ ?side1 ?side2 ?side3 ?side4 A4.out).mono ?_); (case side1 => repeat (first | exact HR0.out | (with_reducible refine Kd.C_alloc ?_ _) | (with_reducible refine Kd.C_drewN ?_ _) | (with_reducible refine Kd.C_drew ?_))); (case side2 => exact HC0.out); (case side3 => repeat (first | exact HR1.out | (with_reducible refine Kd.C_alloc ?_ _) | (with_reducible refine Kd.C_drewN ?_ _) | (with_reducible refine Kd.C_drew ?_))); (case side4 => exact HC1.out); rintro e w22 ⟨v280, rfl, ho0, hb⟩; refine ⟨_, rfl, ?_⟩; have n0_ := Aside0.mk (Kd.S_lower ho0 (below_size (by repeat (first | (with_reducible first | exact HB.out | apply below_alloc | apply pw_below_drewN | apply below_drew1) | exact HB.out)))); have n1_ := Aside0.mk (below_step (by repeat (first | (with_reducible first | exact HB.out | apply below_alloc | apply pw_below_drewN | apply below_drew1) | exact HB.out)) hb); clear HB; have HO281 := n0_; have HB := n1_; clear n0_ n1_; (try clear hb); (try clear hb2); (try clear hk); (try clear hi); (try clear ho0)))
    go_ret2
    exact ⟨_, by first | rfl | (simp [errW_none, errW_some] <;> rfl) | (simp [*, errW_none, errW_some] <;> rfl), by first | exact Kd.S_nil _ _ _ _ _ | exact Kd.N_nil _ _ _ _ _ | exact Kd.V_nil _ _ _ _ _ | exact Kd.Q_nil _ _ _ _ _ | exact Kd.R_nil _ _ _ _ _, by repeat (first | (with_reducible first | exact HB.out | apply below_alloc | apply pw_below_drewN | apply below_drew1) | exact HB.out)⟩
def standbyref01_Same.l0 : Nat → List (S54) → List (S54) → Int → Option (Bool)
  | 0, _, _, _ => none
  | k + 1, x0, x1, x5 => if x5 < (x0.length : Int) then (if 0 ≤ x5 then (if x5 < (x1.length : Int) then (if (!(((rd_T54 x0 x5).f0) == ((rd_T54 x1 x5).f0)) || (!(((rd_T54 x0 x5).f1) == ((rd_T54 x1 x5).f1)))) = true then (some false) else (standbyref01_Same.l0 k x0 x1 (wrap64 (x5 + 1)))) else (none)) else (none)) else (some true)
def standbyref01_Same.f (k : Nat) (l0 : List (S54)) (l1 : List (S54)) : Option (Bool) := if (l0.length : Int) = (l1.length : Int) then (standbyref01_Same.l0 k l0 l1 0) else (some false)
set_option maxHeartbeats 8000000 in
set_option maxRecDepth 100000 in
theorem standbyref01_Same.calls (k : Nat) (A0 : Option Addr) (c0 : Nat) (l0 : List (S54)) (A1 : Option Addr) (c1 : Nat) (l1 : List (S54)) (r : Bool) (w : World) (hr0 : Kd.C k54 w A0 l0.length l0) (hc0 : l0.length ≤ c0) (hr1 : Kd.C k54 w A1 l1.length l1) (hc1 : l1.length ≤ c1) (h : standbyref01_Same.f k l0 l1 = some r) :
    Calls Try.prog 33 #[.slice A0 l0.length c0, .slice A1 l1.length c1] w fun e w' => e = .returned (.bool r) ∧ Drawn0 w w' := by
  have hu54 := Try.underlying54
  have HR0 := Aside0.mk hr0
  have HC0 := Aside0.mk hc0
  clear hr0 hc0
  have HR1 := Aside0.mk hr1
  have HC1 := Aside0.mk hc1
  clear hr1 hc1
  have H : (if (l0.length : Int) = (l1.length : Int) then (standbyref01_Same.l0 k l0 l1 0) else (some false)) = some r := h
  clear h
  by_cases c3 : (l0.length : Int) = (l1.length : Int)
  · rw [if_pos c3] at H
    have c3b0 : ((l0.length : Int) == (l1.length : Int)) = true := beq_iff_eq.mpr c3
    have c3b1 : ((l0.length : Int) != (l1.length : Int)) = false := bne_eq_false_iff_eq.mpr c3
    have c3b2 : (l0.length == l1.length) = true := by first | simpa using c3 | (simp at c3 ⊢; omega)
    clear c3
    have H' := Aside0.mk H
    clear H
    go_enter Try.func33, Try.ntmps33
    go_wp2
    repeat (go_quiet (fail); try go_wp2)
    go_loopg [5] k (fun kq v5 w' => ∃ (x5_1 : Int), v5 = .int .i64 x5_1 ∧ Aside0 (standbyref01_Same.l0 kq l0 l1 x5_1 = some r) ∧ Aside0 (kq ≤ k) ∧ Drawn0 w w')
    case atStart => exact ⟨(0), (by first | rfl | (simp; done) | (simp [*]; done)), H', ⟨Nat.le_refl _⟩, by repeat (first | exact Drawn0.refl _ | apply Drawn0.step)⟩
    case round =>
      clear H'
      try clear c1
      try clear p2
      try clear c3
      try clear c3b0
      try clear c3b1
      try clear c3b2
      obtain ⟨x5_1, rfl, HA, HK1, ⟨m1, rfl⟩⟩ := hrel
      cases gk with
      | zero => exact absurd HA.out (by simp [standbyref01_Same.l0])
      | succ k1 =>
        have H := HA.out
        clear HA
        simp only [standbyref01_Same.l0] at H
        by_cases c4 : x5_1 < (l0.length : Int)
        · rw [if_pos c4] at H
          have c4b0 : decide (x5_1 < (l0.length : Int)) = true := decide_eq_true c4
          clear c4
          by_cases c5 : 0 ≤ x5_1
          · rw [if_pos c5] at H
            have c5b0 : decide (0 ≤ x5_1) = true := decide_eq_true c5
            clear c5
            by_cases c6 : x5_1 < (l1.length : Int)
            · rw [if_pos c6] at H
              have c6b0 : decide (x5_1 < (l1.length : Int)) = true := decide_eq_true c6
              clear c6
              by_cases c7 : (!(((rd_T54 l0 x5_1).f0) == ((rd_T54 l1 x5_1).f0)) || (!(((rd_T54 l0 x5_1).f1) == ((rd_T54 l1 x5_1).f1)))) = true
              · rw [if_pos c7] at H
                have c7b0 : (!(((rd_T54 l0 x5_1).f0) == ((rd_T54 l1 x5_1).f0)) || (!(((rd_T54 l0 x5_1).f1) == ((rd_T54 l1 x5_1).f1)))) = true := c7
                clear c7
                obtain rfl := Option.some.inj H
                have p291 : 0 ≤ (x5_1 : Int) := of_decide_eq_true (by first | (with_reducible assumption) | assumption)
                have q291 : x5_1 < (l0.length : Int) := of_decide_eq_true (by first | (with_reducible assumption) | assumption)
                obtain ⟨ad291, e291, hx291_0, hx291_1⟩ := at_T54 HR0.out x5_1 p291 q291
                cases e291
                replace p291 := eq_true p291
                replace q291 := eq_true q291
                have p292 : 0 ≤ (x5_1 : Int) := of_decide_eq_true (by first | (with_reducible assumption) | assumption)
                have q292 : x5_1 < (l1.length : Int) := of_decide_eq_true (by first | (with_reducible assumption) | assumption)
                obtain ⟨ad292, e292, hx292_0, hx292_1⟩ := at_T54 HR1.out x5_1 p292 q292
                cases e292
                replace p292 := eq_true p292
                replace q292 := eq_true q292
                go_wp2
                repeat (go_quiet (fail); try go_wp2)
                go_ret
                exact ⟨by first | rfl | (simp; done) | (simp [*]; done), by repeat (first | exact Drawn0.refl _ | apply Drawn0.step)⟩
              · rw [if_neg c7] at H
                have c7b0 : (!(((rd_T54 l0 x5_1).f0) == ((rd_T54 l1 x5_1).f0)) || (!(((rd_T54 l0 x5_1).f1) == ((rd_T54 l1 x5_1).f1)))) = false := by simpa using c7
                clear c7
                have H' := Aside0.mk H
                clear H
                have p291 : 0 ≤ (x5_1 : Int) := of_decide_eq_true (by first | (with_reducible assumption) | assumption)
                have q291 : x5_1 < (l0.length : Int) := of_decide_eq_true (by first | (with_reducible assumption) | assumption)
                obtain ⟨ad291, e291, hx291_0, hx291_1⟩ := at_T54 HR0.out x5_1 p291 q291
                cases e291
                replace p291 := eq_true p291
                replace q291 := eq_true q291
                have p292 : 0 ≤ (x5_1 : Int) := of_decide_eq_true (by first | (with_reducible assumption) | assumption)
                have q292 : x5_1 < (l1.length : Int) := of_decide_eq_true (by first | (with_reducible assumption) | assumption)
                obtain ⟨ad292, e292, hx292_0, hx292_1⟩ := at_T54 HR1.out x5_1 p292 q292
                cases e292
                replace p292 := eq_true p292
                replace q292 := eq_true q292
                go_wp2
                repeat (go_quiet (fail); try go_wp2)
                go_roundg k1
                case measure => have := HK1.out; omega
                case rel => exact ⟨(wrap64 (x5_1 + 1)), (by first | rfl | (simp; done) | (simp [*]; done)), H', ⟨by have := HK1.out; omega⟩, by repeat (first | exact Drawn0.refl _ | apply Drawn0.step)⟩
            · rw [if_neg c6] at H
              exact absurd H (by simp)
          · rw [if_neg c5] at H
            exact absurd H (by simp)
        · rw [if_neg c4] at H
          have c4b0 : decide (x5_1 < (l0.length : Int)) = false := decide_eq_false c4
          clear c4
          obtain rfl := Option.some.inj H
          go_wp2
          repeat (go_quiet (fail); try go_wp2)
          go_ret
          exact ⟨by first | rfl | (simp; done) | (simp [*]; done), by repeat (first | exact Drawn0.refl _ | apply Drawn0.step)⟩
  · rw [if_neg c3] at H
    have c3b0 : ((l0.length : Int) == (l1.length : Int)) = false := beq_eq_false_iff_ne.mpr c3
    have c3b1 : ((l0.length : Int) != (l1.length : Int)) = true := bne_iff_ne.mpr c3
    have c3b2 : (l0.length == l1.length) = false := by first | simpa using c3 | (simp at c3 ⊢; omega)
    obtain rfl := Option.some.inj H
    go_enter Try.func33, Try.ntmps33
    go_wp2
    repeat (go_quiet (fail); try go_wp2)
    go_ret
    exact ⟨by first | rfl | (simp; done) | (simp [*]; done), by repeat (first | exact Drawn0.refl _ | apply Drawn0.step)⟩
end Go.Proofs.Ytoichhdbomcdaaa.Pq
end
