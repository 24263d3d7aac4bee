import Derived.Test.YtoichhdbomcdaaaQN6
section
namespace Go.Proofs.Ytoichhdbomcdaaa.Pq
open Go.RowKit Go.Proofs.YtoichhdbomcdaaaW.PrintWords Go.Proofs.YtoichhdbomcdaaaW.PrintLast Go.Proofs.YtoichhdbomcdaaaW.PrintMore
attribute [local go_sem] max2_int min2_int max_two min_two max_three min_three max_four min_four
set_option linter.unusedVariables false
set_option linter.unusedSimpArgs false
def standbyref45_Exact.l0 : Nat → List (List (S54)) → List (List (S54)) → Int → Option (Bool × Int)
  | 0, _, _, _ => none
  | k + 1, x2, x10, x12 => if x12 < (x2.length : Int) then (if 0 ≤ x12 then (if x12 < (x10.length : Int) then ((standbyref01_Same.f k (rd_L7 x10 x12) (rd_L7 x2 x12)).bind fun t303 => (if t303 = true then (standbyref45_Exact.l0 k x2 x10 (wrap64 (x12 + 1))) else (some (false, 0)))) else (none)) else (none)) else (some (true, 0))
def standbyref45_Exact.f (k : Nat) (l0 : List (List (S52))) (l1 : List (List (S52))) (l2 : List (List (S54))) : Option (Bool × Int) := (standbyref45_Needed.f k l0 l1 l2).bind fun bt293 => (if bt293.2 = 0 then ((standbyref07_Differ.f k l0 l1).bind fun bt297 => (standbyref45_Exact.l0 k l2 bt297.1 0)) else (some (false, bt293.2)))
set_option maxHeartbeats 8000000 in
set_option maxRecDepth 100000 in
theorem standbyref45_Exact.calls (k : Nat) (A0 : Option Addr) (c0 : Nat) (l0 : List (List (S52))) (A1 : Option Addr) (c1 : Nat) (l1 : List (List (S52))) (A2 : Option Addr) (c2 : Nat) (l2 : List (List (S54))) (r1 : Bool) (r2 : Int) (w : World) (hr0 : Kd.C (Kd.slice 52 k52) w A0 l0.length l0) (hc0 : l0.length ≤ c0) (hr1 : Kd.C (Kd.slice 52 k52) w A1 l1.length l1) (hc1 : l1.length ≤ c1) (hr2 : Kd.C (Kd.slice 54 k54) w A2 l2.length l2) (hc2 : l2.length ≤ c2) (h : standbyref45_Exact.f k l0 l1 l2 = some (r1, r2)) :
    Calls Try.prog 12 #[.slice A0 l0.length c0, .slice A1 l1.length c1, .slice A2 l2.length c2] w fun e w' => e = .returned (.tuple #[.bool r1, .int .i64 r2]) ∧ Below w.heap.size w w' := by
  have HR0 := Aside0.mk hr0
  have HC0 := Aside0.mk hc0
  clear hr0 hc0
  have HR1 := Aside0.mk hr1
  have HC1 := Aside0.mk hc1
  clear hr1 hc1
  have HR2 := Aside0.mk hr2
  have HC2 := Aside0.mk hc2
  clear hr2 hc2
  have HB := Aside0.mk (Below.refl w.heap.size w)
  have H : ((standbyref45_Needed.f k l0 l1 l2).bind fun bt293 => (if bt293.2 = 0 then ((standbyref07_Differ.f k l0 l1).bind fun bt297 => (standbyref45_Exact.l0 k l2 bt297.1 0)) else (some (false, bt293.2)))) = some (r1, r2) := h
  clear h
  replace H := Option.bind_eq_some_iff.mp H
  obtain ⟨⟨t293, t294⟩, A40, H⟩ := H
  replace H : (if t294 = 0 then ((standbyref07_Differ.f k l0 l1).bind fun bt297 => (standbyref45_Exact.l0 k l2 bt297.1 0)) else (some (false, t294))) = some (r1, r2) := H
  have A4 := Aside0.mk A40
  clear A40
  by_cases c5 : t294 = 0
  · rw [if_pos c5] at H
    have c5b0 : (t294 == 0) = true := beq_iff_eq.mpr c5
    have c5b1 : (t294 != 0) = false := bne_eq_false_iff_eq.mpr c5
    clear c5
    replace H := Option.bind_eq_some_iff.mp H
    obtain ⟨⟨t297, t298⟩, A60, H⟩ := H
    replace H : (standbyref45_Exact.l0 k l2 t297 0) = some (r1, r2) := H
    have A6 := Aside0.mk A60
    clear A60
    have H' := Aside0.mk H
    clear H
    go_enter Try.func12, Try.ntmps12
    go_wp2_with (first | (go_at_call 10; (with_reducible refine (standbyref45_Needed.calls k _ _ l0 _ _ l1 _ _ l2 t293 t294 _ ?side1 ?side2 ?side3 ?side4 ?side5 ?side6 A4.out).mono ?_); (case side1 => repeat (first | exact HR0.out | (with_reducible refine Kd.C_alloc ?_ _) | (with_reducible refine Kd.C_drewN ?_ _) | (with_reducible refine Kd.C_drew ?_))); (case side2 => exact HC0.out); (case side3 => repeat (first | exact HR1.out | (with_reducible refine Kd.C_alloc ?_ _) | (with_reducible refine Kd.C_drewN ?_ _) | (with_reducible refine Kd.C_drew ?_))); (case side4 => exact HC1.out); (case side5 => repeat (first | exact HR2.out | (with_reducible refine Kd.C_alloc ?_ _) | (with_reducible refine Kd.C_drewN ?_ _) | (with_reducible refine Kd.C_drew ?_))); (case side6 => exact HC2.out); rintro e w7 ⟨v295, rfl, ho0, hb⟩; have n0_ := Aside0.mk (Kd.S_lower ho0 (below_size (by repeat (first | (with_reducible first | exact HB.out | apply below_alloc | apply pw_below_drewN | apply below_drew1) | exact HB.out)))); have n1_ := Aside0.mk (below_step (by repeat (first | (with_reducible first | exact HB.out | apply below_alloc | apply pw_below_drewN | apply below_drew1) | exact HB.out)) hb); clear HB; have HO296 := n0_; have HB := n1_; clear n0_ n1_; (try clear hb); (try clear hb2); (try clear hk); (try clear hi); (try clear ho0)) | (go_at_call 27; (with_reducible refine (standbyref07_Differ.calls k _ _ l0 _ _ l1 t297 t298 _ ?side1 ?side2 ?side3 ?side4 A6.out).mono ?_); (case side1 => repeat (first | exact (Kd.C_below HR0.out HB.out) | (with_reducible refine Kd.C_alloc ?_ _) | (with_reducible refine Kd.C_drewN ?_ _) | (with_reducible refine Kd.C_drew ?_))); (case side2 => exact HC0.out); (case side3 => repeat (first | exact (Kd.C_below HR1.out HB.out) | (with_reducible refine Kd.C_alloc ?_ _) | (with_reducible refine Kd.C_drewN ?_ _) | (with_reducible refine Kd.C_drew ?_))); (case side4 => exact HC1.out); rintro e w8 ⟨v299, rfl, ho0, hb⟩; have n0_ := Aside0.mk (Kd.S_elder' (by (with_reducible repeat (first | apply Kd.S_alloc | apply Kd.S_drewN | apply Kd.S_drew)); exact HO296.out) (Kd.S_base ho0) hb); have n1_ := Aside0.mk (Kd.S_lower (Kd.S_new' ho0 (Kd.S_lt (by (with_reducible repeat (first | apply Kd.S_alloc | apply Kd.S_drewN | apply Kd.S_drew)); exact HO296.out))) (below_size (by repeat (first | (with_reducible first | exact HB.out | apply below_alloc | apply pw_below_drewN | apply below_drew1) | exact HB.out)))); have n2_ := Aside0.mk (below_step (by repeat (first | (with_reducible first | exact HB.out | apply below_alloc | apply pw_below_drewN | apply below_drew1) | exact HB.out)) hb); clear HO296; clear HB; have HO296 := n0_; have HO300 := n1_; have HB := n2_; clear n0_ n1_ n2_; (try clear hb); (try clear hb2); (try clear hk); (try clear hi); (try clear ho0)))
    repeat (go_quiet (first | (go_at_call 10; (with_reducible refine (standbyref45_Needed.calls k _ _ l0 _ _ l1 _ _ l2 t293 t294 _ ?side1 ?side2 ?side3 ?side4 ?side5 ?side6 A4.out).mono ?_); (case side1 => repeat (first | exact HR0.out | (with_reducible refine Kd.C_alloc ?_ _) | (with_reducible refine Kd.C_drewN ?_ _) | (with_reducible refine Kd.C_drew ?_))); (case side2 => exact HC0.out); (case side3 => repeat (first | exact HR1.out | (with_reducible refine Kd.C_alloc ?_ _) | (with_reducible refine Kd.C_drewN ?_ _) | (with_reducible refine Kd.C_drew ?_))); (case side4 => exact HC1.out); (case side5 => repeat (first | exact HR2.out | (with_reducible refine Kd.C_alloc ?_ _) | (with_reducible refine Kd.C_drewN ?_ _) | (with_reducible refine Kd.C_drew ?_))); (case side6 => exact HC2.out); rintro e w7 ⟨v295, rfl, ho0, hb⟩; have n0_ := Aside0.mk (Kd.S_lower ho0 (below_size (by repeat (first | (with_reducible first | exact HB.out | apply below_alloc | apply pw_below_drewN | apply below_drew1) | exact HB.out)))); have n1_ := Aside0.mk (below_step (by repeat (first | (with_reducible first | exact HB.out | apply below_alloc | apply pw_below_drewN | apply below_drew1) | exact HB.out)) hb); clear HB; have HO296 := n0_; have HB := n1_; clear n0_ n1_; (try clear hb); (try clear hb2); (try clear hk); (try clear hi); (try clear ho0)) | (go_at_call 27; (with_reducible refine (standbyref07_Differ.calls k _ _ l0 _ _ l1 t297 t298 _ ?side1 ?side2 ?side3 ?side4 A6.out).mono ?_); (case side1 => repeat (first | exact (Kd.C_below HR0.out HB.out) | (with_reducible refine Kd.C_alloc ?_ _) | (with_reducible refine Kd.C_drewN ?_ _) | (with_reducible refine Kd.C_drew ?_))); (case side2 => exact HC0.out); (case side3 => repeat (first | exact (Kd.C_below HR1.out HB.out) | (with_reducible refine Kd.C_alloc ?_ _) | (with_reducible refine Kd.C_drewN ?_ _) | (with_reducible refine Kd.C_drew ?_))); (case side4 => exact HC1.out); rintro e w8 ⟨v299, rfl, ho0, hb⟩; have n0_ := Aside0.mk (Kd.S_elder' (by (with_reducible repeat (first | apply Kd.S_alloc | apply Kd.S_drewN | apply Kd.S_drew)); exact HO296.out) (Kd.S_base ho0) hb); have n1_ := Aside0.mk (Kd.S_lower (Kd.S_new' ho0 (Kd.S_lt (by (with_reducible repeat (first | apply Kd.S_alloc | apply Kd.S_drewN | apply Kd.S_drew)); exact HO296.out))) (below_size (by repeat (first | (with_reducible first | exact HB.out | apply below_alloc | apply pw_below_drewN | apply below_drew1) | exact HB.out)))); have n2_ := Aside0.mk (below_step (by repeat (first | (with_reducible first | exact HB.out | apply below_alloc | apply pw_below_drewN | apply below_drew1) | exact HB.out)) hb); clear HO296; clear HB; have HO296 := n0_; have HO300 := n1_; have HB := n2_; clear n0_ n1_ n2_; (try clear hb); (try clear hb2); (try clear hk); (try clear hi); (try clear ho0))); try go_wp2_with (first | (go_at_call 10; (with_reducible refine (standbyref45_Needed.calls k _ _ l0 _ _ l1 _ _ l2 t293 t294 _ ?side1 ?side2 ?side3 ?side4 ?side5 ?side6 A4.out).mono ?_); (case side1 => repeat (first | exact HR0.out | (with_reducible refine Kd.C_alloc ?_ _) | (with_reducible refine Kd.C_drewN ?_ _) | (with_reducible refine Kd.C_drew ?_))); (case side2 => exact HC0.out); (case side3 => repeat (first | exact HR1.out | (with_reducible refine Kd.C_alloc ?_ _) | (with_reducible refine Kd.C_drewN ?_ _) | (with_reducible refine Kd.C_drew ?_))); (case side4 => exact HC1.out); (case side5 => repeat (first | exact HR2.out | (with_reducible refine Kd.C_alloc ?_ _) | (with_reducible refine Kd.C_drewN ?_ _) | (with_reducible refine Kd.C_drew ?_))); (case side6 => exact HC2.out); rintro e w7 ⟨v295, rfl, ho0, hb⟩; have n0_ := Aside0.mk (Kd.S_lower ho0 (below_size (by repeat (first | (with_reducible first | exact HB.out | apply below_alloc | apply pw_below_drewN | apply below_drew1) | exact HB.out)))); have n1_ := Aside0.mk (below_step (by repeat (first | (with_reducible first | exact HB.out | apply below_alloc | apply pw_below_drewN | apply below_drew1) | exact HB.out)) hb); clear HB; have HO296 := n0_; have HB := n1_; clear n0_ n1_; (try clear hb); (try clear hb2); (try clear hk); (try clear hi); (try clear ho0)) | (go_at_call 27; (with_reducible refine (standbyref07_Differ.calls k _ _ l0 _ _ l1 t297 t298 _ ?side1 ?side2 ?side3 ?side4 A6.out).mono ?_); (case side1 => repeat (first | exact (Kd.C_below HR0.out HB.out) | (with_reducible refine Kd.C_alloc ?_ _) | (with_reducible refine Kd.C_drewN ?_ _) | (with_reducible refine Kd.C_drew ?_))); (case side2 => exact HC0.out); (case side3 => repeat (first | exact (Kd.C_below HR1.out HB.out) | (with_reducible refine Kd.C_alloc ?_ _) | (with_reducible refine Kd.C_drewN ?_ _) | (with_reducible refine Kd.C_drew ?_))); (case side4 => exact HC1.out); rintro e w8 ⟨v299, rfl, ho0, hb⟩; have n0_ := Aside0.mk (Kd.S_elder' (by (with_reducible repeat (first | apply Kd.S_alloc | apply Kd.S_drewN | apply Kd.S_drew)); exact HO296.out) (Kd.S_base ho0) hb); have n1_ := Aside0.mk (Kd.S_lower (Kd.S_new' ho0 (Kd.S_lt (by (with_reducible repeat (first | apply Kd.S_alloc | apply Kd.S_drewN | apply Kd.S_drew)); exact HO296.out))) (below_size (by repeat (first | (with_reducible first | exact HB.out | apply below_alloc | apply pw_below_drewN | apply below_drew1) | exact HB.out)))); have n2_ := Aside0.mk (below_step (by repeat (first | (with_reducible first | exact HB.out | apply below_alloc | apply pw_below_drewN | apply below_drew1) | exact HB.out)) hb); clear HO296; clear HB; have HO296 := n0_; have HO300 := n1_; have HB := n2_; clear n0_ n1_ n2_; (try clear hb); (try clear hb2); (try clear hk); (try clear hi); (try clear ho0))))
    go_loopg [12] k (fun kq v12 w' => ∃ (x12_1 : Int), v12 = .int .i64 x12_1 ∧ Aside0 (standbyref45_Exact.l0 kq l2 t297 x12_1 = some (r1, r2)) ∧ Aside0 (kq ≤ k) ∧ Aside0 (Kd.S (Kd.slice 54 k54) 50 w' w.heap.size (fun _ => True) v299 t297) ∧ Aside0 (Below w.heap.size w w'))
    case atStart => exact ⟨(0), (by first | rfl | (simp; done) | (simp [*]; done)), H', ⟨Nat.le_refl _⟩, ⟨by (with_reducible repeat (first | apply Kd.S_alloc | apply Kd.S_drewN | apply Kd.S_drew)); exact Kd.S_mono HO300.out (fun _ hk => trivial)⟩, ⟨by repeat (first | (with_reducible first | exact HB.out | apply below_alloc | apply pw_below_drewN | apply below_drew1) | exact HB.out)⟩⟩
    case round =>
      clear H'
      try clear c1
      try clear c2
      try clear p2
      try clear c5
      try clear c5b0
      try clear c5b1
      obtain ⟨x12_1, rfl, HA, HK1, HO_10, HB⟩ := hrel
      cases gk with
      | zero => exact absurd HA.out (by simp [standbyref45_Exact.l0])
      | succ k1 =>
        have H := HA.out
        clear HA
        simp only [standbyref45_Exact.l0] at H
        by_cases c9 : x12_1 < (l2.length : Int)
        · rw [if_pos c9] at H
          have c9b0 : decide (x12_1 < (l2.length : Int)) = true := decide_eq_true c9
          clear c9
          by_cases c10 : 0 ≤ x12_1
          · rw [if_pos c10] at H
            have c10b0 : decide (0 ≤ x12_1) = true := decide_eq_true c10
            clear c10
            by_cases c11 : x12_1 < (t297.length : Int)
            · rw [if_pos c11] at H
              have c11b0 : decide (x12_1 < (t297.length : Int)) = true := decide_eq_true c11
              clear c11
              replace H := Option.bind_eq_some_iff.mp H
              obtain ⟨t303, A120, H⟩ := H
              replace H : (if t303 = true then (standbyref45_Exact.l0 k1 l2 t297 (wrap64 (x12_1 + 1))) else (some (false, 0))) = some (r1, r2) := H
              have A12 := Aside0.mk A120
              clear A120
              by_cases c13 : t303 = true
              · subst c13
                have H1 : (standbyref45_Exact.l0 k1 l2 t297 (wrap64 (x12_1 + 1))) = some (r1, r2) := by rw [if_pos rfl] at H; exact H
                clear H
                have H := H1
                clear H1
                have H' := Aside0.mk H
                clear H
                obtain ⟨Ao14, co14, eo14⟩ := Kd.S_slice HO_10.out
                subst eo14
                have p301 : 0 ≤ (x12_1 : Int) := of_decide_eq_true (by first | (with_reducible assumption) | assumption)
                have q301 : x12_1 < (t297.length : Int) := of_decide_eq_true (by first | (with_reducible assumption) | assumption)
                obtain ⟨ad301, A301_0, c301_0, e301, hx301_0, hl301_0, hi301_0⟩ := at_L7 (Kd.S_reads' HO_10.out).2.2 x12_1 p301 q301
                cases e301
                obtain ⟨ce301, hce301, hMe301, hcc301⟩ := Kd.S_get HO_10.out [] x12_1 p301 (by first | exact q301 | exact of_decide_eq_true (by first | (with_reducible assumption) | assumption) | (have e_ := (Kd.S_reads' HO_10.out).1; omega))
                obtain ⟨ve301_0, rfl, ge301_0⟩ := hMe301
                have hv301_0 := hcc301 0 _ rfl
                rw [Nat.add_zero, show ((Kd.slice 54 k54)).sz = 1 from rfl, Nat.mul_one] at hv301_0
                replace hv301_0 := Option.some.inj (hv301_0.symm.trans hx301_0)
                rw [hv301_0] at ge301_0
                have HL301_0 := Aside0.mk (show Kd.R k54 54 _ _ _ _ (rd_L7 t297 x12_1) from ge301_0)
                clear hv301_0 ge301_0
                clear hcc301 hce301
                have HR301_0 := Aside0.mk hi301_0
                have HC301_0 := Aside0.mk hl301_0
                clear hi301_0 hl301_0
                replace p301 := eq_true p301
                replace q301 := eq_true q301
                have p302 : 0 ≤ (x12_1 : Int) := of_decide_eq_true (by first | (with_reducible assumption) | assumption)
                have q302 : x12_1 < (l2.length : Int) := of_decide_eq_true (by first | (with_reducible assumption) | assumption)
                obtain ⟨ad302, A302_0, c302_0, e302, hx302_0, hl302_0, hi302_0⟩ := at_L7 HR2.out x12_1 p302 q302
                cases e302
                replace hx302_0 := (HB.out.cell (World.block_lt_of_cell? w _ hx302_0)).trans hx302_0
                have HR302_0 := Aside0.mk hi302_0
                have HC302_0 := Aside0.mk hl302_0
                clear hi302_0 hl302_0
                replace p302 := eq_true p302
                replace q302 := eq_true q302
                go_wp2_with (first | (go_at_call 33; (with_reducible refine (standbyref01_Same.calls k1 _ _ (rd_L7 t297 x12_1) _ _ (rd_L7 l2 x12_1) true _ ?side1 ?side2 ?side3 ?side4 A12.out).mono ?_); (case side1 => repeat (first | exact (by repeat (first | (with_reducible exact HR301_0.out) | (with_reducible refine Kd.C_alloc ?_ _) | (with_reducible refine Kd.C_drewN ?_ _) | (with_reducible refine Kd.C_drew ?_) | exact HR301_0.out)) | (with_reducible refine Kd.C_alloc ?_ _) | (with_reducible refine Kd.C_drewN ?_ _) | (with_reducible refine Kd.C_drew ?_))); (case side2 => exact HC301_0.out); (case side3 => repeat (first | exact (Kd.C_below HR302_0.out HB.out) | (with_reducible refine Kd.C_alloc ?_ _) | (with_reducible refine Kd.C_drewN ?_ _) | (with_reducible refine Kd.C_drew ?_))); (case side4 => exact HC302_0.out); rintro e w' ⟨rfl, ⟨nd, rfl⟩⟩; (try first | exact ⟨rfl, _, World.drewN_drewN _ _ _⟩ | exact ⟨rfl, _, Eq.trans (World.drewN_drewN _ _ _) (congrArg (World.drewN _) (Nat.add_assoc _ _ _))⟩)))
                repeat (go_quiet (first | (go_at_call 33; (with_reducible refine (standbyref01_Same.calls k1 _ _ (rd_L7 t297 x12_1) _ _ (rd_L7 l2 x12_1) true _ ?side1 ?side2 ?side3 ?side4 A12.out).mono ?_); (case side1 => repeat (first | exact (by repeat (first | (with_reducible exact HR301_0.out) | (with_reducible refine Kd.C_alloc ?_ _) | (with_reducible refine Kd.C_drewN ?_ _) | (with_reducible refine Kd.C_drew ?_) | exact HR301_0.out)) | (with_reducible refine Kd.C_alloc ?_ _) | (with_reducible refine Kd.C_drewN ?_ _) | (with_reducible refine Kd.C_drew ?_))); (case side2 => exact HC301_0.out); (case side3 => repeat (first | exact (Kd.C_below HR302_0.out HB.out) | (with_reducible refine Kd.C_alloc ?_ _) | (with_reducible refine Kd.C_drewN ?_ _) | (with_reducible refine Kd.C_drew ?_))); (case side4 => exact HC302_0.out); rintro e w' ⟨rfl, ⟨nd, rfl⟩⟩; (try first | exact ⟨rfl, _, World.drewN_drewN _ _ _⟩ | exact ⟨rfl, _, Eq.trans (World.drewN_drewN _ _ _) (congrArg (World.drewN _) (Nat.add_assoc _ _ _))⟩))); try go_wp2_with (first | (go_at_call 33; (with_reducible refine (standbyref01_Same.calls k1 _ _ (rd_L7 t297 x12_1) _ _ (rd_L7 l2 x12_1) true _ ?side1 ?side2 ?side3 ?side4 A12.out).mono ?_); (case side1 => repeat (first | exact (by repeat (first | (with_reducible exact HR301_0.out) | (with_reducible refine Kd.C_alloc ?_ _) | (with_reducible refine Kd.C_drewN ?_ _) | (with_reducible refine Kd.C_drew ?_) | exact HR301_0.out)) | (with_reducible refine Kd.C_alloc ?_ _) | (with_reducible refine Kd.C_drewN ?_ _) | (with_reducible refine Kd.C_drew ?_))); (case side2 => exact HC301_0.out); (case side3 => repeat (first | exact (Kd.C_below HR302_0.out HB.out) | (with_reducible refine Kd.C_alloc ?_ _) | (with_reducible refine Kd.C_drewN ?_ _) | (with_reducible refine Kd.C_drew ?_))); (case side4 => exact HC302_0.out); rintro e w' ⟨rfl, ⟨nd, rfl⟩⟩; (try first | exact ⟨rfl, _, World.drewN_drewN _ _ _⟩ | exact ⟨rfl, _, Eq.trans (World.drewN_drewN _ _ _) (congrArg (World.drewN _) (Nat.add_assoc _ _ _))⟩))))
                go_roundg k1
                case measure => have := HK1.out; omega
                case rel => exact ⟨(wrap64 (x12_1 + 1)), (by first | rfl | (simp; done) | (simp [*]; done)), H', ⟨by have := HK1.out; omega⟩, ⟨by (with_reducible repeat (first | apply Kd.S_alloc | apply Kd.S_drewN | apply Kd.S_drew)); exact HO_10.out⟩, ⟨by repeat (first | (with_reducible first | exact HB.out | apply below_alloc | apply pw_below_drewN | apply below_drew1) | exact HB.out)⟩⟩
              · replace c13 := Bool.eq_false_iff.mpr c13
                subst c13
                have H1 : (some (false, 0)) = some (r1, r2) := by rw [if_neg (show ¬ (false = true) by decide)] at H; exact H
                clear H
                have H := H1
                clear H1
                simp only [Option.some.injEq, Prod.mk.injEq] at H
                obtain ⟨rfl, rfl⟩ := H
                obtain ⟨Ao15, co15, eo15⟩ := Kd.S_slice HO_10.out
                subst eo15
                have p301 : 0 ≤ (x12_1 : Int) := of_decide_eq_true (by first | (with_reducible assumption) | assumption)
                have q301 : x12_1 < (t297.length : Int) := of_decide_eq_true (by first | (with_reducible assumption) | assumption)
                obtain ⟨ad301, A301_0, c301_0, e301, hx301_0, hl301_0, hi301_0⟩ := at_L7 (Kd.S_reads' HO_10.out).2.2 x12_1 p301 q301
                cases e301
                obtain ⟨ce301, hce301, hMe301, hcc301⟩ := Kd.S_get HO_10.out [] x12_1 p301 (by first | exact q301 | exact of_decide_eq_true (by first | (with_reducible assumption) | assumption) | (have e_ := (Kd.S_reads' HO_10.out).1; omega))
                obtain ⟨ve301_0, rfl, ge301_0⟩ := hMe301
                have hv301_0 := hcc301 0 _ rfl
                rw [Nat.add_zero, show ((Kd.slice 54 k54)).sz = 1 from rfl, Nat.mul_one] at hv301_0
                replace hv301_0 := Option.some.inj (hv301_0.symm.trans hx301_0)
                rw [hv301_0] at ge301_0
                have HL301_0 := Aside0.mk (show Kd.R k54 54 _ _ _ _ (rd_L7 t297 x12_1) from ge301_0)
                clear hv301_0 ge301_0
                clear hcc301 hce301
                have HR301_0 := Aside0.mk hi301_0
                have HC301_0 := Aside0.mk hl301_0
                clear hi301_0 hl301_0
                replace p301 := eq_true p301
                replace q301 := eq_true q301
                have p302 : 0 ≤ (x12_1 : Int) := of_decide_eq_true (by first | (with_reducible assumption) | assumption)
                have q302 : x12_1 < (l2.length : Int) := of_decide_eq_true (by first | (with_reducible assumption) | assumption)
                obtain ⟨ad302, A302_0, c302_0, e302, hx302_0, hl302_0, hi302_0⟩ := at_L7 HR2.out x12_1 p302 q302
                cases e302
                replace hx302_0 := (HB.out.cell (World.block_lt_of_cell? w _ hx302_0)).trans hx302_0
                have HR302_0 := Aside0.mk hi302_0
                have HC302_0 := Aside0.mk hl302_0
                clear hi302_0 hl302_0
                replace p302 := eq_true p302
                replace q302 := eq_true q302
                go_wp2_with (first | (go_at_call 33; (with_reducible refine (standbyref01_Same.calls k1 _ _ (rd_L7 t297 x12_1) _ _ (rd_L7 l2 x12_1) false _ ?side1 ?side2 ?side3 ?side4 A12.out).mono ?_); (case side1 => repeat (first | exact (by repeat (first | (with_reducible exact HR301_0.out) | (with_reducible refine Kd.C_alloc ?_ _) | (with_reducible refine Kd.C_drewN ?_ _) | (with_reducible refine Kd.C_drew ?_) | exact HR301_0.out)) | (with_reducible refine Kd.C_alloc ?_ _) | (with_reducible refine Kd.C_drewN ?_ _) | (with_reducible refine Kd.C_drew ?_))); (case side2 => exact HC301_0.out); (case side3 => repeat (first | exact (Kd.C_below HR302_0.out HB.out) | (with_reducible refine Kd.C_alloc ?_ _) | (with_reducible refine Kd.C_drewN ?_ _) | (with_reducible refine Kd.C_drew ?_))); (case side4 => exact HC302_0.out); rintro e w' ⟨rfl, ⟨nd, rfl⟩⟩; (try first | exact ⟨rfl, _, World.drewN_drewN _ _ _⟩ | exact ⟨rfl, _, Eq.trans (World.drewN_drewN _ _ _) (congrArg (World.drewN _) (Nat.add_assoc _ _ _))⟩)))
                repeat (go_quiet (first | (go_at_call 33; (with_reducible refine (standbyref01_Same.calls k1 _ _ (rd_L7 t297 x12_1) _ _ (rd_L7 l2 x12_1) false _ ?side1 ?side2 ?side3 ?side4 A12.out).mono ?_); (case side1 => repeat (first | exact (by repeat (first | (with_reducible exact HR301_0.out) | (with_reducible refine Kd.C_alloc ?_ _) | (with_reducible refine Kd.C_drewN ?_ _) | (with_reducible refine Kd.C_drew ?_) | exact HR301_0.out)) | (with_reducible refine Kd.C_alloc ?_ _) | (with_reducible refine Kd.C_drewN ?_ _) | (with_reducible refine Kd.C_drew ?_))); (case side2 => exact HC301_0.out); (case side3 => repeat (first | exact (Kd.C_below HR302_0.out HB.out) | (with_reducible refine Kd.C_alloc ?_ _) | (with_reducible refine Kd.C_drewN ?_ _) | (with_reducible refine Kd.C_drew ?_))); (case side4 => exact HC302_0.out); rintro e w' ⟨rfl, ⟨nd, rfl⟩⟩; (try first | exact ⟨rfl, _, World.drewN_drewN _ _ _⟩ | exact ⟨rfl, _, Eq.trans (World.drewN_drewN _ _ _) (congrArg (World.drewN _) (Nat.add_assoc _ _ _))⟩))); try go_wp2_with (first | (go_at_call 33; (with_reducible refine (standbyref01_Same.calls k1 _ _ (rd_L7 t297 x12_1) _ _ (rd_L7 l2 x12_1) false _ ?side1 ?side2 ?side3 ?side4 A12.out).mono ?_); (case side1 => repeat (first | exact (by repeat (first | (with_reducible exact HR301_0.out) | (with_reducible refine Kd.C_alloc ?_ _) | (with_reducible refine Kd.C_drewN ?_ _) | (with_reducible refine Kd.C_drew ?_) | exact HR301_0.out)) | (with_reducible refine Kd.C_alloc ?_ _) | (with_reducible refine Kd.C_drewN ?_ _) | (with_reducible refine Kd.C_drew ?_))); (case side2 => exact HC301_0.out); (case side3 => repeat (first | exact (Kd.C_below HR302_0.out HB.out) | (with_reducible refine Kd.C_alloc ?_ _) | (with_reducible refine Kd.C_drewN ?_ _) | (with_reducible refine Kd.C_drew ?_))); (case side4 => exact HC302_0.out); rintro e w' ⟨rfl, ⟨nd, rfl⟩⟩; (try first | exact ⟨rfl, _, World.drewN_drewN _ _ _⟩ | exact ⟨rfl, _, Eq.trans (World.drewN_drewN _ _ _) (congrArg (World.drewN _) (Nat.add_assoc _ _ _))⟩))))
                go_ret2
                exact ⟨by first | rfl | (simp [errW_none, errW_some] <;> rfl) | (simp [*, errW_none, errW_some] <;> rfl), by repeat (first | (with_reducible first | exact HB.out | apply below_alloc | apply pw_below_drewN | apply below_drew1) | exact HB.out)⟩
            · rw [if_neg c11] at H
              exact absurd H (by simp)
          · rw [if_neg c10] at H
            exact absurd H (by simp)
        · rw [if_neg c9] at H
          have c9b0 : decide (x12_1 < (l2.length : Int)) = false := decide_eq_false c9
          clear c9
          simp only [Option.some.injEq, Prod.mk.injEq] at H
          obtain ⟨rfl, rfl⟩ := H
          go_wp2
          repeat (go_quiet (fail); try go_wp2)
          go_ret2
          exact ⟨by first | rfl | (simp [errW_none, errW_some] <;> rfl) | (simp [*, errW_none, errW_some] <;> rfl), by repeat (first | (with_reducible first | exact HB.out | apply below_alloc | apply pw_below_drewN | apply below_drew1) | exact HB.out)⟩
  · rw [if_neg c5] at H
    have c5b0 : (t294 == 0) = false := beq_eq_false_iff_ne.mpr c5
    have c5b1 : (t294 != 0) = true := bne_iff_ne.mpr c5
    simp only [Option.some.injEq, Prod.mk.injEq] at H
    obtain ⟨rfl, rfl⟩ := H
    go_enter Try.func12, Try.ntmps12
    go_wp2_with (first | (go_at_call 10; (with_reducible refine (standbyref45_Needed.calls k _ _ l0 _ _ l1 _ _ l2 t293 t294 _ ?side1 ?side2 ?side3 ?side4 ?side5 ?side6 A4.out).mono ?_); (case side1 => repeat (first | exact HR0.out | (with_reducible refine Kd.C_alloc ?_ _) | (with_reducible refine Kd.C_drewN ?_ _) | (with_reducible refine Kd.C_drew ?_))); (case side2 => exact HC0.out); (case side3 => repeat (first | exact HR1.out | (with_reducible refine Kd.C_alloc ?_ _) | (with_reducible refine Kd.C_drewN ?_ _) | (with_reducible refine Kd.C_drew ?_))); (case side4 => exact HC1.out); (case side5 => repeat (first | exact HR2.out | (with_reducible refine Kd.C_alloc ?_ _) | (with_reducible refine Kd.C_drewN ?_ _) | (with_reducible refine Kd.C_drew ?_))); (case side6 => exact HC2.out); rintro e w16 ⟨v295, rfl, ho0, hb⟩; have n0_ := Aside0.mk (Kd.S_lower ho0 (below_size (by repeat (first | (with_reducible first | exact HB.out | apply below_alloc | apply pw_below_drewN | apply below_drew1) | exact HB.out)))); have n1_ := Aside0.mk (below_step (by repeat (first | (with_reducible first | exact HB.out | apply below_alloc | apply pw_below_drewN | apply below_drew1) | exact HB.out)) hb); clear HB; have HO296 := n0_; have HB := n1_; clear n0_ n1_; (try clear hb); (try clear hb2); (try clear hk); (try clear hi); (try clear ho0)))
    repeat (go_quiet (first | (go_at_call 10; (with_reducible refine (standbyref45_Needed.calls k _ _ l0 _ _ l1 _ _ l2 t293 t294 _ ?side1 ?side2 ?side3 ?side4 ?side5 ?side6 A4.out).mono ?_); (case side1 => repeat (first | exact HR0.out | (with_reducible refine Kd.C_alloc ?_ _) | (with_reducible refine Kd.C_drewN ?_ _) | (with_reducible refine Kd.C_drew ?_))); (case side2 => exact HC0.out); (case side3 => repeat (first | exact HR1.out | (with_reducible refine Kd.C_alloc ?_ _) | (with_reducible refine Kd.C_drewN ?_ _) | (with_reducible refine Kd.C_drew ?_))); (case side4 => exact HC1.out); (case side5 => repeat (first | exact HR2.out | (with_reducible refine Kd.C_alloc ?_ _) | (with_reducible refine Kd.C_drewN ?_ _) | (with_reducible refine Kd.C_drew ?_))); (case side6 => exact HC2.out); rintro e w16 ⟨v295, rfl, ho0, hb⟩; have n0_ := Aside0.mk (Kd.S_lower ho0 (below_size (by repeat (first | (with_reducible first | exact HB.out | apply below_alloc | apply pw_below_drewN | apply below_drew1) | exact HB.out)))); have n1_ := Aside0.mk (below_step (by repeat (first | (with_reducible first | exact HB.out | apply below_alloc | apply pw_below_drewN | apply below_drew1) | exact HB.out)) hb); clear HB; have HO296 := n0_; have HB := n1_; clear n0_ n1_; (try clear hb); (try clear hb2); (try clear hk); (try clear hi); (try clear ho0))); try go_wp2_with (first | (go_at_call 10; (with_reducible refine (standbyref45_Needed.calls k _ _ l0 _ _ l1 _ _ l2 t293 t294 _ ?side1 ?side2 ?side3 ?side4 ?side5 ?side6 A4.out).mono ?_); (case side1 => repeat (first | exact HR0.out | (with_reducible refine Kd.C_alloc ?_ _) | (with_reducible refine Kd.C_drewN ?_ _) | (with_reducible refine Kd.C_drew ?_))); (case side2 => exact HC0.out); (case side3 => repeat (first | exact HR1.out | (with_reducible refine Kd.C_alloc ?_ _) | (with_reducible refine Kd.C_drewN ?_ _) | (with_reducible refine Kd.C_drew ?_))); (case side4 => exact HC1.out); (case side5 => repeat (first | exact HR2.out | (with_reducible refine Kd.C_alloc ?_ _) | (with_reducible refine Kd.C_drewN ?_ _) | (with_reducible refine Kd.C_drew ?_))); (case side6 => exact HC2.out); rintro e w16 ⟨v295, rfl, ho0, hb⟩; have n0_ := Aside0.mk (Kd.S_lower ho0 (below_size (by repeat (first | (with_reducible first | exact HB.out | apply below_alloc | apply pw_below_drewN | apply below_drew1) | exact HB.out)))); have n1_ := Aside0.mk (below_step (by repeat (first | (with_reducible first | exact HB.out | apply below_alloc | apply pw_below_drewN | apply below_drew1) | exact HB.out)) hb); clear HB; have HO296 := n0_; have HB := n1_; clear n0_ n1_; (try clear hb); (try clear hb2); (try clear hk); (try clear hi); (try clear ho0))))
    go_ret2
    exact ⟨by first | rfl | (simp [errW_none, errW_some] <;> rfl) | (simp [*, errW_none, errW_some] <;> rfl), by repeat (first | (with_reducible first | exact HB.out | apply below_alloc | apply pw_below_drewN | apply below_drew1) | exact HB.out)⟩
def standbylaw45_ResyncNeeds.j0 : Nat → List (List (S52)) → List (List (S52)) → List (List (S54)) → Bool → Option (Bool)
  | 0, _, _, _, _ => none
  | k + 1, x0, x1, x2, x27 => if x27 = true then ((standbylaw45_awake.f k).bind fun t307 => (some t307)) else ((resync_Needed.f x0 x1 x2).bind fun bt308 => ((standbyref45_Needed.f k x0 x1 x2).bind fun bt312 => ((resync_Exact.f x0 x1 x2).bind fun bt316 => ((standbyref45_Exact.f k x0 x1 x2).bind fun bt318 => ((standbylaw45_awake.f k).bind fun t320 => (if t320 = true then ((standbyref36_SameExtents.f k bt308.1 bt312.1).bind fun t321 => (if t321 = true then (if bt308.2 = bt312.2 then (if (bt316.1 == bt318.1) = true then (some (bt316.2 == bt318.2)) else (some false)) else (some false)) else (some false))) else (some false)))))))
def standbylaw45_ResyncNeeds.f (k : Nat) (l0 : List (List (S52))) (l1 : List (List (S52))) (l2 : List (List (S54))) : Option (Bool) := (standbyref07_Few.f k l0).bind fun t304 => (if t304 = true then ((standbyref07_Few.f k l1).bind fun t305 => (if t305 = true then ((standbyref45_FewLists.f k l2).bind fun t306 => (standbylaw45_ResyncNeeds.j0 k l0 l1 l2 (!t306))) else (standbylaw45_ResyncNeeds.j0 k l0 l1 l2 true))) else (standbylaw45_ResyncNeeds.j0 k l0 l1 l2 true))
set_option maxHeartbeats 8000000 in
set_option maxRecDepth 100000 in
theorem standbylaw45_ResyncNeeds.calls (k : Nat) (A0 : Option Addr) (c0 : Nat) (l0 : List (List (S52))) (A1 : Option Addr) (c1 : Nat) (l1 : List (List (S52))) (A2 : Option Addr) (c2 : Nat) (l2 : List (List (S54))) (r : Bool) (w : World) (hr0 : Kd.C (Kd.slice 52 k52) w A0 l0.length l0) (hc0 : l0.length ≤ c0) (hr1 : Kd.C (Kd.slice 52 k52) w A1 l1.length l1) (hc1 : l1.length ≤ c1) (hr2 : Kd.C (Kd.slice 54 k54) w A2 l2.length l2) (hc2 : l2.length ≤ c2) (h : standbylaw45_ResyncNeeds.f k l0 l1 l2 = some r) :
    Calls Try.prog 3 #[.slice A0 l0.length c0, .slice A1 l1.length c1, .slice A2 l2.length c2] w fun e w' => e = .returned (.bool r) ∧ Below w.heap.size w w' := by
  have HR0 := Aside0.mk hr0
  have HC0 := Aside0.mk hc0
  clear hr0 hc0
  have HR1 := Aside0.mk hr1
  have HC1 := Aside0.mk hc1
  clear hr1 hc1
  have HR2 := Aside0.mk hr2
  have HC2 := Aside0.mk hc2
  clear hr2 hc2
  have HB := Aside0.mk (Below.refl w.heap.size w)
  have H : ((standbyref07_Few.f k l0).bind fun t304 => (if t304 = true then ((standbyref07_Few.f k l1).bind fun t305 => (if t305 = true then ((standbyref45_FewLists.f k l2).bind fun t306 => (standbylaw45_ResyncNeeds.j0 k l0 l1 l2 (!t306))) else (standbylaw45_ResyncNeeds.j0 k l0 l1 l2 true))) else (standbylaw45_ResyncNeeds.j0 k l0 l1 l2 true))) = some r := h
  clear h
  have HC4 := Aside0.mk H
  clear H
  go_enter Try.func3, Try.ntmps3
  go_upto_region 1 with (fail)
  go_cut [27] (fun v27 wc => ∃ (kq : Nat) (x27_3 : Bool), v27 = .bool x27_3 ∧ Aside0 (standbylaw45_ResyncNeeds.j0 kq l0 l1 l2 x27_3 = some r) ∧ Aside0 (kq ≤ k) ∧ Aside0 (Below w.heap.size w wc))
  case first =>
    have H := HC4.out
    clear HC4
    replace H := Option.bind_eq_some_iff.mp H
    obtain ⟨t304, A50, H⟩ := H
    replace H : (if t304 = true then ((standbyref07_Few.f k l1).bind fun t305 => (if t305 = true then ((standbyref45_FewLists.f k l2).bind fun t306 => (standbylaw45_ResyncNeeds.j0 k l0 l1 l2 (!t306))) else (standbylaw45_ResyncNeeds.j0 k l0 l1 l2 true))) else (standbylaw45_ResyncNeeds.j0 k l0 l1 l2 true)) = some r := H
    have A5 := Aside0.mk A50
    clear A50
    by_cases c6 : t304 = true
    · subst c6
      have H1 : ((standbyref07_Few.f k l1).bind fun t305 => (if t305 = true then ((standbyref45_FewLists.f k l2).bind fun t306 => (standbylaw45_ResyncNeeds.j0 k l0 l1 l2 (!t306))) else (standbylaw45_ResyncNeeds.j0 k l0 l1 l2 true))) = some r := by rw [if_pos rfl] at H; exact H
      clear H
      have H := H1
      clear H1
      replace H := Option.bind_eq_some_iff.mp H
      obtain ⟨t305, A70, H⟩ := H
      replace H : (if t305 = true then ((standbyref45_FewLists.f k l2).bind fun t306 => (standbylaw45_ResyncNeeds.j0 k l0 l1 l2 (!t306))) else (standbylaw45_ResyncNeeds.j0 k l0 l1 l2 true)) = some r := H
      have A7 := Aside0.mk A70
      clear A70
      by_cases c8 : t305 = true
      · subst c8
        have H1 : ((standbyref45_FewLists.f k l2).bind fun t306 => (standbylaw45_ResyncNeeds.j0 k l0 l1 l2 (!t306))) = some r := by rw [if_pos rfl] at H; exact H
        clear H
        have H := H1
        clear H1
        replace H := Option.bind_eq_some_iff.mp H
        obtain ⟨t306, A90, H⟩ := H
        replace H : (standbylaw45_ResyncNeeds.j0 k l0 l1 l2 (!t306)) = some r := H
        have A9 := Aside0.mk A90
        clear A90
        have H' := Aside0.mk H
        clear H
        go_wp2_with (first | ((with_reducible refine gate_callee (f := 6) rfl ?_); refine goesL_ (some 16) rfl rfl Try.func6 (by kernel_rfl) rfl #[.slice A0 l0.length c0] rfl (by (try simp only [List.map_toArray, List.map_cons, List.map_nil]); first | done | rfl | (simp only [List.length_drop, List.length_take]; rfl)) ?_; (with_reducible refine (standbyref07_Few.calls k _ _ l0 true _ ?side1 ?side2 A5.out).mono ?_); (case side1 => repeat (first | exact (Kd.C_below HR0.out HB.out) | (with_reducible refine Kd.C_alloc ?_ _) | (with_reducible refine Kd.C_drewN ?_ _) | (with_reducible refine Kd.C_drew ?_))); (case side2 => exact HC0.out); rintro e w' ⟨rfl, ⟨nd, rfl⟩⟩; refine ⟨_, rfl, ?_⟩) | (go_at_call 6; (with_reducible refine (standbyref07_Few.calls k _ _ l1 true _ ?side1 ?side2 A7.out).mono ?_); (case side1 => repeat (first | exact (Kd.C_below HR1.out (by repeat (first | (with_reducible first | exact HB.out | apply below_alloc | apply pw_below_drewN | apply below_drew1) | exact HB.out))) | (with_reducible refine Kd.C_alloc ?_ _) | (with_reducible refine Kd.C_drewN ?_ _) | (with_reducible refine Kd.C_drew ?_))); (case side2 => exact HC1.out); rintro e w' ⟨rfl, ⟨nd, rfl⟩⟩) | (go_at_call 7; (with_reducible refine (standbyref45_FewLists.calls k _ _ l2 t306 _ ?side1 ?side2 A9.out).mono ?_); (case side1 => repeat (first | exact (Kd.C_below HR2.out (by repeat (first | (with_reducible first | exact HB.out | apply below_alloc | apply pw_below_drewN | apply below_drew1) | exact HB.out))) | (with_reducible refine Kd.C_alloc ?_ _) | (with_reducible refine Kd.C_drewN ?_ _) | (with_reducible refine Kd.C_drew ?_))); (case side2 => exact HC2.out); rintro e w' ⟨rfl, ⟨nd, rfl⟩⟩))
        go_meet
        case rel => exact ⟨_, (!t306), (by first | rfl | (simp; done) | (simp [*]; done)), H', ⟨by first | omega | exact Nat.le_refl _⟩, ⟨by repeat (first | (with_reducible first | exact HB.out | apply below_alloc | apply pw_below_drewN | apply below_drew1) | exact HB.out)⟩⟩
      · replace c8 := Bool.eq_false_iff.mpr c8
        subst c8
        have H1 : (standbylaw45_ResyncNeeds.j0 k l0 l1 l2 true) = some r := by rw [if_neg (show ¬ (false = true) by decide)] at H; exact H
        clear H
        have H := H1
        clear H1
        have H' := Aside0.mk H
        clear H
        go_wp2_with (first | ((with_reducible refine gate_callee (f := 6) rfl ?_); refine goesL_ (some 16) rfl rfl Try.func6 (by kernel_rfl) rfl #[.slice A0 l0.length c0] rfl (by (try simp only [List.map_toArray, List.map_cons, List.map_nil]); first | done | rfl | (simp only [List.length_drop, List.length_take]; rfl)) ?_; (with_reducible refine (standbyref07_Few.calls k _ _ l0 true _ ?side1 ?side2 A5.out).mono ?_); (case side1 => repeat (first | exact (Kd.C_below HR0.out HB.out) | (with_reducible refine Kd.C_alloc ?_ _) | (with_reducible refine Kd.C_drewN ?_ _) | (with_reducible refine Kd.C_drew ?_))); (case side2 => exact HC0.out); rintro e w' ⟨rfl, ⟨nd, rfl⟩⟩; refine ⟨_, rfl, ?_⟩) | (go_at_call 6; (with_reducible refine (standbyref07_Few.calls k _ _ l1 false _ ?side1 ?side2 A7.out).mono ?_); (case side1 => repeat (first | exact (Kd.C_below HR1.out (by repeat (first | (with_reducible first | exact HB.out | apply below_alloc | apply pw_below_drewN | apply below_drew1) | exact HB.out))) | (with_reducible refine Kd.C_alloc ?_ _) | (with_reducible refine Kd.C_drewN ?_ _) | (with_reducible refine Kd.C_drew ?_))); (case side2 => exact HC1.out); rintro e w' ⟨rfl, ⟨nd, rfl⟩⟩))
        go_meet
        case rel => exact ⟨_, (true), (by first | rfl | (simp; done) | (simp [*]; done)), H', ⟨by first | omega | exact Nat.le_refl _⟩, ⟨by repeat (first | (with_reducible first | exact HB.out | apply below_alloc | apply pw_below_drewN | apply below_drew1) | exact HB.out)⟩⟩
    · replace c6 := Bool.eq_false_iff.mpr c6
      subst c6
      have H1 : (standbylaw45_ResyncNeeds.j0 k l0 l1 l2 true) = some r := by rw [if_neg (show ¬ (false = true) by decide)] at H; exact H
      clear H
      have H := H1
      clear H1
      have H' := Aside0.mk H
      clear H
      go_wp2_with (first | ((with_reducible refine gate_callee (f := 6) rfl ?_); refine goesL_ (some 16) rfl rfl Try.func6 (by kernel_rfl) rfl #[.slice A0 l0.length c0] rfl (by (try simp only [List.map_toArray, List.map_cons, List.map_nil]); first | done | rfl | (simp only [List.length_drop, List.length_take]; rfl)) ?_; (with_reducible refine (standbyref07_Few.calls k _ _ l0 false _ ?side1 ?side2 A5.out).mono ?_); (case side1 => repeat (first | exact (Kd.C_below HR0.out HB.out) | (with_reducible refine Kd.C_alloc ?_ _) | (with_reducible refine Kd.C_drewN ?_ _) | (with_reducible refine Kd.C_drew ?_))); (case side2 => exact HC0.out); rintro e w' ⟨rfl, ⟨nd, rfl⟩⟩; refine ⟨_, rfl, ?_⟩))
      go_meet
      case rel => exact ⟨_, (true), (by first | rfl | (simp; done) | (simp [*]; done)), H', ⟨by first | omega | exact Nat.le_refl _⟩, ⟨by repeat (first | (with_reducible first | exact HB.out | apply below_alloc | apply pw_below_drewN | apply below_drew1) | exact HB.out)⟩⟩
  case rest =>
    clear HC4
    try clear c1
    try clear c2
    try clear p2
    try clear c3
    try clear c6
    try clear c8
    obtain ⟨kq, x27_3, rfl, HA, HJ3, HB⟩ := hcut
    cases kq with
    | zero => exact absurd HA.out (by simp [standbylaw45_ResyncNeeds.j0])
    | succ kj3 =>
      have H := HA.out
      clear HA
      simp only [standbylaw45_ResyncNeeds.j0] at H
      by_cases c10 : x27_3 = true
      · subst c10
        have H1 : ((standbylaw45_awake.f kj3).bind fun t307 => (some t307)) = some r := by rw [if_pos rfl] at H; exact H
        clear H
        have H := H1
        clear H1
        replace H := Option.bind_eq_some_iff.mp H
        obtain ⟨t307, A110, H⟩ := H
        replace H : (some t307) = some r := H
        have A11 := Aside0.mk A110
        clear A110
        obtain rfl := Option.some.inj H
        go_wp2_with (first | ((with_reducible refine gate_callee (f := 8) rfl ?_); refine goesL_ (some 28) rfl rfl Try.func8 (by kernel_rfl) rfl #[] rfl (by (try simp only [List.map_toArray, List.map_cons, List.map_nil]); first | done | rfl | (simp only [List.length_drop, List.length_take]; rfl)) ?_; (with_reducible refine (standbylaw45_awake.calls kj3  t307 _ A11.out).mono ?_); rintro e w12 ⟨rfl, hb⟩; refine ⟨_, rfl, ?_⟩; have n0_ := Aside0.mk (below_step (by repeat (first | (with_reducible first | exact HB.out | apply below_alloc | apply pw_below_drewN | apply below_drew1) | exact HB.out)) hb); clear HB; have HB := n0_; clear n0_; (try clear hb); (try clear hb2); (try clear hk); (try clear hi)))
        go_ret
        exact ⟨by first | rfl | (simp [errW_none, errW_some] <;> rfl) | (simp [*, errW_none, errW_some] <;> rfl), by repeat (first | (with_reducible first | exact HB.out | apply below_alloc | apply pw_below_drewN | apply below_drew1) | exact HB.out)⟩
      · replace c10 := Bool.eq_false_iff.mpr c10
        subst c10
        have H1 : ((resync_Needed.f l0 l1 l2).bind fun bt308 => ((standbyref45_Needed.f kj3 l0 l1 l2).bind fun bt312 => ((resync_Exact.f l0 l1 l2).bind fun bt316 => ((standbyref45_Exact.f kj3 l0 l1 l2).bind fun bt318 => ((standbylaw45_awake.f kj3).bind fun t320 => (if t320 = true then ((standbyref36_SameExtents.f kj3 bt308.1 bt312.1).bind fun t321 => (if t321 = true then (if bt308.2 = bt312.2 then (if (bt316.1 == bt318.1) = true then (some (bt316.2 == bt318.2)) else (some false)) else (some false)) else (some false))) else (some false))))))) = some r := by rw [if_neg (show ¬ (false = true) by decide)] at H; exact H
        clear H
        have H := H1
        clear H1
        replace H := Option.bind_eq_some_iff.mp H
        obtain ⟨⟨t308, t309⟩, A130, H⟩ := H
        replace H : ((standbyref45_Needed.f kj3 l0 l1 l2).bind fun bt312 => ((resync_Exact.f l0 l1 l2).bind fun bt316 => ((standbyref45_Exact.f kj3 l0 l1 l2).bind fun bt318 => ((standbylaw45_awake.f kj3).bind fun t320 => (if t320 = true then ((standbyref36_SameExtents.f kj3 t308 bt312.1).bind fun t321 => (if t321 = true then (if t309 = bt312.2 then (if (bt316.1 == bt318.1) = true then (some (bt316.2 == bt318.2)) else (some false)) else (some false)) else (some false))) else (some false)))))) = some r := H
        have A13 := Aside0.mk A130
        clear A130
        replace H := Option.bind_eq_some_iff.mp H
        obtain ⟨⟨t312, t313⟩, A140, H⟩ := H
        replace H : ((resync_Exact.f l0 l1 l2).bind fun bt316 => ((standbyref45_Exact.f kj3 l0 l1 l2).bind fun bt318 => ((standbylaw45_awake.f kj3).bind fun t320 => (if t320 = true then ((standbyref36_SameExtents.f kj3 t308 t312).bind fun t321 => (if t321 = true then (if t309 = t313 then (if (bt316.1 == bt318.1) = true then (some (bt316.2 == bt318.2)) else (some false)) else (some false)) else (some false))) else (some false))))) = some r := H
        have A14 := Aside0.mk A140
        clear A140
        replace H := Option.bind_eq_some_iff.mp H
        obtain ⟨⟨t316, t317⟩, A150, H⟩ := H
        replace H : ((standbyref45_Exact.f kj3 l0 l1 l2).bind fun bt318 => ((standbylaw45_awake.f kj3).bind fun t320 => (if t320 = true then ((standbyref36_SameExtents.f kj3 t308 t312).bind fun t321 => (if t321 = true then (if t309 = t313 then (if (t316 == bt318.1) = true then (some (t317 == bt318.2)) else (some false)) else (some false)) else (some false))) else (some false)))) = some r := H
        have A15 := Aside0.mk A150
        clear A150
        replace H := Option.bind_eq_some_iff.mp H
        obtain ⟨⟨t318, t319⟩, A160, H⟩ := H
        replace H : ((standbylaw45_awake.f kj3).bind fun t320 => (if t320 = true then ((standbyref36_SameExtents.f kj3 t308 t312).bind fun t321 => (if t321 = true then (if t309 = t313 then (if (t316 == t318) = true then (some (t317 == t319)) else (some false)) else (some false)) else (some false))) else (some false))) = some r := H
        have A16 := Aside0.mk A160
        clear A160
        replace H := Option.bind_eq_some_iff.mp H
        obtain ⟨t320, A170, H⟩ := H
        replace H : (if t320 = true then ((standbyref36_SameExtents.f kj3 t308 t312).bind fun t321 => (if t321 = true then (if t309 = t313 then (if (t316 == t318) = true then (some (t317 == t319)) else (some false)) else (some false)) else (some false))) else (some false)) = some r := H
        have A17 := Aside0.mk A170
        clear A170
        by_cases c18 : t320 = true
        · subst c18
          have H1 : ((standbyref36_SameExtents.f kj3 t308 t312).bind fun t321 => (if t321 = true then (if t309 = t313 then (if (t316 == t318) = true then (some (t317 == t319)) else (some false)) else (some false)) else (some false))) = some r := by rw [if_pos rfl] at H; exact H
          clear H
          have H := H1
          clear H1
          replace H := Option.bind_eq_some_iff.mp H
          obtain ⟨t321, A190, H⟩ := H
          replace H : (if t321 = true then (if t309 = t313 then (if (t316 == t318) = true then (some (t317 == t319)) else (some false)) else (some false)) else (some false)) = some r := H
          have A19 := Aside0.mk A190
          clear A190
          by_cases c20 : t321 = true
          · subst c20
            have H1 : (if t309 = t313 then (if (t316 == t318) = true then (some (t317 == t319)) else (some false)) else (some false)) = some r := by rw [if_pos rfl] at H; exact H
            clear H
            have H := H1
            clear H1
            by_cases c21 : t309 = t313
            · rw [if_pos c21] at H
              have c21b0 : (t309 == t313) = true := beq_iff_eq.mpr c21
              have c21b1 : (t309 != t313) = false := bne_eq_false_iff_eq.mpr c21
              clear c21
              by_cases c22 : (t316 == t318) = true
              · rw [if_pos c22] at H
                have c22b0 : (t316 == t318) = true := c22
                (try (have c22b1 : decide (t316 = t318) = true := by simpa using c22))
                (try (have c22b2 : (t316 == t318) = true := by simpa using c22))
                clear c22
                obtain rfl := Option.some.inj H
                go_wp2_with (first | ((with_reducible refine gate_callee (f := 9) rfl ?_); refine goesL_ (some 33) rfl rfl Try.func9 (by kernel_rfl) rfl #[.slice A0 l0.length c0, .slice A1 l1.length c1, .slice A2 l2.length c2] rfl (by (try simp only [List.map_toArray, List.map_cons, List.map_nil]); first | done | rfl | (simp only [List.length_drop, List.length_take]; rfl)) ?_; (with_reducible refine (resync_Needed.calls _ _ l0 _ _ l1 _ _ l2 t308 t309 _ ?side1 ?side2 ?side3 ?side4 ?side5 ?side6 A13.out).mono ?_); (case side1 => repeat (first | exact (Kd.C_below HR0.out HB.out) | (with_reducible refine Kd.C_alloc ?_ _) | (with_reducible refine Kd.C_drewN ?_ _) | (with_reducible refine Kd.C_drew ?_))); (case side2 => exact HC0.out); (case side3 => repeat (first | exact (Kd.C_below HR1.out HB.out) | (with_reducible refine Kd.C_alloc ?_ _) | (with_reducible refine Kd.C_drewN ?_ _) | (with_reducible refine Kd.C_drew ?_))); (case side4 => exact HC1.out); (case side5 => repeat (first | exact (Kd.C_below HR2.out HB.out) | (with_reducible refine Kd.C_alloc ?_ _) | (with_reducible refine Kd.C_drewN ?_ _) | (with_reducible refine Kd.C_drew ?_))); (case side6 => exact HC2.out); rintro e w23 ⟨v310, rfl, ho0, hb⟩; refine ⟨_, rfl, ?_⟩; have n0_ := Aside0.mk (Kd.S_lower ho0 (below_size (by repeat (first | (with_reducible first | exact HB.out | apply below_alloc | apply pw_below_drewN | apply below_drew1) | exact HB.out)))); have n1_ := Aside0.mk (below_step (by repeat (first | (with_reducible first | exact HB.out | apply below_alloc | apply pw_below_drewN | apply below_drew1) | exact HB.out)) hb); clear HB; have HO311 := n0_; have HB := n1_; clear n0_ n1_; (try clear hb); (try clear hb2); (try clear hk); (try clear hi); (try clear ho0)) | ((with_reducible refine gate_callee (f := 10) rfl ?_); refine goesL_ (some 40) rfl rfl Try.func10 (by kernel_rfl) rfl #[.slice A0 l0.length c0, .slice A1 l1.length c1, .slice A2 l2.length c2] rfl (by (try simp only [List.map_toArray, List.map_cons, List.map_nil]); first | done | rfl | (simp only [List.length_drop, List.length_take]; rfl)) ?_; (with_reducible refine (standbyref45_Needed.calls kj3 _ _ l0 _ _ l1 _ _ l2 t312 t313 _ ?side1 ?side2 ?side3 ?side4 ?side5 ?side6 A14.out).mono ?_); (case side1 => repeat (first | exact (Kd.C_below HR0.out HB.out) | (with_reducible refine Kd.C_alloc ?_ _) | (with_reducible refine Kd.C_drewN ?_ _) | (with_reducible refine Kd.C_drew ?_))); (case side2 => exact HC0.out); (case side3 => repeat (first | exact (Kd.C_below HR1.out HB.out) | (with_reducible refine Kd.C_alloc ?_ _) | (with_reducible refine Kd.C_drewN ?_ _) | (with_reducible refine Kd.C_drew ?_))); (case side4 => exact HC1.out); (case side5 => repeat (first | exact (Kd.C_below HR2.out HB.out) | (with_reducible refine Kd.C_alloc ?_ _) | (with_reducible refine Kd.C_drewN ?_ _) | (with_reducible refine Kd.C_drew ?_))); (case side6 => exact HC2.out); rintro e w24 ⟨v314, rfl, ho0, hb⟩; refine ⟨_, rfl, ?_⟩; have n0_ := Aside0.mk (Kd.S_elder' (by (with_reducible repeat (first | apply Kd.S_alloc | apply Kd.S_drewN | apply Kd.S_drew)); exact HO311.out) (Kd.S_base ho0) hb); have n1_ := Aside0.mk (Kd.S_lower (Kd.S_new' ho0 (Kd.S_lt (by (with_reducible repeat (first | apply Kd.S_alloc | apply Kd.S_drewN | apply Kd.S_drew)); exact HO311.out))) (below_size (by repeat (first | (with_reducible first | exact HB.out | apply below_alloc | apply pw_below_drewN | apply below_drew1) | exact HB.out)))); have n2_ := Aside0.mk (below_step (by repeat (first | (with_reducible first | exact HB.out | apply below_alloc | apply pw_below_drewN | apply below_drew1) | exact HB.out)) hb); clear HO311; clear HB; have HO311 := n0_; have HO315 := n1_; have HB := n2_; clear n0_ n1_ n2_; (try clear hb); (try clear hb2); (try clear hk); (try clear hi); (try clear ho0)) | ((with_reducible refine gate_callee (f := 11) rfl ?_); refine goesL_ (some 47) rfl rfl Try.func11 (by kernel_rfl) rfl #[.slice A0 l0.length c0, .slice A1 l1.length c1, .slice A2 l2.length c2] rfl (by (try simp only [List.map_toArray, List.map_cons, List.map_nil]); first | done | rfl | (simp only [List.length_drop, List.length_take]; rfl)) ?_; (with_reducible refine (resync_Exact.calls _ _ l0 _ _ l1 _ _ l2 t316 t317 _ ?side1 ?side2 ?side3 ?side4 ?side5 ?side6 A15.out).mono ?_); (case side1 => repeat (first | exact (Kd.C_below HR0.out HB.out) | (with_reducible refine Kd.C_alloc ?_ _) | (with_reducible refine Kd.C_drewN ?_ _) | (with_reducible refine Kd.C_drew ?_))); (case side2 => exact HC0.out); (case side3 => repeat (first | exact (Kd.C_below HR1.out HB.out) | (with_reducible refine Kd.C_alloc ?_ _) | (with_reducible refine Kd.C_drewN ?_ _) | (with_reducible refine Kd.C_drew ?_))); (case side4 => exact HC1.out); (case side5 => repeat (first | exact (Kd.C_below HR2.out HB.out) | (with_reducible refine Kd.C_alloc ?_ _) | (with_reducible refine Kd.C_drewN ?_ _) | (with_reducible refine Kd.C_drew ?_))); (case side6 => exact HC2.out); rintro e w25 ⟨rfl, hb⟩; refine ⟨_, rfl, ?_⟩; have n0_ := Aside0.mk (Kd.S_below (by (with_reducible repeat (first | apply Kd.S_alloc | apply Kd.S_drewN | apply Kd.S_drew)); exact HO311.out) hb); have n1_ := Aside0.mk (Kd.S_below (by (with_reducible repeat (first | apply Kd.S_alloc | apply Kd.S_drewN | apply Kd.S_drew)); exact HO315.out) hb); have n2_ := Aside0.mk (below_step (by repeat (first | (with_reducible first | exact HB.out | apply below_alloc | apply pw_below_drewN | apply below_drew1) | exact HB.out)) hb); clear HO311; clear HO315; clear HB; have HO311 := n0_; have HO315 := n1_; have HB := n2_; clear n0_ n1_ n2_; (try clear hb); (try clear hb2); (try clear hk); (try clear hi)) | ((with_reducible refine gate_callee (f := 12) rfl ?_); refine goesL_ (some 54) rfl rfl Try.func12 (by kernel_rfl) rfl #[.slice A0 l0.length c0, .slice A1 l1.length c1, .slice A2 l2.length c2] rfl (by (try simp only [List.map_toArray, List.map_cons, List.map_nil]); first | done | rfl | (simp only [List.length_drop, List.length_take]; rfl)) ?_; (with_reducible refine (standbyref45_Exact.calls kj3 _ _ l0 _ _ l1 _ _ l2 t318 t319 _ ?side1 ?side2 ?side3 ?side4 ?side5 ?side6 A16.out).mono ?_); (case side1 => repeat (first | exact (Kd.C_below HR0.out HB.out) | (with_reducible refine Kd.C_alloc ?_ _) | (with_reducible refine Kd.C_drewN ?_ _) | (with_reducible refine Kd.C_drew ?_))); (case side2 => exact HC0.out); (case side3 => repeat (first | exact (Kd.C_below HR1.out HB.out) | (with_reducible refine Kd.C_alloc ?_ _) | (with_reducible refine Kd.C_drewN ?_ _) | (with_reducible refine Kd.C_drew ?_))); (case side4 => exact HC1.out); (case side5 => repeat (first | exact (Kd.C_below HR2.out HB.out) | (with_reducible refine Kd.C_alloc ?_ _) | (with_reducible refine Kd.C_drewN ?_ _) | (with_reducible refine Kd.C_drew ?_))); (case side6 => exact HC2.out); rintro e w26 ⟨rfl, hb⟩; refine ⟨_, rfl, ?_⟩; have n0_ := Aside0.mk (Kd.S_below (by (with_reducible repeat (first | apply Kd.S_alloc | apply Kd.S_drewN | apply Kd.S_drew)); exact HO311.out) hb); have n1_ := Aside0.mk (Kd.S_below (by (with_reducible repeat (first | apply Kd.S_alloc | apply Kd.S_drewN | apply Kd.S_drew)); exact HO315.out) hb); have n2_ := Aside0.mk (below_step (by repeat (first | (with_reducible first | exact HB.out | apply below_alloc | apply pw_below_drewN | apply below_drew1) | exact HB.out)) hb); clear HO311; clear HO315; clear HB; have HO311 := n0_; have HO315 := n1_; have HB := n2_; clear n0_ n1_ n2_; (try clear hb); (try clear hb2); (try clear hk); (try clear hi)) | ((with_reducible refine gate_callee (f := 8) rfl ?_); refine goesL_ (some 57) rfl rfl Try.func8 (by kernel_rfl) rfl #[] rfl (by (try simp only [List.map_toArray, List.map_cons, List.map_nil]); first | done | rfl | (simp only [List.length_drop, List.length_take]; rfl)) ?_; (with_reducible refine (standbylaw45_awake.calls kj3  true _ A17.out).mono ?_); rintro e w27 ⟨rfl, hb⟩; refine ⟨_, rfl, ?_⟩; have n0_ := Aside0.mk (Kd.S_below (by (with_reducible repeat (first | apply Kd.S_alloc | apply Kd.S_drewN | apply Kd.S_drew)); exact HO311.out) hb); have n1_ := Aside0.mk (Kd.S_below (by (with_reducible repeat (first | apply Kd.S_alloc | apply Kd.S_drewN | apply Kd.S_drew)); exact HO315.out) hb); have n2_ := Aside0.mk (below_step (by repeat (first | (with_reducible first | exact HB.out | apply below_alloc | apply pw_below_drewN | apply below_drew1) | exact HB.out)) hb); clear HO311; clear HO315; clear HB; have HO311 := n0_; have HO315 := n1_; have HB := n2_; clear n0_ n1_ n2_; (try clear hb); (try clear hb2); (try clear hk); (try clear hi); obtain ⟨Ao28, co28, eo28⟩ := Kd.S_slice HO311.out; subst eo28; obtain ⟨Ao29, co29, eo29⟩ := Kd.S_slice HO315.out; subst eo29) | (go_at_call 13; (with_reducible refine (standbyref36_SameExtents.calls kj3 _ _ t308 _ _ t312 true _ ?side1 ?side2 ?side3 ?side4 A19.out).mono ?_); (case side1 => repeat (first | exact (Kd.S_reads' HO311.out).2.2 | (with_reducible refine Kd.C_alloc ?_ _) | (with_reducible refine Kd.C_drewN ?_ _) | (with_reducible refine Kd.C_drew ?_))); (case side2 => exact (Kd.S_reads' HO311.out).2.1); (case side3 => repeat (first | exact (Kd.S_reads' HO315.out).2.2 | (with_reducible refine Kd.C_alloc ?_ _) | (with_reducible refine Kd.C_drewN ?_ _) | (with_reducible refine Kd.C_drew ?_))); (case side4 => exact (Kd.S_reads' HO315.out).2.1); rintro e w' ⟨rfl, ⟨nd, rfl⟩⟩))
                go_ret
                exact ⟨by first | rfl | (simp [errW_none, errW_some] <;> rfl) | (simp [*, errW_none, errW_some] <;> rfl), by repeat (first | (with_reducible first | exact HB.out | apply below_alloc | apply pw_below_drewN | apply below_drew1) | exact HB.out)⟩
              · rw [if_neg c22] at H
                have c22b0 : (t316 == t318) = false := by simpa using c22
                (try (have c22b1 : decide (t316 = t318) = false := by simpa using c22))
                (try (have c22b2 : (t316 == t318) = false := by simpa using c22))
                (try (have c22b3 : ¬ (t316 = t318) := by simpa using c22))
                clear c22
                obtain rfl := Option.some.inj H
                go_wp2_with (first | ((with_reducible refine gate_callee (f := 9) rfl ?_); refine goesL_ (some 33) rfl rfl Try.func9 (by kernel_rfl) rfl #[.slice A0 l0.length c0, .slice A1 l1.length c1, .slice A2 l2.length c2] rfl (by (try simp only [List.map_toArray, List.map_cons, List.map_nil]); first | done | rfl | (simp only [List.length_drop, List.length_take]; rfl)) ?_; (with_reducible refine (resync_Needed.calls _ _ l0 _ _ l1 _ _ l2 t308 t309 _ ?side1 ?side2 ?side3 ?side4 ?side5 ?side6 A13.out).mono ?_); (case side1 => repeat (first | exact (Kd.C_below HR0.out HB.out) | (with_reducible refine Kd.C_alloc ?_ _) | (with_reducible refine Kd.C_drewN ?_ _) | (with_reducible refine Kd.C_drew ?_))); (case side2 => exact HC0.out); (case side3 => repeat (first | exact (Kd.C_below HR1.out HB.out) | (with_reducible refine Kd.C_alloc ?_ _) | (with_reducible refine Kd.C_drewN ?_ _) | (with_reducible refine Kd.C_drew ?_))); (case side4 => exact HC1.out); (case side5 => repeat (first | exact (Kd.C_below HR2.out HB.out) | (with_reducible refine Kd.C_alloc ?_ _) | (with_reducible refine Kd.C_drewN ?_ _) | (with_reducible refine Kd.C_drew ?_))); (case side6 => exact HC2.out); rintro e w30 ⟨v310, rfl, ho0, hb⟩; refine ⟨_, rfl, ?_⟩; have n0_ := Aside0.mk (Kd.S_lower ho0 (below_size (by repeat (first | (with_reducible first | exact HB.out | apply below_alloc | apply pw_below_drewN | apply below_drew1) | exact HB.out)))); have n1_ := Aside0.mk (below_step (by repeat (first | (with_reducible first | exact HB.out | apply below_alloc | apply pw_below_drewN | apply below_drew1) | exact HB.out)) hb); clear HB; have HO311 := n0_; have HB := n1_; clear n0_ n1_; (try clear hb); (try clear hb2); (try clear hk); (try clear hi); (try clear ho0)) | ((with_reducible refine gate_callee (f := 10) rfl ?_); refine goesL_ (some 40) rfl rfl Try.func10 (by kernel_rfl) rfl #[.slice A0 l0.length c0, .slice A1 l1.length c1, .slice A2 l2.length c2] rfl (by (try simp only [List.map_toArray, List.map_cons, List.map_nil]); first | done | rfl | (simp only [List.length_drop, List.length_take]; rfl)) ?_; (with_reducible refine (standbyref45_Needed.calls kj3 _ _ l0 _ _ l1 _ _ l2 t312 t313 _ ?side1 ?side2 ?side3 ?side4 ?side5 ?side6 A14.out).mono ?_); (case side1 => repeat (first | exact (Kd.C_below HR0.out HB.out) | (with_reducible refine Kd.C_alloc ?_ _) | (with_reducible refine Kd.C_drewN ?_ _) | (with_reducible refine Kd.C_drew ?_))); (case side2 => exact HC0.out); (case side3 => repeat (first | exact (Kd.C_below HR1.out HB.out) | (with_reducible refine Kd.C_alloc ?_ _) | (with_reducible refine Kd.C_drewN ?_ _) | (with_reducible refine Kd.C_drew ?_))); (case side4 => exact HC1.out); (case side5 => repeat (first | exact (Kd.C_below HR2.out HB.out) | (with_reducible refine Kd.C_alloc ?_ _) | (with_reducible refine Kd.C_drewN ?_ _) | (with_reducible refine Kd.C_drew ?_))); (case side6 => exact HC2.out); rintro e w31 ⟨v314, rfl, ho0, hb⟩; refine ⟨_, rfl, ?_⟩; have n0_ := Aside0.mk (Kd.S_elder' (by (with_reducible repeat (first | apply Kd.S_alloc | apply Kd.S_drewN | apply Kd.S_drew)); exact HO311.out) (Kd.S_base ho0) hb); have n1_ := Aside0.mk (Kd.S_lower (Kd.S_new' ho0 (Kd.S_lt (by (with_reducible repeat (first | apply Kd.S_alloc | apply Kd.S_drewN | apply Kd.S_drew)); exact HO311.out))) (below_size (by repeat (first | (with_reducible first | exact HB.out | apply below_alloc | apply pw_below_drewN | apply below_drew1) | exact HB.out)))); have n2_ := Aside0.mk (below_step (by repeat (first | (with_reducible first | exact HB.out | apply below_alloc | apply pw_below_drewN | apply below_drew1) | exact HB.out)) hb); clear HO311; clear HB; have HO311 := n0_; have HO315 := n1_; have HB := n2_; clear n0_ n1_ n2_; (try clear hb); (try clear hb2); (try clear hk); (try clear hi); (try clear ho0)) | ((with_reducible refine gate_callee (f := 11) rfl ?_); refine goesL_ (some 47) rfl rfl Try.func11 (by kernel_rfl) rfl #[.slice A0 l0.length c0, .slice A1 l1.length c1, .slice A2 l2.length c2] rfl (by (try simp only [List.map_toArray, List.map_cons, List.map_nil]); first | done | rfl | (simp only [List.length_drop, List.length_take]; rfl)) ?_; (with_reducible refine (resync_Exact.calls _ _ l0 _ _ l1 _ _ l2 t316 t317 _ ?side1 ?side2 ?side3 ?side4 ?side5 ?side6 A15.out).mono ?_); (case side1 => repeat (first | exact (Kd.C_below HR0.out HB.out) | (with_reducible refine Kd.C_alloc ?_ _) | (with_reducible refine Kd.C_drewN ?_ _) | (with_reducible refine Kd.C_drew ?_))); (case side2 => exact HC0.out); (case side3 => repeat (first | exact (Kd.C_below HR1.out HB.out) | (with_reducible refine Kd.C_alloc ?_ _) | (with_reducible refine Kd.C_drewN ?_ _) | (with_reducible refine Kd.C_drew ?_))); (case side4 => exact HC1.out); (case side5 => repeat (first | exact (Kd.C_below HR2.out HB.out) | (with_reducible refine Kd.C_alloc ?_ _) | (with_reducible refine Kd.C_drewN ?_ _) | (with_reducible refine Kd.C_drew ?_))); (case side6 => exact HC2.out); rintro e w32 ⟨rfl, hb⟩; refine ⟨_, rfl, ?_⟩; have n0_ := Aside0.mk (Kd.S_below (by (with_reducible repeat (first | apply Kd.S_alloc | apply Kd.S_drewN | apply Kd.S_drew)); exact HO311.out) hb); have n1_ := Aside0.mk (Kd.S_below (by (with_reducible repeat (first | apply Kd.S_alloc | apply Kd.S_drewN | apply Kd.S_drew)); exact HO315.out) hb); have n2_ := Aside0.mk (below_step (by repeat (first | (with_reducible first | exact HB.out | apply below_alloc | apply pw_below_drewN | apply below_drew1) | exact HB.out)) hb); clear HO311; clear HO315; clear HB; have HO311 := n0_; have HO315 := n1_; have HB := n2_; clear n0_ n1_ n2_; (try clear hb); (try clear hb2); (try clear hk); (try clear hi)) | ((with_reducible refine gate_callee (f := 12) rfl ?_); refine goesL_ (some 54) rfl rfl Try.func12 (by kernel_rfl) rfl #[.slice A0 l0.length c0, .slice A1 l1.length c1, .slice A2 l2.length c2] rfl (by (try simp only [List.map_toArray, List.map_cons, List.map_nil]); first | done | rfl | (simp only [List.length_drop, List.length_take]; rfl)) ?_; (with_reducible refine (standbyref45_Exact.calls kj3 _ _ l0 _ _ l1 _ _ l2 t318 t319 _ ?side1 ?side2 ?side3 ?side4 ?side5 ?side6 A16.out).mono ?_); (case side1 => repeat (first | exact (Kd.C_below HR0.out HB.out) | (with_reducible refine Kd.C_alloc ?_ _) | (with_reducible refine Kd.C_drewN ?_ _) | (with_reducible refine Kd.C_drew ?_))); (case side2 => exact HC0.out); (case side3 => repeat (first | exact (Kd.C_below HR1.out HB.out) | (with_reducible refine Kd.C_alloc ?_ _) | (with_reducible refine Kd.C_drewN ?_ _) | (with_reducible refine Kd.C_drew ?_))); (case side4 => exact HC1.out); (case side5 => repeat (first | exact (Kd.C_below HR2.out HB.out) | (with_reducible refine Kd.C_alloc ?_ _) | (with_reducible refine Kd.C_drewN ?_ _) | (with_reducible refine Kd.C_drew ?_))); (case side6 => exact HC2.out); rintro e w33 ⟨rfl, hb⟩; refine ⟨_, rfl, ?_⟩; have n0_ := Aside0.mk (Kd.S_below (by (with_reducible repeat (first | apply Kd.S_alloc | apply Kd.S_drewN | apply Kd.S_drew)); exact HO311.out) hb); have n1_ := Aside0.mk (Kd.S_below (by (with_reducible repeat (first | apply Kd.S_alloc | apply Kd.S_drewN | apply Kd.S_drew)); exact HO315.out) hb); have n2_ := Aside0.mk (below_step (by repeat (first | (with_reducible first | exact HB.out | apply below_alloc | apply pw_below_drewN | apply below_drew1) | exact HB.out)) hb); clear HO311; clear HO315; clear HB; have HO311 := n0_; have HO315 := n1_; have HB := n2_; clear n0_ n1_ n2_; (try clear hb); (try clear hb2); (try clear hk); (try clear hi)) | ((with_reducible refine gate_callee (f := 8) rfl ?_); refine goesL_ (some 57) rfl rfl Try.func8 (by kernel_rfl) rfl #[] rfl (by (try simp only [List.map_toArray, List.map_cons, List.map_nil]); first | done | rfl | (simp only [List.length_drop, List.length_take]; rfl)) ?_; (with_reducible refine (standbylaw45_awake.calls kj3  true _ A17.out).mono ?_); rintro e w34 ⟨rfl, hb⟩; refine ⟨_, rfl, ?_⟩; have n0_ := Aside0.mk (Kd.S_below (by (with_reducible repeat (first | apply Kd.S_alloc | apply Kd.S_drewN | apply Kd.S_drew)); exact HO311.out) hb); have n1_ := Aside0.mk (Kd.S_below (by (with_reducible repeat (first | apply Kd.S_alloc | apply Kd.S_drewN | apply Kd.S_drew)); exact HO315.out) hb); have n2_ := Aside0.mk (below_step (by repeat (first | (with_reducible first | exact HB.out | apply below_alloc | apply pw_below_drewN | apply below_drew1) | exact HB.out)) hb); clear HO311; clear HO315; clear HB; have HO311 := n0_; have HO315 := n1_; have HB := n2_; clear n0_ n1_ n2_; (try clear hb); (try clear hb2); (try clear hk); (try clear hi); obtain ⟨Ao35, co35, eo35⟩ := Kd.S_slice HO311.out; subst eo35; obtain ⟨Ao36, co36, eo36⟩ := Kd.S_slice HO315.out; subst eo36) | (go_at_call 13; (with_reducible refine (standbyref36_SameExtents.calls kj3 _ _ t308 _ _ t312 true _ ?side1 ?side2 ?side3 ?side4 A19.out).mono ?_); (case side1 => repeat (first | exact (Kd.S_reads' HO311.out).2.2 | (with_reducible refine Kd.C_alloc ?_ _) | (with_reducible refine Kd.C_drewN ?_ _) | (with_reducible refine Kd.C_drew ?_))); (case side2 => exact (Kd.S_reads' HO311.out).2.1); (case side3 => repeat (first | exact (Kd.S_reads' HO315.out).2.2 | (with_reducible refine Kd.C_alloc ?_ _) | (with_reducible refine Kd.C_drewN ?_ _) | (with_reducible refine Kd.C_drew ?_))); (case side4 => exact (Kd.S_reads' HO315.out).2.1); rintro e w' ⟨rfl, ⟨nd, rfl⟩⟩))
                go_ret
                exact ⟨by first | rfl | (simp [errW_none, errW_some] <;> rfl) | (simp [*, errW_none, errW_some] <;> rfl), by repeat (first | (with_reducible first | exact HB.out | apply below_alloc | apply pw_below_drewN | apply below_drew1) | exact HB.out)⟩
            · rw [if_neg c21] at H
              have c21b0 : (t309 == t313) = false := beq_eq_false_iff_ne.mpr c21
              have c21b1 : (t309 != t313) = true := bne_iff_ne.mpr c21
              obtain rfl := Option.some.inj H
              go_wp2_with (first | ((with_reducible refine gate_callee (f := 9) rfl ?_); refine goesL_ (some 33) rfl rfl Try.func9 (by kernel_rfl) rfl #[.slice A0 l0.length c0, .slice A1 l1.length c1, .slice A2 l2.length c2] rfl (by (try simp only [List.map_toArray, List.map_cons, List.map_nil]); first | done | rfl | (simp only [List.length_drop, List.length_take]; rfl)) ?_; (with_reducible refine (resync_Needed.calls _ _ l0 _ _ l1 _ _ l2 t308 t309 _ ?side1 ?side2 ?side3 ?side4 ?side5 ?side6 A13.out).mono ?_); (case side1 => repeat (first | exact (Kd.C_below HR0.out HB.out) | (with_reducible refine Kd.C_alloc ?_ _) | (with_reducible refine Kd.C_drewN ?_ _) | (with_reducible refine Kd.C_drew ?_))); (case side2 => exact HC0.out); (case side3 => repeat (first | exact (Kd.C_below HR1.out HB.out) | (with_reducible refine Kd.C_alloc ?_ _) | (with_reducible refine Kd.C_drewN ?_ _) | (with_reducible refine Kd.C_drew ?_))); (case side4 => exact HC1.out); (case side5 => repeat (first | exact (Kd.C_below HR2.out HB.out) | (with_reducible refine Kd.C_alloc ?_ _) | (with_reducible refine Kd.C_drewN ?_ _) | (with_reducible refine Kd.C_drew ?_))); (case side6 => exact HC2.out); rintro e w37 ⟨v310, rfl, ho0, hb⟩; refine ⟨_, rfl, ?_⟩; have n0_ := Aside0.mk (Kd.S_lower ho0 (below_size (by repeat (first | (with_reducible first | exact HB.out | apply below_alloc | apply pw_below_drewN | apply below_drew1) | exact HB.out)))); have n1_ := Aside0.mk (below_step (by repeat (first | (with_reducible first | exact HB.out | apply below_alloc | apply pw_below_drewN | apply below_drew1) | exact HB.out)) hb); clear HB; have HO311 := n0_; have HB := n1_; clear n0_ n1_; (try clear hb); (try clear hb2); (try clear hk); (try clear hi); (try clear ho0)) | ((with_reducible refine gate_callee (f := 10) rfl ?_); refine goesL_ (some 40) rfl rfl Try.func10 (by kernel_rfl) rfl #[.slice A0 l0.length c0, .slice A1 l1.length c1, .slice A2 l2.length c2] rfl (by (try simp only [List.map_toArray, List.map_cons, List.map_nil]); first | done | rfl | (simp only [List.length_drop, List.length_take]; rfl)) ?_; (with_reducible refine (standbyref45_Needed.calls kj3 _ _ l0 _ _ l1 _ _ l2 t312 t313 _ ?side1 ?side2 ?side3 ?side4 ?side5 ?side6 A14.out).mono ?_); (case side1 => repeat (first | exact (Kd.C_below HR0.out HB.out) | (with_reducible refine Kd.C_alloc ?_ _) | (with_reducible refine Kd.C_drewN ?_ _) | (with_reducible refine Kd.C_drew ?_))); (case side2 => exact HC0.out); (case side3 => repeat (first | exact (Kd.C_below HR1.out HB.out) | (with_reducible refine Kd.C_alloc ?_ _) | (with_reducible refine Kd.C_drewN ?_ _) | (with_reducible refine Kd.C_drew ?_))); (case side4 => exact HC1.out); (case side5 => repeat (first | exact (Kd.C_below HR2.out HB.out) | (with_reducible refine Kd.C_alloc ?_ _) | (with_reducible refine Kd.C_drewN ?_ _) | (with_reducible refine Kd.C_drew ?_))); (case side6 => exact HC2.out); rintro e w38 ⟨v314, rfl, ho0, hb⟩; refine ⟨_, rfl, ?_⟩; have n0_ := Aside0.mk (Kd.S_elder' (by (with_reducible repeat (first | apply Kd.S_alloc | apply Kd.S_drewN | apply Kd.S_drew)); exact HO311.out) (Kd.S_base ho0) hb); have n1_ := Aside0.mk (Kd.S_lower (Kd.S_new' ho0 (Kd.S_lt (by (with_reducible repeat (first | apply Kd.S_alloc | apply Kd.S_drewN | apply Kd.S_drew)); exact HO311.out))) (below_size (by repeat (first | (with_reducible first | exact HB.out | apply below_alloc | apply pw_below_drewN | apply below_drew1) | exact HB.out)))); have n2_ := Aside0.mk (below_step (by repeat (first | (with_reducible first | exact HB.out | apply below_alloc | apply pw_below_drewN | apply below_drew1) | exact HB.out)) hb); clear HO311; clear HB; have HO311 := n0_; have HO315 := n1_; have HB := n2_; clear n0_ n1_ n2_; (try clear hb); (try clear hb2); (try clear hk); (try clear hi); (try clear ho0)) | ((with_reducible refine gate_callee (f := 11) rfl ?_); refine goesL_ (some 47) rfl rfl Try.func11 (by kernel_rfl) rfl #[.slice A0 l0.length c0, .slice A1 l1.length c1, .slice A2 l2.length c2] rfl (by (try simp only [List.map_toArray, List.map_cons, List.map_nil]); first | done | rfl | (simp only [List.length_drop, List.length_take]; rfl)) ?_; (with_reducible refine (resync_Exact.calls _ _ l0 _ _ l1 _ _ l2 t316 t317 _ ?side1 ?side2 ?side3 ?side4 ?side5 ?side6 A15.out).mono ?_); (case side1 => repeat (first | exact (Kd.C_below HR0.out HB.out) | (with_reducible refine Kd.C_alloc ?_ _) | (with_reducible refine Kd.C_drewN ?_ _) | (with_reducible refine Kd.C_drew ?_))); (case side2 => exact HC0.out); (case side3 => repeat (first | exact (Kd.C_below HR1.out HB.out) | (with_reducible refine Kd.C_alloc ?_ _) | (with_reducible refine Kd.C_drewN ?_ _) | (with_reducible refine Kd.C_drew ?_))); (case side4 => exact HC1.out); (case side5 => repeat (first | exact (Kd.C_below HR2.out HB.out) | (with_reducible refine Kd.C_alloc ?_ _) | (with_reducible refine Kd.C_drewN ?_ _) | (with_reducible refine Kd.C_drew ?_))); (case side6 => exact HC2.out); rintro e w39 ⟨rfl, hb⟩; refine ⟨_, rfl, ?_⟩; have n0_ := Aside0.mk (Kd.S_below (by (with_reducible repeat (first | apply Kd.S_alloc | apply Kd.S_drewN | apply Kd.S_drew)); exact HO311.out) hb); have n1_ := Aside0.mk (Kd.S_below (by (with_reducible repeat (first | apply Kd.S_alloc | apply Kd.S_drewN | apply Kd.S_drew)); exact HO315.out) hb); have n2_ := Aside0.mk (below_step (by repeat (first | (with_reducible first | exact HB.out | apply below_alloc | apply pw_below_drewN | apply below_drew1) | exact HB.out)) hb); clear HO311; clear HO315; clear HB; have HO311 := n0_; have HO315 := n1_; have HB := n2_; clear n0_ n1_ n2_; (try clear hb); (try clear hb2); (try clear hk); (try clear hi)) | ((with_reducible refine gate_callee (f := 12) rfl ?_); refine goesL_ (some 54) rfl rfl Try.func12 (by kernel_rfl) rfl #[.slice A0 l0.length c0, .slice A1 l1.length c1, .slice A2 l2.length c2] rfl (by (try simp only [List.map_toArray, List.map_cons, List.map_nil]); first | done | rfl | (simp only [List.length_drop, List.length_take]; rfl)) ?_; (with_reducible refine (standbyref45_Exact.calls kj3 _ _ l0 _ _ l1 _ _ l2 t318 t319 _ ?side1 ?side2 ?side3 ?side4 ?side5 ?side6 A16.out).mono ?_); (case side1 => repeat (first | exact (Kd.C_below HR0.out HB.out) | (with_reducible refine Kd.C_alloc ?_ _) | (with_reducible refine Kd.C_drewN ?_ _) | (with_reducible refine Kd.C_drew ?_))); (case side2 => exact HC0.out); (case side3 => repeat (first | exact (Kd.C_below HR1.out HB.out) | (with_reducible refine Kd.C_alloc ?_ _) | (with_reducible refine Kd.C_drewN ?_ _) | (with_reducible refine Kd.C_drew ?_))); (case side4 => exact HC1.out); (case side5 => repeat (first | exact (Kd.C_below HR2.out HB.out) | (with_reducible refine Kd.C_alloc ?_ _) | (with_reducible refine Kd.C_drewN ?_ _) | (with_reducible refine Kd.C_drew ?_))); (case side6 => exact HC2.out); rintro e w40 ⟨rfl, hb⟩; refine ⟨_, rfl, ?_⟩; have n0_ := Aside0.mk (Kd.S_below (by (with_reducible repeat (first | apply Kd.S_alloc | apply Kd.S_drewN | apply Kd.S_drew)); exact HO311.out) hb); have n1_ := Aside0.mk (Kd.S_below (by (with_reducible repeat (first | apply Kd.S_alloc | apply Kd.S_drewN | apply Kd.S_drew)); exact HO315.out) hb); have n2_ := Aside0.mk (below_step (by repeat (first | (with_reducible first | exact HB.out | apply below_alloc | apply pw_below_drewN | apply below_drew1) | exact HB.out)) hb); clear HO311; clear HO315; clear HB; have HO311 := n0_; have HO315 := n1_; have HB := n2_; clear n0_ n1_ n2_; (try clear hb); (try clear hb2); (try clear hk); (try clear hi)) | ((with_reducible refine gate_callee (f := 8) rfl ?_); refine goesL_ (some 57) rfl rfl Try.func8 (by kernel_rfl) rfl #[] rfl (by (try simp only [List.map_toArray, List.map_cons, List.map_nil]); first | done | rfl | (simp only [List.length_drop, List.length_take]; rfl)) ?_; (with_reducible refine (standbylaw45_awake.calls kj3  true _ A17.out).mono ?_); rintro e w41 ⟨rfl, hb⟩; refine ⟨_, rfl, ?_⟩; have n0_ := Aside0.mk (Kd.S_below (by (with_reducible repeat (first | apply Kd.S_alloc | apply Kd.S_drewN | apply Kd.S_drew)); exact HO311.out) hb); have n1_ := Aside0.mk (Kd.S_below (by (with_reducible repeat (first | apply Kd.S_alloc | apply Kd.S_drewN | apply Kd.S_drew)); exact HO315.out) hb); have n2_ := Aside0.mk (below_step (by repeat (first | (with_reducible first | exact HB.out | apply below_alloc | apply pw_below_drewN | apply below_drew1) | exact HB.out)) hb); clear HO311; clear HO315; clear HB; have HO311 := n0_; have HO315 := n1_; have HB := n2_; clear n0_ n1_ n2_; (try clear hb); (try clear hb2); (try clear hk); (try clear hi); obtain ⟨Ao42, co42, eo42⟩ := Kd.S_slice HO311.out; subst eo42; obtain ⟨Ao43, co43, eo43⟩ := Kd.S_slice HO315.out; subst eo43) | (go_at_call 13; (with_reducible refine (standbyref36_SameExtents.calls kj3 _ _ t308 _ _ t312 true _ ?side1 ?side2 ?side3 ?side4 A19.out).mono ?_); (case side1 => repeat (first | exact (Kd.S_reads' HO311.out).2.2 | (with_reducible refine Kd.C_alloc ?_ _) | (with_reducible refine Kd.C_drewN ?_ _) | (with_reducible refine Kd.C_drew ?_))); (case side2 => exact (Kd.S_reads' HO311.out).2.1); (case side3 => repeat (first | exact (Kd.S_reads' HO315.out).2.2 | (with_reducible refine Kd.C_alloc ?_ _) | (with_reducible refine Kd.C_drewN ?_ _) | (with_reducible refine Kd.C_drew ?_))); (case side4 => exact (Kd.S_reads' HO315.out).2.1); rintro e w' ⟨rfl, ⟨nd, rfl⟩⟩))
              go_ret
              exact ⟨by first | rfl | (simp [errW_none, errW_some] <;> rfl) | (simp [*, errW_none, errW_some] <;> rfl), by repeat (first | (with_reducible first | exact HB.out | apply below_alloc | apply pw_below_drewN | apply below_drew1) | exact HB.out)⟩
          · replace c20 := Bool.eq_false_iff.mpr c20
            subst c20
            have H1 : (some false) = some r := by rw [if_neg (show ¬ (false = true) by decide)] at H; exact H
            clear H
            have H := H1
            clear H1
            obtain rfl := Option.some.inj H
            go_wp2_with (first | ((with_reducible refine gate_callee (f := 9) rfl ?_); refine goesL_ (some 33) rfl rfl Try.func9 (by kernel_rfl) rfl #[.slice A0 l0.length c0, .slice A1 l1.length c1, .slice A2 l2.length c2] rfl (by (try simp only [List.map_toArray, List.map_cons, List.map_nil]); first | done | rfl | (simp only [List.length_drop, List.length_take]; rfl)) ?_; (with_reducible refine (resync_Needed.calls _ _ l0 _ _ l1 _ _ l2 t308 t309 _ ?side1 ?side2 ?side3 ?side4 ?side5 ?side6 A13.out).mono ?_); (case side1 => repeat (first | exact (Kd.C_below HR0.out HB.out) | (with_reducible refine Kd.C_alloc ?_ _) | (with_reducible refine Kd.C_drewN ?_ _) | (with_reducible refine Kd.C_drew ?_))); (case side2 => exact HC0.out); (case side3 => repeat (first | exact (Kd.C_below HR1.out HB.out) | (with_reducible refine Kd.C_alloc ?_ _) | (with_reducible refine Kd.C_drewN ?_ _) | (with_reducible refine Kd.C_drew ?_))); (case side4 => exact HC1.out); (case side5 => repeat (first | exact (Kd.C_below HR2.out HB.out) | (with_reducible refine Kd.C_alloc ?_ _) | (with_reducible refine Kd.C_drewN ?_ _) | (with_reducible refine Kd.C_drew ?_))); (case side6 => exact HC2.out); rintro e w44 ⟨v310, rfl, ho0, hb⟩; refine ⟨_, rfl, ?_⟩; have n0_ := Aside0.mk (Kd.S_lower ho0 (below_size (by repeat (first | (with_reducible first | exact HB.out | apply below_alloc | apply pw_below_drewN | apply below_drew1) | exact HB.out)))); have n1_ := Aside0.mk (below_step (by repeat (first | (with_reducible first | exact HB.out | apply below_alloc | apply pw_below_drewN | apply below_drew1) | exact HB.out)) hb); clear HB; have HO311 := n0_; have HB := n1_; clear n0_ n1_; (try clear hb); (try clear hb2); (try clear hk); (try clear hi); (try clear ho0)) | ((with_reducible refine gate_callee (f := 10) rfl ?_); refine goesL_ (some 40) rfl rfl Try.func10 (by kernel_rfl) rfl #[.slice A0 l0.length c0, .slice A1 l1.length c1, .slice A2 l2.length c2] rfl (by (try simp only [List.map_toArray, List.map_cons, List.map_nil]); first | done | rfl | (simp only [List.length_drop, List.length_take]; rfl)) ?_; (with_reducible refine (standbyref45_Needed.calls kj3 _ _ l0 _ _ l1 _ _ l2 t312 t313 _ ?side1 ?side2 ?side3 ?side4 ?side5 ?side6 A14.out).mono ?_); (case side1 => repeat (first | exact (Kd.C_below HR0.out HB.out) | (with_reducible refine Kd.C_alloc ?_ _) | (with_reducible refine Kd.C_drewN ?_ _) | (with_reducible refine Kd.C_drew ?_))); (case side2 => exact HC0.out); (case side3 => repeat (first | exact (Kd.C_below HR1.out HB.out) | (with_reducible refine Kd.C_alloc ?_ _) | (with_reducible refine Kd.C_drewN ?_ _) | (with_reducible refine Kd.C_drew ?_))); (case side4 => exact HC1.out); (case side5 => repeat (first | exact (Kd.C_below HR2.out HB.out) | (with_reducible refine Kd.C_alloc ?_ _) | (with_reducible refine Kd.C_drewN ?_ _) | (with_reducible refine Kd.C_drew ?_))); (case side6 => exact HC2.out); rintro e w45 ⟨v314, rfl, ho0, hb⟩; refine ⟨_, rfl, ?_⟩; have n0_ := Aside0.mk (Kd.S_elder' (by (with_reducible repeat (first | apply Kd.S_alloc | apply Kd.S_drewN | apply Kd.S_drew)); exact HO311.out) (Kd.S_base ho0) hb); have n1_ := Aside0.mk (Kd.S_lower (Kd.S_new' ho0 (Kd.S_lt (by (with_reducible repeat (first | apply Kd.S_alloc | apply Kd.S_drewN | apply Kd.S_drew)); exact HO311.out))) (below_size (by repeat (first | (with_reducible first | exact HB.out | apply below_alloc | apply pw_below_drewN | apply below_drew1) | exact HB.out)))); have n2_ := Aside0.mk (below_step (by repeat (first | (with_reducible first | exact HB.out | apply below_alloc | apply pw_below_drewN | apply below_drew1) | exact HB.out)) hb); clear HO311; clear HB; have HO311 := n0_; have HO315 := n1_; have HB := n2_; clear n0_ n1_ n2_; (try clear hb); (try clear hb2); (try clear hk); (try clear hi); (try clear ho0)) | ((with_reducible refine gate_callee (f := 11) rfl ?_); refine goesL_ (some 47) rfl rfl Try.func11 (by kernel_rfl) rfl #[.slice A0 l0.length c0, .slice A1 l1.length c1, .slice A2 l2.length c2] rfl (by (try simp only [List.map_toArray, List.map_cons, List.map_nil]); first | done | rfl | (simp only [List.length_drop, List.length_take]; rfl)) ?_; (with_reducible refine (resync_Exact.calls _ _ l0 _ _ l1 _ _ l2 t316 t317 _ ?side1 ?side2 ?side3 ?side4 ?side5 ?side6 A15.out).mono ?_); (case side1 => repeat (first | exact (Kd.C_below HR0.out HB.out) | (with_reducible refine Kd.C_alloc ?_ _) | (with_reducible refine Kd.C_drewN ?_ _) | (with_reducible refine Kd.C_drew ?_))); (case side2 => exact HC0.out); (case side3 => repeat (first | exact (Kd.C_below HR1.out HB.out) | (with_reducible refine Kd.C_alloc ?_ _) | (with_reducible refine Kd.C_drewN ?_ _) | (with_reducible refine Kd.C_drew ?_))); (case side4 => exact HC1.out); (case side5 => repeat (first | exact (Kd.C_below HR2.out HB.out) | (with_reducible refine Kd.C_alloc ?_ _) | (with_reducible refine Kd.C_drewN ?_ _) | (with_reducible refine Kd.C_drew ?_))); (case side6 => exact HC2.out); rintro e w46 ⟨rfl, hb⟩; refine ⟨_, rfl, ?_⟩; have n0_ := Aside0.mk (Kd.S_below (by (with_reducible repeat (first | apply Kd.S_alloc | apply Kd.S_drewN | apply Kd.S_drew)); exact HO311.out) hb); have n1_ := Aside0.mk (Kd.S_below (by (with_reducible repeat (first | apply Kd.S_alloc | apply Kd.S_drewN | apply Kd.S_drew)); exact HO315.out) hb); have n2_ := Aside0.mk (below_step (by repeat (first | (with_reducible first | exact HB.out | apply below_alloc | apply pw_below_drewN | apply below_drew1) | exact HB.out)) hb); clear HO311; clear HO315; clear HB; have HO311 := n0_; have HO315 := n1_; have HB := n2_; clear n0_ n1_ n2_; (try clear hb); (try clear hb2); (try clear hk); (try clear hi)) | ((with_reducible refine gate_callee (f := 12) rfl ?_); refine goesL_ (some 54) rfl rfl Try.func12 (by kernel_rfl) rfl #[.slice A0 l0.length c0, .slice A1 l1.length c1, .slice A2 l2.length c2] rfl (by (try simp only [List.map_toArray, List.map_cons, List.map_nil]); first | done | rfl | (simp only [List.length_drop, List.length_take]; rfl)) ?_; (with_reducible refine (standbyref45_Exact.calls kj3 _ _ l0 _ _ l1 _ _ l2 t318 t319 _ ?side1 ?side2 ?side3 ?side4 ?side5 ?side6 A16.out).mono ?_); (case side1 => repeat (first | exact (Kd.C_below HR0.out HB.out) | (with_reducible refine Kd.C_alloc ?_ _) | (with_reducible refine Kd.C_drewN ?_ _) | (with_reducible refine Kd.C_drew ?_))); (case side2 => exact HC0.out); (case side3 => repeat (first | exact (Kd.C_below HR1.out HB.out) | (with_reducible refine Kd.C_alloc ?_ _) | (with_reducible refine Kd.C_drewN ?_ _) | (with_reducible refine Kd.C_drew ?_))); (case side4 => exact HC1.out); (case side5 => repeat (first | exact (Kd.C_below HR2.out HB.out) | (with_reducible refine Kd.C_alloc ?_ _) | (with_reducible refine Kd.C_drewN ?_ _) | (with_reducible refine Kd.C_drew ?_))); (case side6 => exact HC2.out); rintro e w47 ⟨rfl, hb⟩; refine ⟨_, rfl, ?_⟩; have n0_ := Aside0.mk (Kd.S_below (by (with_reducible repeat (first | apply Kd.S_alloc | apply Kd.S_drewN | apply Kd.S_drew)); exact HO311.out) hb); have n1_ := Aside0.mk (Kd.S_below (by (with_reducible repeat (first | apply Kd.S_alloc | apply Kd.S_drewN | apply Kd.S_drew)); exact HO315.out) hb); have n2_ := Aside0.mk (below_step (by repeat (first | (with_reducible first | exact HB.out | apply below_alloc | apply pw_below_drewN | apply below_drew1) | exact HB.out)) hb); clear HO311; clear HO315; clear HB; have HO311 := n0_; have HO315 := n1_; have HB := n2_; clear n0_ n1_ n2_; (try clear hb); (try clear hb2); (try clear hk); (try clear hi)) | ((with_reducible refine gate_callee (f := 8) rfl ?_); refine goesL_ (some 57) rfl rfl Try.func8 (by kernel_rfl) rfl #[] rfl (by (try simp only [List.map_toArray, List.map_cons, List.map_nil]); first | done | rfl | (simp only [List.length_drop, List.length_take]; rfl)) ?_; (with_reducible refine (standbylaw45_awake.calls kj3  true _ A17.out).mono ?_); rintro e w48 ⟨rfl, hb⟩; refine ⟨_, rfl, ?_⟩; have n0_ := Aside0.mk (Kd.S_below (by (with_reducible repeat (first | apply Kd.S_alloc | apply Kd.S_drewN | apply Kd.S_drew)); exact HO311.out) hb); have n1_ := Aside0.mk (Kd.S_below (by (with_reducible repeat (first | apply Kd.S_alloc | apply Kd.S_drewN | apply Kd.S_drew)); exact HO315.out) hb); have n2_ := Aside0.mk (below_step (by repeat (first | (with_reducible first | exact HB.out | apply below_alloc | apply pw_below_drewN | apply below_drew1) | exact HB.out)) hb); clear HO311; clear HO315; clear HB; have HO311 := n0_; have HO315 := n1_; have HB := n2_; clear n0_ n1_ n2_; (try clear hb); (try clear hb2); (try clear hk); (try clear hi); obtain ⟨Ao49, co49, eo49⟩ := Kd.S_slice HO311.out; subst eo49; obtain ⟨Ao50, co50, eo50⟩ := Kd.S_slice HO315.out; subst eo50) | (go_at_call 13; (with_reducible refine (standbyref36_SameExtents.calls kj3 _ _ t308 _ _ t312 false _ ?side1 ?side2 ?side3 ?side4 A19.out).mono ?_); (case side1 => repeat (first | exact (Kd.S_reads' HO311.out).2.2 | (with_reducible refine Kd.C_alloc ?_ _) | (with_reducible refine Kd.C_drewN ?_ _) | (with_reducible refine Kd.C_drew ?_))); (case side2 => exact (Kd.S_reads' HO311.out).2.1); (case side3 => repeat (first | exact (Kd.S_reads' HO315.out).2.2 | (with_reducible refine Kd.C_alloc ?_ _) | (with_reducible refine Kd.C_drewN ?_ _) | (with_reducible refine Kd.C_drew ?_))); (case side4 => exact (Kd.S_reads' HO315.out).2.1); rintro e w' ⟨rfl, ⟨nd, rfl⟩⟩))
            go_ret
            exact ⟨by first | rfl | (simp [errW_none, errW_some] <;> rfl) | (simp [*, errW_none, errW_some] <;> rfl), by repeat (first | (with_reducible first | exact HB.out | apply below_alloc | apply pw_below_drewN | apply below_drew1) | exact HB.out)⟩
        · replace c18 := Bool.eq_false_iff.mpr c18
          subst c18
          have H1 : (some false) = some r := by rw [if_neg (show ¬ (false = true) by decide)] at H; exact H
          clear H
          have H := H1
          clear H1
          obtain rfl := Option.some.inj H
          go_wp2_with (first | ((with_reducible refine gate_callee (f := 9) rfl ?_); refine goesL_ (some 33) rfl rfl Try.func9 (by kernel_rfl) rfl #[.slice A0 l0.length c0, .slice A1 l1.length c1, .slice A2 l2.length c2] rfl (by (try simp only [List.map_toArray, List.map_cons, List.map_nil]); first | done | rfl | (simp only [List.length_drop, List.length_take]; rfl)) ?_; (with_reducible refine (resync_Needed.calls _ _ l0 _ _ l1 _ _ l2 t308 t309 _ ?side1 ?side2 ?side3 ?side4 ?side5 ?side6 A13.out).mono ?_); (case side1 => repeat (first | exact (Kd.C_below HR0.out HB.out) | (with_reducible refine Kd.C_alloc ?_ _) | (with_reducible refine Kd.C_drewN ?_ _) | (with_reducible refine Kd.C_drew ?_))); (case side2 => exact HC0.out); (case side3 => repeat (first | exact (Kd.C_below HR1.out HB.out) | (with_reducible refine Kd.C_alloc ?_ _) | (with_reducible refine Kd.C_drewN ?_ _) | (with_reducible refine Kd.C_drew ?_))); (case side4 => exact HC1.out); (case side5 => repeat (first | exact (Kd.C_below HR2.out HB.out) | (with_reducible refine Kd.C_alloc ?_ _) | (with_reducible refine Kd.C_drewN ?_ _) | (with_reducible refine Kd.C_drew ?_))); (case side6 => exact HC2.out); rintro e w51 ⟨v310, rfl, ho0, hb⟩; refine ⟨_, rfl, ?_⟩; have n0_ := Aside0.mk (Kd.S_lower ho0 (below_size (by repeat (first | (with_reducible first | exact HB.out | apply below_alloc | apply pw_below_drewN | apply below_drew1) | exact HB.out)))); have n1_ := Aside0.mk (below_step (by repeat (first | (with_reducible first | exact HB.out | apply below_alloc | apply pw_below_drewN | apply below_drew1) | exact HB.out)) hb); clear HB; have HO311 := n0_; have HB := n1_; clear n0_ n1_; (try clear hb); (try clear hb2); (try clear hk); (try clear hi); (try clear ho0)) | ((with_reducible refine gate_callee (f := 10) rfl ?_); refine goesL_ (some 40) rfl rfl Try.func10 (by kernel_rfl) rfl #[.slice A0 l0.length c0, .slice A1 l1.length c1, .slice A2 l2.length c2] rfl (by (try simp only [List.map_toArray, List.map_cons, List.map_nil]); first | done | rfl | (simp only [List.length_drop, List.length_take]; rfl)) ?_; (with_reducible refine (standbyref45_Needed.calls kj3 _ _ l0 _ _ l1 _ _ l2 t312 t313 _ ?side1 ?side2 ?side3 ?side4 ?side5 ?side6 A14.out).mono ?_); (case side1 => repeat (first | exact (Kd.C_below HR0.out HB.out) | (with_reducible refine Kd.C_alloc ?_ _) | (with_reducible refine Kd.C_drewN ?_ _) | (with_reducible refine Kd.C_drew ?_))); (case side2 => exact HC0.out); (case side3 => repeat (first | exact (Kd.C_below HR1.out HB.out) | (with_reducible refine Kd.C_alloc ?_ _) | (with_reducible refine Kd.C_drewN ?_ _) | (with_reducible refine Kd.C_drew ?_))); (case side4 => exact HC1.out); (case side5 => repeat (first | exact (Kd.C_below HR2.out HB.out) | (with_reducible refine Kd.C_alloc ?_ _) | (with_reducible refine Kd.C_drewN ?_ _) | (with_reducible refine Kd.C_drew ?_))); (case side6 => exact HC2.out); rintro e w52 ⟨v314, rfl, ho0, hb⟩; refine ⟨_, rfl, ?_⟩; have n0_ := Aside0.mk (Kd.S_elder' (by (with_reducible repeat (first | apply Kd.S_alloc | apply Kd.S_drewN | apply Kd.S_drew)); exact HO311.out) (Kd.S_base ho0) hb); have n1_ := Aside0.mk (Kd.S_lower (Kd.S_new' ho0 (Kd.S_lt (by (with_reducible repeat (first | apply Kd.S_alloc | apply Kd.S_drewN | apply Kd.S_drew)); exact HO311.out))) (below_size (by repeat (first | (with_reducible first | exact HB.out | apply below_alloc | apply pw_below_drewN | apply below_drew1) | exact HB.out)))); have n2_ := Aside0.mk (below_step (by repeat (first | (with_reducible first | exact HB.out | apply below_alloc | apply pw_below_drewN | apply below_drew1) | exact HB.out)) hb); clear HO311; clear HB; have HO311 := n0_; have HO315 := n1_; have HB := n2_; clear n0_ n1_ n2_; (try clear hb); (try clear hb2); (try clear hk); (try clear hi); (try clear ho0)) | ((with_reducible refine gate_callee (f := 11) rfl ?_); refine goesL_ (some 47) rfl rfl Try.func11 (by kernel_rfl) rfl #[.slice A0 l0.length c0, .slice A1 l1.length c1, .slice A2 l2.length c2] rfl (by (try simp only [List.map_toArray, List.map_cons, List.map_nil]); first | done | rfl | (simp only [List.length_drop, List.length_take]; rfl)) ?_; (with_reducible refine (resync_Exact.calls _ _ l0 _ _ l1 _ _ l2 t316 t317 _ ?side1 ?side2 ?side3 ?side4 ?side5 ?side6 A15.out).mono ?_); (case side1 => repeat (first | exact (Kd.C_below HR0.out HB.out) | (with_reducible refine Kd.C_alloc ?_ _) | (with_reducible refine Kd.C_drewN ?_ _) | (with_reducible refine Kd.C_drew ?_))); (case side2 => exact HC0.out); (case side3 => repeat (first | exact (Kd.C_below HR1.out HB.out) | (with_reducible refine Kd.C_alloc ?_ _) | (with_reducible refine Kd.C_drewN ?_ _) | (with_reducible refine Kd.C_drew ?_))); (case side4 => exact HC1.out); (case side5 => repeat (first | exact (Kd.C_below HR2.out HB.out) | (with_reducible refine Kd.C_alloc ?_ _) | (with_reducible refine Kd.C_drewN ?_ _) | (with_reducible refine Kd.C_drew ?_))); (case side6 => exact HC2.out); rintro e w53 ⟨rfl, hb⟩; refine ⟨_, rfl, ?_⟩; have n0_ := Aside0.mk (Kd.S_below (by (with_reducible repeat (first | apply Kd.S_alloc | apply Kd.S_drewN | apply Kd.S_drew)); exact HO311.out) hb); have n1_ := Aside0.mk (Kd.S_below (by (with_reducible repeat (first | apply Kd.S_alloc | apply Kd.S_drewN | apply Kd.S_drew)); exact HO315.out) hb); have n2_ := Aside0.mk (below_step (by repeat (first | (with_reducible first | exact HB.out | apply below_alloc | apply pw_below_drewN | apply below_drew1) | exact HB.out)) hb); clear HO311; clear HO315; clear HB; have HO311 := n0_; have HO315 := n1_; have HB := n2_; clear n0_ n1_ n2_; (try clear hb); (try clear hb2); (try clear hk); (try clear hi)) | ((with_reducible refine gate_callee (f := 12) rfl ?_); refine goesL_ (some 54) rfl rfl Try.func12 (by kernel_rfl) rfl #[.slice A0 l0.length c0, .slice A1 l1.length c1, .slice A2 l2.length c2] rfl (by (try simp only [List.map_toArray, List.map_cons, List.map_nil]); first | done | rfl | (simp only [List.length_drop, List.length_take]; rfl)) ?_; (with_reducible refine (standbyref45_Exact.calls kj3 _ _ l0 _ _ l1 _ _ l2 t318 t319 _ ?side1 ?side2 ?side3 ?side4 ?side5 ?side6 A16.out).mono ?_); (case side1 => repeat (first | exact (Kd.C_below HR0.out HB.out) | (with_reducible refine Kd.C_alloc ?_ _) | (with_reducible refine Kd.C_drewN ?_ _) | (with_reducible refine Kd.C_drew ?_))); (case side2 => exact HC0.out); (case side3 => repeat (first | exact (Kd.C_below HR1.out HB.out) | (with_reducible refine Kd.C_alloc ?_ _) | (with_reducible refine Kd.C_drewN ?_ _) | (with_reducible refine Kd.C_drew ?_))); (case side4 => exact HC1.out); (case side5 => repeat (first | exact (Kd.C_below HR2.out HB.out) | (with_reducible refine Kd.C_alloc ?_ _) | (with_reducible refine Kd.C_drewN ?_ _) | (with_reducible refine Kd.C_drew ?_))); (case side6 => exact HC2.out); rintro e w54 ⟨rfl, hb⟩; refine ⟨_, rfl, ?_⟩; have n0_ := Aside0.mk (Kd.S_below (by (with_reducible repeat (first | apply Kd.S_alloc | apply Kd.S_drewN | apply Kd.S_drew)); exact HO311.out) hb); have n1_ := Aside0.mk (Kd.S_below (by (with_reducible repeat (first | apply Kd.S_alloc | apply Kd.S_drewN | apply Kd.S_drew)); exact HO315.out) hb); have n2_ := Aside0.mk (below_step (by repeat (first | (with_reducible first | exact HB.out | apply below_alloc | apply pw_below_drewN | apply below_drew1) | exact HB.out)) hb); clear HO311; clear HO315; clear HB; have HO311 := n0_; have HO315 := n1_; have HB := n2_; clear n0_ n1_ n2_; (try clear hb); (try clear hb2); (try clear hk); (try clear hi)) | ((with_reducible refine gate_callee (f := 8) rfl ?_); refine goesL_ (some 57) rfl rfl Try.func8 (by kernel_rfl) rfl #[] rfl (by (try simp only [List.map_toArray, List.map_cons, List.map_nil]); first | done | rfl | (simp only [List.length_drop, List.length_take]; rfl)) ?_; (with_reducible refine (standbylaw45_awake.calls kj3  false _ A17.out).mono ?_); rintro e w55 ⟨rfl, hb⟩; refine ⟨_, rfl, ?_⟩; have n0_ := Aside0.mk (Kd.S_below (by (with_reducible repeat (first | apply Kd.S_alloc | apply Kd.S_drewN | apply Kd.S_drew)); exact HO311.out) hb); have n1_ := Aside0.mk (Kd.S_below (by (with_reducible repeat (first | apply Kd.S_alloc | apply Kd.S_drewN | apply Kd.S_drew)); exact HO315.out) hb); have n2_ := Aside0.mk (below_step (by repeat (first | (with_reducible first | exact HB.out | apply below_alloc | apply pw_below_drewN | apply below_drew1) | exact HB.out)) hb); clear HO311; clear HO315; clear HB; have HO311 := n0_; have HO315 := n1_; have HB := n2_; clear n0_ n1_ n2_; (try clear hb); (try clear hb2); (try clear hk); (try clear hi)))
          go_ret
          exact ⟨by first | rfl | (simp [errW_none, errW_some] <;> rfl) | (simp [*, errW_none, errW_some] <;> rfl), by repeat (first | (with_reducible first | exact HB.out | apply below_alloc | apply pw_below_drewN | apply below_drew1) | exact HB.out)⟩
end Go.Proofs.Ytoichhdbomcdaaa.Pq
end
section
namespace Go.Proofs.Ytoichhdbomcdaaa.Pq
open Go.RowKit Go.Proofs.YtoichhdbomcdaaaW.PrintWords Go.Proofs.YtoichhdbomcdaaaW.PrintLast Go.Proofs.YtoichhdbomcdaaaW.PrintMore
set_option linter.unusedVariables false
set_option linter.unusedSimpArgs false
theorem getD_at {α : Type} (l : List α) (z : α) (j : Nat) (h : j < l.length) : l.getD j z = l[j] := by rw [List.getD_eq_getElem?_getD, List.getElem?_eq_getElem h]; rfl
theorem rdS (l : List (List SS)) (j : Nat) : rd_L2 l (j : Int) = l.getD j [] := by unfold rd_L2; rw [Int.toNat_natCast]
theorem rdE (l : List (List XE)) (j : Nat) : rd_L7 l (j : Int) = l.getD j [] := by unfold rd_L7; rw [Int.toNat_natCast]
theorem rdX (l : List XE) (j : Nat) : rd_T54 l (j : Int) = l.getD j z54 := by unfold rd_T54; rw [Int.toNat_natCast]
theorem rdSS (l : List SS) (j : Nat) : rd_T52 l (j : Int) = l.getD j z52 := by unfold rd_T52; rw [Int.toNat_natCast]
theorem up1 (j n : Nat) (h : j < n) (hn : n ≤ 1048576) : wrap64 ((j : Int) + 1) = ((j + 1 : Nat) : Int) := by rw [w64 (by omega) (by omega)]; rfl
def fewI (im : Img) : Bool := decide (im.length ≤ 9) && im.all fun v => decide (v.length ≤ 24)
def fewL (l : List (List XE)) : Bool := (l.take 20).all (fun x => decide (x.length ≤ 40)) && decide (l.length ≤ 20)
theorem ev_few_loop (l : Img) (hl : l.length ≤ 9) : ∀ (n j : Nat), l.length - j = n → j ≤ l.length → Ev (fun k => standbyref07_Few.l0 k l (j : Int)) ((l.drop j).all fun v => decide (v.length ≤ 24))
  | 0, j, hn, hj => by
    rw [List.drop_eq_nil_of_le (by omega)]
    exact Ev.step (f := fun _ => some true) (fun k => by rw [standbyref07_Few.l0, if_neg (by omega)]) (Ev.now true)
  | n + 1, j, hn, hj => by
    have h1 : j < l.length := by omega
    have ih := ev_few_loop l hl n (j + 1) (by omega) (by omega)
    rw [List.drop_eq_getElem_cons h1, List.all_cons]
    by_cases e : l[j].length ≤ 24
    · rw [decide_eq_true e, Bool.true_and]
      exact Ev.step (fun k => by rw [standbyref07_Few.l0, if_pos (by omega), if_pos (by omega), rdS, getD_at _ _ _ h1, if_neg (by omega), up1 j l.length h1 (by omega)]) ih
    · rw [decide_eq_false e, Bool.false_and]
      exact Ev.step (f := fun _ => some false) (fun k => by rw [standbyref07_Few.l0, if_pos (by omega), if_pos (by omega), rdS, getD_at _ _ _ h1, if_pos (by omega)]) (Ev.now false)
theorem ev_few (l : Img) : Ev (fun k => standbyref07_Few.f k l) (fewI l) := by
  unfold fewI
  by_cases h : l.length ≤ 9
  · rw [decide_eq_true h, Bool.true_and]
    exact Ev.congr (fun k => by unfold standbyref07_Few.f; rw [if_neg (by omega)]; rfl) (ev_few_loop l h l.length 0 (by omega) (by omega))
  · rw [decide_eq_false h, Bool.false_and]
    exact Ev.congr (f := fun _ => some false) (fun k => by unfold standbyref07_Few.f; rw [if_pos (by omega)]) (Ev.now false)
theorem ev_fewl_loop (l : List (List XE)) : ∀ (n j : Nat), 20 - j = n → j ≤ l.length → j ≤ 20 → Ev (fun k => standbyref45_FewLists.l0 k l (j : Int)) (((l.take 20).drop j).all (fun x => decide (x.length ≤ 40)) && decide (l.length ≤ 20))
  | n, j, hn, hj, h20 => by
    by_cases h1 : j < l.length ∧ j < 20
    · have ht : j < (l.take 20).length := by rw [List.length_take]; omega
      rw [List.drop_eq_getElem_cons ht, List.all_cons, List.getElem_take]
      by_cases e : l[j].length ≤ 40
      · rw [decide_eq_true e, Bool.true_and]
        have ih := ev_fewl_loop l (n - 1) (j + 1) (by omega) (by omega) (by omega)
        refine Ev.step (f := fun k => standbyref45_FewLists.j1 k l (j : Int) true) (fun k => by rw [standbyref45_FewLists.l0, if_pos (by omega), decide_eq_true (by omega)]) ?_
        exact Ev.step (fun k => by rw [standbyref45_FewLists.j1, if_pos rfl, if_pos (by omega), if_pos (by omega), rdE, getD_at _ _ _ h1.1, if_neg (by omega), up1 j 20 h1.2 (by omega)]) ih
      · rw [decide_eq_false e, Bool.false_and, Bool.false_and]
        refine Ev.step (f := fun k => standbyref45_FewLists.j1 k l (j : Int) true) (fun k => by rw [standbyref45_FewLists.l0, if_pos (by omega), decide_eq_true (by omega)]) ?_
        exact Ev.step (f := fun _ => some false) (fun k => by rw [standbyref45_FewLists.j1, if_pos rfl, if_pos (by omega), if_pos (by omega), rdE, getD_at _ _ _ h1.1, if_pos (by omega)]) (Ev.now false)
    · rw [List.drop_eq_nil_of_le (by rw [List.length_take]; omega), List.all_nil, Bool.true_and]
      refine Ev.step (f := fun k => standbyref45_FewLists.j1 k l (j : Int) false) (fun k => ?_) (Ev.step (f := fun _ => some (decide (l.length ≤ 20))) (fun k => ?_) (Ev.now _))
      · rw [standbyref45_FewLists.l0]
        by_cases h2 : j < l.length
        · rw [if_pos (by omega), decide_eq_false (by omega)]
        · rw [if_neg (by omega)]
      · rw [standbyref45_FewLists.j1, if_neg (by simp)]
        exact congrArg some (decide_eq_decide.2 (by omega))
termination_by n => n
theorem ev_fewl (l : List (List XE)) : Ev (fun k => standbyref45_FewLists.f k l) (fewL l) := ev_fewl_loop l 20 0 rfl (by omega) (by omega)
theorem fewL_le {l : List (List XE)} (h : fewL l = true) : l.length ≤ 20 ∧ ∀ x ∈ l, x.length ≤ 40 := by
  unfold fewL at h
  rw [Bool.and_eq_true, decide_eq_true_eq, List.all_eq_true] at h
  refine ⟨h.2, fun x hx => ?_⟩
  rw [List.take_of_length_le h.2] at h
  exact of_decide_eq_true (h.1 x hx)
theorem fewI_le {l : Img} (h : fewI l = true) : l.length ≤ 9 ∧ ∀ x ∈ l, x.length ≤ 24 := by
  unfold fewI at h
  rw [Bool.and_eq_true, decide_eq_true_eq, List.all_eq_true] at h
  exact ⟨h.1, fun x hx => of_decide_eq_true (h.2 x hx)⟩
theorem ev_sizes_loop (l : List Int) (hl : l.length ≤ 1048576) : ∀ (n j : Nat), l.length - j = n → j ≤ l.length → Ev (fun k => standbyref07_Sizes.l0 k l (j : Int)) (if (l.drop j).any badSize then 2 else 0)
  | 0, j, hn, hj => by
    rw [List.drop_eq_nil_of_le (by omega)]
    exact Ev.step (f := fun _ => some 0) (fun k => by rw [standbyref07_Sizes.l0, if_neg (by omega)]) (Ev.now 0)
  | n + 1, j, hn, hj => by
    have h1 : j < l.length := by omega
    have hrd : rd l (j : Int) = l[j] := by unfold rd; rw [Int.toNat_natCast, List.getD_eq_getElem?_getD, List.getElem?_eq_getElem h1]; rfl
    have ih := ev_sizes_loop l hl n (j + 1) (by omega) (by omega)
    rw [List.drop_eq_getElem_cons h1, List.any_cons]
    have hunf : ∀ k, standbyref07_Sizes.l0 (k + 1) l (j : Int) = (if l[j] < 1 then some 2 else if l[j] > 4096 then some 2 else standbyref07_Sizes.l0 k l ((j + 1 : Nat) : Int)) := fun k => by
      rw [standbyref07_Sizes.l0, if_pos (by omega), if_pos (by omega), hrd, up1 j l.length h1 hl]
    unfold badSize at *
    by_cases e : l[j] < 1
    · rw [decide_eq_true e]
      exact Ev.step (f := fun _ => some 2) (fun k => by rw [hunf, if_pos e]) (Ev.now 2)
    · by_cases e2 : 4096 < l[j]
      · rw [decide_eq_true e2, Bool.or_true]
        exact Ev.step (f := fun _ => some 2) (fun k => by rw [hunf, if_neg e, if_pos e2]) (Ev.now 2)
      · rw [decide_eq_false e, decide_eq_false e2, Bool.or_false, Bool.false_or]
        exact Ev.step (fun k => by rw [hunf, if_neg e, if_neg e2]) ih
theorem ev_sizes (l : List Int) (hl : l.length ≤ 1048576) : Ev (fun k => standbyref07_Sizes.f k l) (sizesErr l) := by
  unfold sizesErr
  by_cases h : l.length < 1 ∨ 8 < l.length
  · rw [if_pos h]
    refine Ev.congr (f := fun k => standbyref07_Sizes.j0 k l true) (fun k => ?_) (Ev.step (f := fun _ => some 6) (fun k => by rw [standbyref07_Sizes.j0, if_pos rfl]) (Ev.now 6))
    unfold standbyref07_Sizes.f
    by_cases h2 : l.length < 1
    · rw [if_pos (by omega)]
    · rw [if_neg (by omega), decide_eq_true (by omega)]
  · rw [if_neg h]
    refine Ev.congr (f := fun k => standbyref07_Sizes.j0 k l false) (fun k => ?_) (Ev.step (f := fun k => standbyref07_Sizes.l0 k l ((0 : Nat) : Int)) (fun k => by rw [standbyref07_Sizes.j0, if_neg (by simp)]; rfl) (ev_sizes_loop l hl l.length 0 (by omega) (by omega)))
    unfold standbyref07_Sizes.f
    rw [if_neg (by omega), decide_eq_false (by omega)]
theorem ev_sizesof_loop (l : Img) (hl : l.length ≤ 1048576) : ∀ (n j : Nat), l.length - j = n → j ≤ l.length → Ev (fun k => standbyref07_SizesOf.l0 k l (lens (l.take j)) (j : Int)) (lens l)
  | 0, j, hn, hj => by
    rw [List.take_of_length_le (by omega)]
    exact Ev.step (f := fun _ => some (lens l)) (fun k => by rw [standbyref07_SizesOf.l0, if_neg (by omega)]) (Ev.now _)
  | n + 1, j, hn, hj => by
    have h1 : j < l.length := by omega
    have ih := ev_sizesof_loop l hl n (j + 1) (by omega) (by omega)
    refine Ev.step (fun k => ?_) ih
    have hx : lens (l.take (j + 1)) = lens (l.take j) ++ [((l.getD j []).length : Int)] := by
      rw [getD_at _ _ _ h1, List.take_succ_eq_append_getElem h1]; unfold lens; rw [List.map_append]; rfl
    rw [standbyref07_SizesOf.l0, if_pos (by omega), if_pos (by omega), if_pos (by rw [lens_len, List.length_take]; omega), rdS, up1 j l.length h1 hl, hx]
theorem ev_rcheck (l : Img) (hl : l.length ≤ 1048576) : Ev (fun k => standbyref07_Check.f k l) (sizesErr (lens l)) := by
  refine Ev.bind (ev_sizesof_loop l hl l.length 0 (by omega) (by omega)) (Ev.bind (ev_sizes _ (by rw [lens_len]; exact hl)) (Ev.now _))
theorem ev_rpair_loop (a b : Img) (ha : a.length ≤ 1048576) (hl : a.length = b.length) : ∀ (n j : Nat), a.length - j = n → j ≤ a.length → Ev (fun k => standbyref07_pair.l0 k a b (j : Int)) (if (lens a).drop j = (lens b).drop j then 0 else 22)
  | 0, j, hn, hj => by
    rw [List.drop_eq_nil_of_le (by rw [lens_len]; omega), List.drop_eq_nil_of_le (by rw [lens_len]; omega)]
    exact Ev.step (f := fun _ => some 0) (fun k => by rw [standbyref07_pair.l0, if_neg (by omega)]) (Ev.now 0)
  | n + 1, j, hn, hj => by
    have h1 : j < a.length := by omega
    have h2 : j < b.length := by omega
    have ih := ev_rpair_loop a b ha hl n (j + 1) (by omega) (by omega)
    have e1 : (lens a).drop j = (a[j].length : Int) :: (lens a).drop (j + 1) := by
      rw [List.drop_eq_getElem_cons (by rw [lens_len]; exact h1)]; simp [lens]
    have e2 : (lens b).drop j = (b[j].length : Int) :: (lens b).drop (j + 1) := by
      rw [List.drop_eq_getElem_cons (by rw [lens_len]; exact h2)]; simp [lens]
    rw [e1, e2]
    by_cases e : (a[j].length : Int) = (b[j].length : Int)
    · have : ((a[j].length : Int) :: (lens a).drop (j + 1) = (b[j].length : Int) :: (lens b).drop (j + 1)) ↔ ((lens a).drop (j + 1) = (lens b).drop (j + 1)) := ⟨fun h => (List.cons.inj h).2, fun h => by rw [h, e]⟩
      rw [show (if ((a[j].length : Int) :: (lens a).drop (j + 1) = (b[j].length : Int) :: (lens b).drop (j + 1)) then (0 : Int) else 22) = (if ((lens a).drop (j + 1) = (lens b).drop (j + 1)) then 0 else 22) from by simp only [this]]
      exact Ev.step (fun k => by rw [standbyref07_pair.l0, if_pos (by omega), if_pos (by omega), if_pos (by omega), rdS, rdS, getD_at _ _ _ h1, getD_at _ _ _ h2, if_pos e, up1 j a.length h1 ha]) ih
    · rw [if_neg (fun h => e (List.cons.inj h).1)]
      exact Ev.step (f := fun _ => some 22) (fun k => by rw [standbyref07_pair.l0, if_pos (by omega), if_pos (by omega), if_pos (by omega), rdS, rdS, getD_at _ _ _ h1, getD_at _ _ _ h2, if_neg e]) (Ev.now 22)
theorem ev_rpair (a b : Img) (ha : a.length ≤ 1048576) (hb : b.length ≤ 1048576) : Ev (fun k => standbyref07_pair.f k a b) (pairX a b) := by
  unfold pairX
  refine Ev.bind (ev_rcheck a ha) ?_
  by_cases h0 : sizesErr (lens a) = 0
  · simp only [h0, if_true]
    refine Ev.bind (ev_rcheck b hb) ?_
    by_cases h1 : sizesErr (lens b) = 0
    · simp only [h1, if_true]
      by_cases h2 : a.length = b.length
      · have := ev_rpair_loop a b ha h2 a.length 0 (by omega) (by omega)
        simp only [List.drop_zero] at this
        exact Ev.congr (fun k => by rw [if_pos (by omega)]; rfl) this
      · rw [if_neg (fun e => h2 (by have := congrArg List.length e; rwa [lens_len, lens_len] at this))]
        exact Ev.congr (f := fun _ => some 22) (fun k => by rw [if_neg (by omega)]) (Ev.now 22)
    · simp only [h1, if_false]
      exact Ev.now _
  · simp only [h0, if_false]
    exact Ev.now _
end Go.Proofs.Ytoichhdbomcdaaa.Pq
end
section
namespace Go.Proofs.Ytoichhdbomcdaaa.Pq
open Go.RowKit Go.Proofs.YtoichhdbomcdaaaW.PrintWords Go.Proofs.YtoichhdbomcdaaaW.PrintLast Go.Proofs.YtoichhdbomcdaaaW.PrintMore
set_option linter.unusedVariables false
set_option linter.unusedSimpArgs false
theorem if_congr' {α : Type} {p q : Prop} [Decidable p] [Decidable q] {a b c d : α} (h : p ↔ q) (h1 : a = c) (h2 : b = d) : (if p then a else b) = (if q then c else d) := by simp only [h, h1, h2]
theorem bump_eq : ∀ (l : List XE) (i : Int), l ≠ [] → bump l i = if (l.getD (l.length - 1) z54).f0 + (l.getD (l.length - 1) z54).f1 = i then l.set (l.length - 1) ⟨(l.getD (l.length - 1) z54).f0, (l.getD (l.length - 1) z54).f1 + 1⟩ else l ++ [⟨i, 1⟩]
  | [], i, h => absurd rfl h
  | [x], i, _ => rfl
  | x :: y :: r, i, _ => by
    have ih := bump_eq (y :: r) i (by simp)
    have e : (x :: y :: r).getD ((x :: y :: r).length - 1) z54 = (y :: r).getD ((y :: r).length - 1) z54 := by simp
    rw [e, bump, ih]
    by_cases h : ((y :: r).getD ((y :: r).length - 1) z54).f0 + ((y :: r).getD ((y :: r).length - 1) z54).f1 = i
    · rw [if_pos h, if_pos h]; simp
    · rw [if_neg h, if_neg h]; rfl
theorem endOf_last : ∀ (l : List XE) (lo : Int), l ≠ [] → endOf lo l = (l.getD (l.length - 1) z54).f0 + (l.getD (l.length - 1) z54).f1
  | [], _, h => absurd rfl h
  | [x], _, _ => rfl
  | x :: y :: r, lo, _ => by
    have e : (x :: y :: r).getD ((x :: y :: r).length - 1) z54 = (y :: r).getD ((y :: r).length - 1) z54 := by simp
    rw [e, ← endOf_last (y :: r) (x.f0 + x.f1) (by simp)]; rfl
theorem last_bounds (p : Int → Bool) (n : Nat) (h : canon p n ≠ []) : 0 ≤ ((canon p n).getD ((canon p n).length - 1) z54).f0 ∧ 0 < ((canon p n).getD ((canon p n).length - 1) z54).f1 ∧ ((canon p n).getD ((canon p n).length - 1) z54).f0 + ((canon p n).getD ((canon p n).length - 1) z54).f1 ≤ n := by
  obtain ⟨hc, _, he⟩ := canon_spec p n
  rw [endOf_last _ _ h] at he
  have key : ∀ (l : List XE) (lo : Int), 0 ≤ lo → Canon lo l → ∀ x ∈ l, 0 ≤ x.f0 ∧ 0 < x.f1 := by
    intro l
    induction l with
    | nil => intro lo _ _ x hx; cases hx
    | cons y r ih =>
      intro lo h0 ⟨h1, h2, h3⟩ x hx
      rcases List.mem_cons.1 hx with rfl | hx
      · exact ⟨by omega, h2⟩
      · exact ih _ (by omega) h3 x hx
  have hlen : (canon p n).length - 1 < (canon p n).length := by have : (canon p n).length ≠ 0 := fun e => h (List.length_eq_zero_iff.1 e); omega
  have hm : (canon p n).getD ((canon p n).length - 1) z54 ∈ canon p n := by rw [getD_at _ _ _ hlen]; exact List.getElem_mem hlen
  obtain ⟨a, b⟩ := key _ 0 (Int.le_refl 0) hc _ hm
  exact ⟨a, b, he⟩
theorem canon_len (p : Int → Bool) : ∀ n, (canon p n).length ≤ n
  | 0 => Nat.le_refl 0
  | n + 1 => by
    have ih := canon_len p n
    have hb : ∀ (l : List XE) (i : Int), (bump l i).length ≤ l.length + 1 := by
      intro l i
      by_cases h : l = []
      · subst h; simp [bump]
      · rw [bump_eq l i h]; split <;> simp
    unfold canon
    split
    · have := hb (canon p n) n; omega
    · omega
theorem canon_put (p : Int → Bool) (n : Nat) (hp : p n = true) (hn : n ≤ 1048576) :
    canon p (n + 1) = if 0 < (canon p n).length ∧ ((canon p n).getD ((canon p n).length - 1) z54).f0 + ((canon p n).getD ((canon p n).length - 1) z54).f1 = n then (canon p n).set ((canon p n).length - 1) ⟨((canon p n).getD ((canon p n).length - 1) z54).f0, ((canon p n).getD ((canon p n).length - 1) z54).f1 + 1⟩ else canon p n ++ [⟨n, 1⟩] := by
  rw [canon, if_pos hp]
  by_cases h : canon p n = []
  · rw [h]; rfl
  · rw [bump_eq _ _ h]
    have : 0 < (canon p n).length := List.length_pos_iff.2 h
    simp only [this, true_and]
theorem canon_end (p : Int → Bool) (n : Nat) (h0 : 0 < n) : (p ((n : Int) - 1) = true ↔ (0 < (canon p n).length ∧ ((canon p n).getD ((canon p n).length - 1) z54).f0 + ((canon p n).getD ((canon p n).length - 1) z54).f1 = n)) := by
  obtain ⟨m, rfl⟩ : ∃ m, n = m + 1 := ⟨n - 1, by omega⟩
  rw [show (((m + 1 : Nat) : Int) - 1) = (m : Int) by omega]
  obtain ⟨hc, hm, he⟩ := canon_spec p m
  constructor
  · intro hp
    have e : canon p (m + 1) = bump (canon p m) m := by rw [canon, if_pos hp]
    have hne : bump (canon p m) (m : Int) ≠ [] := bump_ne _ _
    obtain ⟨_, _, c⟩ := canon_bump (canon p m) 0 m hc (by omega) he
    rw [e]
    refine ⟨List.length_pos_iff.2 hne, ?_⟩
    rw [← endOf_last _ 0 hne, c]; omega
  · rintro ⟨h1, h2⟩
    refine Decidable.byContradiction fun hp => ?_
    have e : canon p (m + 1) = canon p m := by rw [canon, if_neg hp]
    rw [e] at h1 h2
    rw [← endOf_last _ 0 (List.length_pos_iff.1 h1)] at h2
    omega
theorem ev_voldiff_loop (a b : List SS) (ha : a.length ≤ 1048576) (hb : b.length = a.length) : ∀ (n j : Nat), a.length - j = n → j ≤ a.length → Ev (fun k => standbyref07_VolumeDiffer.l0 k a b (canon (pd a b) j) (j : Int)) (canon (pd a b) a.length)
  | 0, j, hn, hj => by
    have : j = a.length := by omega
    subst this
    exact Ev.step (f := fun _ => some (canon (pd a b) a.length)) (fun k => by rw [standbyref07_VolumeDiffer.l0, if_neg (by omega)]) (Ev.now _)
  | n + 1, j, hn, hj => by
    have h1 : j < a.length := by omega
    have ih := ev_voldiff_loop a b ha hb n (j + 1) (by omega) (by omega)
    have hpd : pd a b (j : Int) = !eqS (a.getD j z52) (b.getD j z52) := by unfold pd; rw [Int.toNat_natCast]
    have hlen := canon_len (pd a b) j
    have hunf : ∀ k L, L.length ≤ j → standbyref07_VolumeDiffer.l0 (k + 1) a b L (j : Int) = (if eqS (a.getD j z52) (b.getD j z52) = true then standbyref07_VolumeDiffer.l0 k a b L ((j + 1 : Nat) : Int) else if 0 < L.length ∧ wrap64 ((L.getD (L.length - 1) z54).f0 + (L.getD (L.length - 1) z54).f1) = j then standbyref07_VolumeDiffer.l0 k a b (L.set (L.length - 1) ⟨(L.getD (L.length - 1) z54).f0, wrap64 ((L.getD (L.length - 1) z54).f1 + 1)⟩) ((j + 1 : Nat) : Int) else standbyref07_VolumeDiffer.l0 k a b (L ++ [⟨j, 1⟩]) ((j + 1 : Nat) : Int)) := fun k L hL => by
      rw [standbyref07_VolumeDiffer.l0, if_pos (by omega), if_pos (by omega), if_pos (by omega), rdSS, rdSS, up1 j a.length h1 ha]
      refine if_congr' Iff.rfl rfl ?_
      by_cases hL0 : 0 < L.length
      · have hw : wrap64 ((L.length : Int) - 1) = ((L.length - 1 : Nat) : Int) := by rw [w64 (by omega) (by omega)]; omega
        rw [hw, if_pos (by omega), if_pos (by omega), if_pos (by omega), rdX, Int.toNat_natCast, if_pos (show L.length < 8796093022208 by omega)]
        simp only [hL0, true_and]
      · rw [if_neg (by omega), if_pos (by omega), if_neg (fun h => hL0 h.1)]
    by_cases hq : eqS (a.getD j z52) (b.getD j z52) = true
    · have hp : canon (pd a b) (j + 1) = canon (pd a b) j := by rw [canon, if_neg (by rw [hpd, hq]; simp)]
      rw [hp] at ih
      exact Ev.step (fun k => by rw [hunf k _ hlen, if_pos hq]) ih
    · have hpt : pd a b (j : Int) = true := by rw [hpd]; simpa using hq
      have hput := canon_put (pd a b) j hpt (by omega)
      rw [hput] at ih
      by_cases hne : canon (pd a b) j = []
      · rw [hne] at ih ⊢
        exact Ev.step (fun k => by rw [hunf k _ (by simp), if_neg hq, if_neg (by simp)]) (by simpa using ih)
      · obtain ⟨b1, b2, b3⟩ := last_bounds (pd a b) j hne
        refine Ev.step (fun k => ?_) ih
        rw [hunf k _ hlen, if_neg hq, w64 (by omega) (by omega), w64 (by omega) (by omega)]
        split <;> rfl
theorem ev_voldiff (a b : List SS) (ha : a.length ≤ 1048576) (hb : b.length = a.length) : Ev (fun k => standbyref07_VolumeDiffer.f k a b) (canon (pd a b) a.length) :=
  ev_voldiff_loop a b ha hb a.length 0 (by omega) (by omega)
theorem ev_rdiffer_loop (a b : Img) (ha : a.length ≤ 1048576) (hs : sizesErr (lens a) = 0) (hl : lens a = lens b) : ∀ (n j : Nat) (out : List (List XE)), a.length - j = n → j ≤ a.length → out.length = j → out ++ mp (fun i x => canon (pd x (b.getD i [])) x.length) j (a.drop j) = difL a b →
    Ev (fun k => standbyref07_Differ.l0 k a b out (j : Int)) (difL a b, 0)
  | 0, j, out, hn, hj, ho, he => by
    rw [List.drop_eq_nil_of_le (by omega)] at he
    rw [← he]
    refine Ev.step (f := fun _ => some (out, 0)) (fun k => by rw [standbyref07_Differ.l0, if_neg (by omega)]) ?_
    simp only [mp, List.append_nil]
    exact Ev.now _
  | n + 1, j, out, hn, hj, ho, he => by
    have h1 : j < a.length := by omega
    have hll : a.length = b.length := by have := congrArg List.length hl; rwa [lens_len, lens_len] at this
    have ih := ev_rdiffer_loop a b ha hs hl n (j + 1) (out ++ [canon (pd (a.getD j []) (b.getD j [])) (a.getD j []).length]) (by omega) (by omega) (by simp [ho])
      (by rw [List.append_assoc, List.singleton_append, ← he, mp_drop _ a [] j h1])
    refine Ev.step (f := fun k => (standbyref07_VolumeDiffer.f k (a.getD j []) (b.getD j [])).bind fun t => standbyref07_Differ.l0 k a b (out ++ [t]) ((j + 1 : Nat) : Int)) (fun k => ?_) (Ev.bind (ev_voldiff _ _ (by have := sizes_le hs j h1; omega) (lens_at hl j h1)) ih)
    rw [standbyref07_Differ.l0, if_pos (by omega), if_pos (by omega), if_pos (by omega), rdS, rdS, up1 j a.length h1 ha]
    simp only [if_pos (show out.length < 5864062014805 by omega)]
theorem ev_rdiffer (a b : Img) (ha : a.length ≤ 1048576) (hb : b.length ≤ 1048576) : Ev (fun k => standbyref07_Differ.f k a b) (differX a b) := by
  unfold differX
  refine Ev.bind (ev_rpair a b ha hb) ?_
  by_cases h : pairX a b = 0
  · obtain ⟨hs, hl⟩ := pair_sizes h
    simp only [h, if_true]
    exact ev_rdiffer_loop a b ha hs hl a.length 0 [] (by omega) (by omega) rfl rfl
  · simp only [h, if_false]
    exact Ev.now _
end Go.Proofs.Ytoichhdbomcdaaa.Pq
end
section
namespace Go.Proofs.Ytoichhdbomcdaaa.Pq
open Go.RowKit Go.Proofs.YtoichhdbomcdaaaW.PrintWords Go.Proofs.YtoichhdbomcdaaaW.PrintLast Go.Proofs.YtoichhdbomcdaaaW.PrintMore
set_option linter.unusedVariables false
set_option linter.unusedSimpArgs false
theorem ev_within (s c n : Int) (h0 : 0 ≤ n) (h1 : n ≤ 4096) (hc : 0 < c) : standbyref01_within.f s c n = some (decide (0 ≤ s ∧ c ≤ n - s)) := by
  unfold standbyref01_within.f
  by_cases a : s ≥ 0
  · rw [if_pos a]
    by_cases b : c ≤ n
    · rw [if_pos b, w64 (by omega) (by omega)]
      exact congrArg some (decide_eq_decide.2 (by omega))
    · rw [if_neg b, decide_eq_false (by omega)]
  · rw [if_neg a, decide_eq_false (by omega)]
theorem ev_rlcheck_loop (n : Int) (hn0 : 0 ≤ n) (hn1 : n ≤ 4096) (l : List XE) (hl : l.length ≤ 1048576) : ∀ (m j : Nat) (en : Int), l.length - j = m → j ≤ l.length → -2 ≤ en → en ≤ 4096 →
    ∃ c, Ev (fun k => standbyref01_Check.l0 k l n en (j : Int)) c ∧ (c = 0 ↔ okC n (en + 2) (l.drop j) = true)
  | 0, j, en, hm, hj, h0, h1 => by
    refine ⟨0, Ev.step (f := fun _ => some 0) (fun k => ?_) (Ev.now 0), ?_⟩
    · rw [standbyref01_Check.l0, if_neg (by omega)]
    · rw [List.drop_eq_nil_of_le (by omega)]; simp [okC]
  | m + 1, j, en, hm, hj, h0, h1 => by
    have hlt : j < l.length := by omega
    rw [okC_drop n (en + 2) l j hlt]
    have ih := fun en' => ev_rlcheck_loop n hn0 hn1 l hl m (j + 1) en' (by omega) (by omega)
    have hunf : ∀ k, standbyref01_Check.l0 (k + 1) l n en (j : Int) = (if (l.getD j z54).f1 ≤ 0 then (some 1) else ((standbyref01_within.f ((l.getD j z54).f0) ((l.getD j z54).f1) n).bind fun t => (if t = true then (if ((l.getD j z54).f0) < en + 2 then (some 3) else (standbyref01_Check.l0 k l n (wrap64 ((wrap64 (((l.getD j z54).f0) + ((l.getD j z54).f1))) - 1)) ((j + 1 : Nat) : Int))) else (some 2)))) := fun k => by
      rw [standbyref01_Check.l0, if_pos (by omega), if_pos (by omega), rdX, up1 j l.length hlt hl, w64 (n := en + 2) (by omega) (by omega)]
    generalize l.getD j z54 = x at hunf ⊢
    by_cases c1 : x.f1 ≤ 0
    · refine ⟨1, Ev.step (f := fun _ => some 1) (fun k => by rw [hunf, if_pos c1]) (Ev.now 1), ?_⟩
      rw [show decide (0 < x.f1 ∧ 0 ≤ x.f0 ∧ x.f1 ≤ n - x.f0 ∧ en + 2 ≤ x.f0) = false from decide_eq_false (by omega)]; simp
    have hw := ev_within x.f0 x.f1 n hn0 hn1 (by omega)
    by_cases c2 : 0 ≤ x.f0 ∧ x.f1 ≤ n - x.f0
    · rw [decide_eq_true c2] at hw
      by_cases c3 : x.f0 < en + 2
      · refine ⟨3, Ev.step (f := fun _ => some 3) (fun k => by rw [hunf, if_neg c1, hw, Option.bind_some, if_pos rfl, if_pos c3]) (Ev.now 3), ?_⟩
        rw [show decide (0 < x.f1 ∧ 0 ≤ x.f0 ∧ x.f1 ≤ n - x.f0 ∧ en + 2 ≤ x.f0) = false from decide_eq_false (by omega)]; simp
      · obtain ⟨c, hc, hi⟩ := ih (x.f0 + x.f1 - 1) (by omega) (by omega)
        refine ⟨c, Ev.step (fun k => by rw [hunf, if_neg c1, hw, Option.bind_some, if_pos rfl, if_neg c3, w64 (n := x.f0 + x.f1) (by omega) (by omega), w64 (n := x.f0 + x.f1 - 1) (by omega) (by omega)]) hc, hi.trans ?_⟩
        rw [show decide (0 < x.f1 ∧ 0 ≤ x.f0 ∧ x.f1 ≤ n - x.f0 ∧ en + 2 ≤ x.f0) = true from decide_eq_true (by omega), Bool.true_and, show x.f0 + x.f1 - 1 + 2 = x.f0 + x.f1 + 1 by omega]
    · rw [decide_eq_false c2] at hw
      refine ⟨2, Ev.step (f := fun _ => some 2) (fun k => by rw [hunf, if_neg c1, hw, Option.bind_some, if_neg (by simp)]) (Ev.now 2), ?_⟩
      rw [show decide (0 < x.f1 ∧ 0 ≤ x.f0 ∧ x.f1 ≤ n - x.f0 ∧ en + 2 ≤ x.f0) = false from decide_eq_false (by omega)]; simp
theorem ev_rlcheck (n : Int) (hn0 : 0 ≤ n) (hn1 : n ≤ 4096) (l : List XE) (hl : l.length ≤ 1048576) : ∃ c, Ev (fun k => standbyref01_Check.f k l n) c ∧ (c = 0 ↔ okC n 0 l = true) := by
  obtain ⟨c, hc, hi⟩ := ev_rlcheck_loop n hn0 hn1 l hl l.length 0 (-2) (by omega) (by omega) (by omega) (by omega)
  exact ⟨c, Ev.congr (f := fun k => standbyref01_Check.j0 k l n false) (fun k => by unfold standbyref01_Check.f; rw [if_neg (by omega), decide_eq_false (by omega)]) (Ev.step (f := fun k => standbyref01_Check.l0 k l n (-2) ((0 : Nat) : Int)) (fun k => by rw [standbyref01_Check.j0, if_neg (by simp)]; rfl) hc), hi⟩
theorem ev_rfit_loop (im : Img) (l : List (List XE)) (hl : l.length ≤ 1048576) (hll : l.length = im.length) (hx : ∀ x ∈ l, x.length ≤ 1048576) (hs : ∀ i, i < im.length → (im.getD i []).length ≤ 4096) : ∀ (n j : Nat), l.length - j = n → j ≤ l.length → Ev (fun k => standbyref45_Fit.l0 k im l (j : Int)) (if (mp (okV im) j (l.drop j)).any (fun b => !b) then 3 else 0)
  | 0, j, hn, hj => by
    rw [List.drop_eq_nil_of_le (by omega)]
    exact Ev.step (f := fun _ => some 0) (fun k => by rw [standbyref45_Fit.l0, if_neg (by omega)]) (Ev.now 0)
  | n + 1, j, hn, hj => by
    have h1 : j < l.length := by omega
    have ih := ev_rfit_loop im l hl hll hx hs n (j + 1) (by omega) (by omega)
    rw [mp_drop _ l [] j h1, List.any_cons]
    have hlen := hs j (by omega)
    obtain ⟨c, hc, hi⟩ := ev_rlcheck ((im.getD j []).length : Int) (by omega) (by omega) (l.getD j []) (by rw [getD_at _ _ _ h1]; exact hx _ (List.getElem_mem h1))
    refine Ev.step (f := fun k => (standbyref01_Check.f k (l.getD j []) ((im.getD j []).length : Int)).bind fun t => (if t = 0 then (standbyref45_Fit.l0 k im l ((j + 1 : Nat) : Int)) else (some 3))) (fun k => by rw [standbyref45_Fit.l0, if_pos (by omega), if_pos (by omega), if_pos (by omega), rdE, rdS, up1 j l.length h1 hl]) (Ev.bind hc ?_)
    have hv : okV im j (l.getD j []) = okC ((im.getD j []).length : Int) 0 (l.getD j []) := rfl
    rw [hv]
    by_cases e : c = 0
    · rw [hi.1 e]
      simp only [e, if_true, Bool.not_true, Bool.false_or]
      exact ih
    · rw [show okC ((im.getD j []).length : Int) 0 (l.getD j []) = false from by cases h : okC ((im.getD j []).length : Int) 0 (l.getD j []) with | false => rfl | true => exact absurd (hi.2 h) e]
      simp only [e, if_false, Bool.not_false, Bool.true_or, if_true]
      exact Ev.now 3
theorem ev_rfit (im : Img) (l : List (List XE)) (hl : l.length ≤ 1048576) (hx : ∀ x ∈ l, x.length ≤ 1048576) (hs : ∀ i, i < im.length → (im.getD i []).length ≤ 4096) : Ev (fun k => standbyref45_Fit.f k im l) (fitsX im l) := by
  unfold fitsX
  by_cases h : l.length = im.length
  · rw [if_pos h]
    exact Ev.congr (fun k => by unfold standbyref45_Fit.f; rw [if_pos (by omega)]; rfl) (ev_rfit_loop im l hl h hx hs l.length 0 (by omega) (by omega))
  · rw [if_neg h]
    exact Ev.congr (f := fun _ => some 6) (fun k => by unfold standbyref45_Fit.f; rw [if_neg (by omega)]) (Ev.now 6)
def mkN (n : Nat) (p : Int → Bool) : List Bool := (List.range n).map fun (i : Nat) => p (i : Int)
theorem mkN_len (n : Nat) (p : Int → Bool) : (mkN n p).length = n := by simp [mkN]
theorem mkN_congr {n : Nat} {p q : Int → Bool} (h : ∀ x : Int, 0 ≤ x → x < n → p x = q x) : mkN n p = mkN n q := by
  unfold mkN
  exact List.map_congr_left fun i hi => h i (by omega) (by have := List.mem_range.1 hi; omega)
theorem mkN_set (n : Nat) (p : Int → Bool) (i : Int) (b : Bool) (h0 : 0 ≤ i) (h1 : i < n) : (mkN n p).set i.toNat b = mkN n (fun x => if x = i then b else p x) := by
  apply List.ext_getElem?
  intro j
  unfold mkN
  rw [List.getElem?_set, List.getElem?_map]
  by_cases hj : j < n
  · rw [List.getElem?_map, List.getElem?_range hj]
    by_cases e : i.toNat = j
    · rw [if_pos e, if_pos (by simp; omega)]
      simp only [Option.map_some]
      rw [if_pos (by omega)]
    · rw [if_neg e]
      simp only [Option.map_some]
      rw [if_neg (by omega)]
  · rw [List.getElem?_map, List.getElem?_eq_none (by simp; omega)]
    rw [if_neg (by omega)]
    rfl
theorem mkN_at (n : Nat) (p : Int → Bool) (i : Int) (h0 : 0 ≤ i) (h1 : i < n) : rdOf false (mkN n p) i = p i := by
  unfold rdOf mkN
  rw [List.getD_eq_getElem?_getD, List.getElem?_map, List.getElem?_range (by omega)]
  simp only [Option.map_some, Option.getD_some]
  rw [show ((i.toNat : Nat) : Int) = i by omega]
theorem ev_add_loop (N : Nat) (hN : N ≤ 4096) (tt : Int) (htt : tt ≤ N) : ∀ (n : Nat) (p : Int → Bool) (i : Int), (tt - i).toNat = n → 0 ≤ i → i ≤ 4096 → Ev (fun k => standbyref01_Add.l0 k (mkN N p) tt i) (mkN N (fun x => p x || (decide (i ≤ x) && decide (x < tt))))
  | 0, p, i, hn, h0, h4 => by
    have : mkN N (fun x => p x || (decide (i ≤ x) && decide (x < tt))) = mkN N p := mkN_congr fun x _ _ => by
      by_cases a : i ≤ x
      · rw [decide_eq_false (show ¬ x < tt by omega)]; simp
      · rw [decide_eq_false a]; simp
    rw [this]
    exact Ev.step (f := fun _ => some (mkN N p)) (fun k => by rw [standbyref01_Add.l0, if_neg (by omega)]) (Ev.now _)
  | n + 1, p, i, hn, h0, h4 => by
    have ih := ev_add_loop N hN tt htt n (fun x => if x = i then true else p x) (i + 1) (by omega) (by omega) (by omega)
    have : mkN N (fun x => (if x = i then true else p x) || (decide (i + 1 ≤ x) && decide (x < tt))) = mkN N (fun x => p x || (decide (i ≤ x) && decide (x < tt))) := mkN_congr fun x _ _ => by
      by_cases a : x = i
      · subst a
        rw [if_pos rfl, decide_eq_true (show x ≤ x by omega), decide_eq_true (show x < tt by omega)]; simp
      · rw [if_neg a, show decide (i + 1 ≤ x) = decide (i ≤ x) from decide_eq_decide.2 (by omega)]
    rw [this] at ih
    exact Ev.step (fun k => by rw [standbyref01_Add.l0, if_pos (by omega), if_pos h0, if_pos (by rw [mkN_len]; omega), mkN_set N p i true h0 (by omega), w64 (by omega) (by omega)]) ih
theorem ev_add (p : Int → Bool) (s c : Int) (hs : isI s) (hc : isI c) : Ev (fun k => standbyref01_Add.f k (mkN 4096 p) s c) (mkN 4096 (fun x => p x || inX ⟨s, c⟩ x)) := by
  obtain ⟨s1, s2⟩ := hs
  obtain ⟨c1, c2⟩ := hc
  have fin : ∀ (fr tt : Int), 0 ≤ fr → fr ≤ 4096 → tt ≤ 4096 → (∀ x : Int, 0 ≤ x → x < 4096 → ((fr ≤ x ∧ x < tt) ↔ inX ⟨s, c⟩ x = true)) → Ev (fun k => standbyref01_Add.l0 k (mkN 4096 p) tt fr) (mkN 4096 (fun x => p x || inX ⟨s, c⟩ x)) := by
    intro fr tt h0 h1 h2 hx
    have := ev_add_loop 4096 (Nat.le_refl _) tt h2 _ p fr rfl h0 h1
    rwa [show mkN 4096 (fun x => p x || (decide (fr ≤ x) && decide (x < tt))) = mkN 4096 (fun x => p x || inX ⟨s, c⟩ x) from mkN_congr fun x a b => by
      have h := hx x a b
      by_cases q : inX ⟨s, c⟩ x = true
      · obtain ⟨q1, q2⟩ := h.2 q
        rw [q, decide_eq_true q1, decide_eq_true q2]; rfl
      · rw [Bool.eq_false_iff.2 q]
        by_cases q1 : fr ≤ x
        · rw [decide_eq_false (fun q2 => q (h.1 ⟨q1, q2⟩))]; simp
        · rw [decide_eq_false q1]; simp] at this
  have none : (∀ x : Int, 0 ≤ x → x < 4096 → inX ⟨s, c⟩ x = false) → Ev (fun k => standbyref01_Add.j0 k (mkN 4096 p) true s c) (mkN 4096 (fun x => p x || inX ⟨s, c⟩ x)) := fun h => by
    rw [show mkN 4096 (fun x => p x || inX ⟨s, c⟩ x) = mkN 4096 p from mkN_congr fun x a b => by rw [h x a b, Bool.or_false]]
    exact Ev.step (f := fun _ => some (mkN 4096 p)) (fun k => by rw [standbyref01_Add.j0, if_pos rfl]) (Ev.now _)
  by_cases h1 : c ≤ 0
  · refine Ev.congr (fun k => by unfold standbyref01_Add.f; rw [if_pos h1]) (none fun x _ _ => ?_)
    refine Bool.eq_false_iff.2 fun h => ?_
    have := ((inX_iff _ _).1 h).1
    dsimp only at this
    omega
  · by_cases h2 : 4096 ≤ s
    · refine Ev.congr (fun k => by unfold standbyref01_Add.f; rw [if_neg h1, mkN_len, decide_eq_true (by omega)]) (none fun x _ hx => ?_)
      refine Bool.eq_false_iff.2 fun h => ?_
      have := ((inX_iff _ _).1 h).2.1
      dsimp only [mx] at this
      split at this <;> omega
    · refine Ev.congr (f := fun k => standbyref01_Add.j0 k (mkN 4096 p) false s c) (fun k => by unfold standbyref01_Add.f; rw [if_neg h1, mkN_len, decide_eq_false (by omega)]) ?_
      by_cases h3 : s < 0
      · refine Ev.step (f := fun k => standbyref01_Add.j1 k (mkN 4096 p) 0 (mn 4096 (s + c))) (fun k => by rw [standbyref01_Add.j0, if_neg (by simp), if_pos h3, mkN_len, w64 (by omega) (by omega)]; rfl) (Ev.step (fun k => by rw [standbyref01_Add.j1]) (fin 0 (mn 4096 (s + c)) (by omega) (by omega) (by unfold mn; split <;> omega) fun x hx0 hx1 => ?_))
        rw [inX_iff]
        unfold mn mx
        dsimp only
        constructor
        · rintro ⟨a, b⟩
          refine ⟨by omega, by split <;> omega, ?_⟩
          split at b <;> split <;> omega
        · rintro ⟨a, b, d⟩
          refine ⟨by omega, ?_⟩
          split at d <;> split <;> omega
      · refine Ev.step (f := fun k => standbyref01_Add.j1 k (mkN 4096 p) s (mn 4096 (s + mn c 4096))) (fun k => by rw [standbyref01_Add.j0, if_neg (by simp), if_neg h3, mkN_len, w64 (by unfold mn; split <;> omega) (by unfold mn; split <;> omega)]; rfl) (Ev.step (fun k => by rw [standbyref01_Add.j1]) (fin s (mn 4096 (s + mn c 4096)) (by omega) (by omega) (by unfold mn; split <;> omega) fun x hx0 hx1 => ?_))
        rw [inX_iff]
        unfold mn mx
        dsimp only
        constructor
        · rintro ⟨a, b⟩
          refine ⟨by omega, by split <;> omega, ?_⟩
          repeat' split at b
          all_goals (split <;> omega)
        · rintro ⟨a, b, d⟩
          refine ⟨by split at b <;> omega, ?_⟩
          split at d <;> (repeat' split) <;> omega
theorem ev_marks_loop (l : List XE) (hl : l.length ≤ 1048576) (hok : ∀ x ∈ l, okX x) : ∀ (n j : Nat), l.length - j = n → j ≤ l.length → Ev (fun k => standbyref01_Marks.l0 k l (mkN 4096 (inL (l.take j))) (j : Int)) (mkN 4096 (inL l))
  | 0, j, hn, hj => by
    rw [List.take_of_length_le (by omega)]
    exact Ev.step (f := fun _ => some (mkN 4096 (inL l))) (fun k => by rw [standbyref01_Marks.l0, if_neg (by omega)]) (Ev.now _)
  | n + 1, j, hn, hj => by
    have h1 : j < l.length := by omega
    have ih := ev_marks_loop l hl hok n (j + 1) (by omega) (by omega)
    obtain ⟨o1, o2⟩ := hok _ (List.getElem_mem h1)
    have ha := ev_add (inL (l.take j)) l[j].f0 l[j].f1 o1 o2
    rw [show mkN 4096 (fun x => inL (l.take j) x || inX ⟨l[j].f0, l[j].f1⟩ x) = mkN 4096 (inL (l.take (j + 1))) from mkN_congr fun x _ _ => by
      unfold inL; rw [List.take_succ_eq_append_getElem h1, List.any_append, List.any_cons, List.any_nil, Bool.or_false]] at ha
    exact Ev.step (f := fun k => (standbyref01_Add.f k (mkN 4096 (inL (l.take j))) l[j].f0 l[j].f1).bind fun t => standbyref01_Marks.l0 k l t ((j + 1 : Nat) : Int)) (fun k => by rw [standbyref01_Marks.l0, if_pos (by omega), if_pos (by omega), rdX, getD_at _ _ _ h1, up1 j l.length h1 hl]) (Ev.bind ha ih)
theorem ev_marks (l : List XE) (hok : okL l) : Ev (fun k => standbyref01_Marks.f k l) (mkN 4096 (inL l)) := by
  have h := ev_marks_loop l (by have := hok.2; omega) hok.1 l.length 0 (by omega) (by omega)
  rw [show mkN 4096 (inL (l.take 0)) = List.replicate 4096 false from by
    unfold mkN
    rw [show (fun i : Nat => inL (l.take 0) (i : Int)) = fun _ => false from by funext i; simp [inL], List.map_const', List.length_range]] at h
  exact Ev.congr (fun k => by unfold standbyref01_Marks.f; rw [if_pos (by decide)]; rfl) h
theorem ev_list_loop (N : Nat) (hN : N ≤ 1048576) (p : Int → Bool) : ∀ (n j : Nat), N - j = n → j ≤ N → Ev (fun k => standbyref01_List.l0 k (mkN N p) (canon p j) (j : Int)) (canon p N)
  | 0, j, hn, hj => by
    have : j = N := by omega
    subst this
    exact Ev.step (f := fun _ => some (canon p j)) (fun k => by rw [standbyref01_List.l0, mkN_len, if_neg (by omega)]) (Ev.now _)
  | n + 1, j, hn, hj => by
    have h1 : j < N := by omega
    have ih := ev_list_loop N hN p n (j + 1) (by omega) (by omega)
    have hlen := canon_len p j
    have hat := mkN_at N p j (by omega) (by omega)
    by_cases hp : p j = true
    · rw [canon_put p j hp (by omega)] at ih
      by_cases h0 : 0 < j
      · have hat2 := mkN_at N p ((j : Int) - 1) (by omega) (by omega)
        have hend := canon_end p j h0
        by_cases hq : p ((j : Int) - 1) = true
        · obtain ⟨e1, e2⟩ := hend.1 hq
          have hne : canon p j ≠ [] := List.length_pos_iff.1 e1
          obtain ⟨b1, b2, b3⟩ := last_bounds p j hne
          rw [if_pos ⟨e1, e2⟩] at ih
          have hw : wrap64 (((canon p j).length : Int) - 1) = (((canon p j).length - 1 : Nat) : Int) := by rw [w64 (by omega) (by omega)]; omega
          exact Ev.step (fun k => by rw [standbyref01_List.l0, mkN_len, if_pos (by omega), if_pos (by omega), hat, if_pos hp, if_pos (by omega), w64 (n := (j : Int) - 1) (by omega) (by omega), if_pos (by omega), if_pos (by omega), hat2, if_pos hq, hw, if_pos (by omega), if_pos (by omega), rdX, Int.toNat_natCast, w64 (by omega) (by omega), up1 j N h1 hN]) ih
        · rw [if_neg (fun h => hq (hend.2 h))] at ih
          exact Ev.step (fun k => by rw [standbyref01_List.l0, mkN_len, if_pos (by omega), if_pos (by omega), hat, if_pos hp, if_pos (by omega), w64 (n := (j : Int) - 1) (by omega) (by omega), if_pos (by omega), if_pos (by omega), hat2, if_neg hq, if_pos (by omega), up1 j N h1 hN]) ih
      · have : j = 0 := by omega
        subst this
        rw [if_neg (fun h => absurd h.1 (by simp [canon]))] at ih
        exact Ev.step (fun k => by rw [standbyref01_List.l0, mkN_len, if_pos (by omega), if_pos (by omega), hat, if_pos hp, if_neg (by omega), if_pos (by omega), up1 0 N h1 hN]) ih
    · rw [canon, if_neg hp] at ih
      exact Ev.step (fun k => by rw [standbyref01_List.l0, mkN_len, if_pos (by omega), if_pos (by omega), hat, if_neg hp, up1 j N h1 hN]) ih
theorem ev_list (N : Nat) (hN : N ≤ 1048576) (p : Int → Bool) : Ev (fun k => standbyref01_List.f k (mkN N p)) (canon p N) := ev_list_loop N hN p N 0 (by omega) (by omega)
theorem ev_inter_loop (N : Nat) (hN : N ≤ 1048576) (p q : Int → Bool) : ∀ (n j : Nat), N - j = n → j ≤ N → Ev (fun k => standbyref01_Intersect.l0 k (mkN N (fun x => if x < j then p x && q x else p x)) (mkN N q) (j : Int)) (canon (fun x => p x && q x) N)
  | 0, j, hn, hj => by
    have : j = N := by omega
    subst this
    rw [show mkN j (fun x => if x < j then p x && q x else p x) = mkN j (fun x => p x && q x) from mkN_congr fun x _ h => by rw [if_pos h]]
    exact Ev.step (f := fun k => (standbyref01_List.f k (mkN j (fun x => p x && q x))).bind fun t => some t) (fun k => by rw [standbyref01_Intersect.l0, mkN_len, if_neg (by omega)]) (Ev.bind (ev_list j hN _) (Ev.now _))
  | n + 1, j, hn, hj => by
    have h1 : j < N := by omega
    have ih := ev_inter_loop N hN p q n (j + 1) (by omega) (by omega)
    have hat := mkN_at N (fun x => if x < j then p x && q x else p x) j (by omega) (by omega)
    rw [if_neg (by omega)] at hat
    have hat2 := mkN_at N q j (by omega) (by omega)
    have hset : ∀ b, b = (p j && q j) → (mkN N (fun x => if x < j then p x && q x else p x)).set (j : Int).toNat b = mkN N (fun x => if x < ((j + 1 : Nat) : Int) then p x && q x else p x) := fun b hb => by
      rw [mkN_set N _ j b (by omega) (by omega)]
      refine mkN_congr fun x _ _ => ?_
      by_cases a : x = j
      · rw [if_pos a, if_pos (by omega), a, hb]
      · rw [if_neg a]
        by_cases a2 : x < j
        · rw [if_pos a2, if_pos (by omega)]
        · rw [if_neg a2, if_neg (by omega)]
    by_cases hp : p j = true
    · exact Ev.step (fun k => by rw [standbyref01_Intersect.l0, mkN_len, if_pos (by omega), if_pos (by omega), hat, if_pos hp, mkN_len, if_pos (by omega), hat2, hset _ (by rw [hp, Bool.true_and]), up1 j N h1 hN]) ih
    · exact Ev.step (fun k => by rw [standbyref01_Intersect.l0, mkN_len, if_pos (by omega), if_pos (by omega), hat, if_neg hp, hset false (by rw [Bool.eq_false_iff.2 hp, Bool.false_and]), up1 j N h1 hN]) ih
theorem ev_inter (a b : List XE) (ha : okL a) (hb : okL b) : Ev (fun k => standbyref01_Intersect.f k a b) (canon (fun x => inL a x && inL b x) 4096) := by
  refine Ev.bind (ev_marks a ha) (Ev.bind (ev_marks b hb) ?_)
  have h := ev_inter_loop 4096 (by decide) (inL a) (inL b) 4096 0 (by decide) (by decide)
  rw [show mkN 4096 (fun x => if x < ((0 : Nat) : Int) then inL a x && inL b x else inL a x) = mkN 4096 (inL a) from mkN_congr fun x h _ => by rw [if_neg (by omega)]] at h
  exact h
end Go.Proofs.Ytoichhdbomcdaaa.Pq
end
section
namespace Go.Proofs.Ytoichhdbomcdaaa.Pq
open Go.RowKit Go.Proofs.YtoichhdbomcdaaaW.PrintWords Go.Proofs.YtoichhdbomcdaaaW.PrintLast Go.Proofs.YtoichhdbomcdaaaW.PrintMore
set_option linter.unusedVariables false
set_option linter.unusedSimpArgs false
theorem ev_rneeded_loop (l d : List (List XE)) (hl : l.length ≤ 1048576) (hd : d.length = l.length) (hok : ∀ x ∈ l, okL x) (hdo : ∀ i, i < d.length → okL (d.getD i [])) : ∀ (n j : Nat) (out : List (List XE)), l.length - j = n → j ≤ l.length → out.length = j → out ++ mp (needF l) j (d.drop j) = mp (needF l) 0 d →
    Ev (fun k => standbyref45_Needed.l0 k l d out (j : Int)) (mp (needF l) 0 d, 0)
  | 0, j, out, hn, hj, ho, he => by
    rw [List.drop_eq_nil_of_le (by omega)] at he
    rw [← he]
    refine Ev.step (f := fun _ => some (out, 0)) (fun k => by rw [standbyref45_Needed.l0, if_neg (by omega)]) ?_
    simp only [mp, List.append_nil]
    exact Ev.now _
  | n + 1, j, out, hn, hj, ho, he => by
    have h1 : j < l.length := by omega
    have h2 : j < d.length := by omega
    have ih := ev_rneeded_loop l d hl hd hok hdo n (j + 1) (out ++ [needF l j (d.getD j [])]) (by omega) (by omega) (by simp [ho])
      (by rw [List.append_assoc, List.singleton_append, ← he, mp_drop _ d [] j h2])
    have hi := ev_inter (d.getD j []) (l.getD j []) (hdo j h2) (by rw [getD_at _ _ _ h1]; exact hok _ (List.getElem_mem h1))
    refine Ev.step (f := fun k => (standbyref01_Intersect.f k (d.getD j []) (l.getD j [])).bind fun t => standbyref45_Needed.l0 k l d (out ++ [t]) ((j + 1 : Nat) : Int)) (fun k => ?_) (Ev.bind hi ih)
    rw [standbyref45_Needed.l0, if_pos (by omega), if_pos (by omega), if_pos (by omega), rdE, rdE, up1 j l.length h1 hl]
    simp only [if_pos (show out.length < 5864062014805 by omega)]
theorem ev_rneeded (a b : Img) (l : List (List XE)) (ha : a.length ≤ 1048576) (hb : b.length ≤ 1048576) (hok : okLs l) : Ev (fun k => standbyref45_Needed.f k a b l) (neededX a b l) := by
  have hd := ev_rdiffer a b ha hb
  unfold differX at hd
  unfold neededX
  refine Ev.bind hd ?_
  by_cases h : pairX a b = 0
  · obtain ⟨hs, hl⟩ := pair_sizes h
    simp only [h, if_true]
    refine Ev.bind (ev_rfit a l hok.1 (fun x hx => by have := (hok.2 x hx).2; omega) (sizes_le hs)) ?_
    by_cases h2 : fitsX a l = 0
    · simp only [h2, if_true]
      have hlen := fits_len h2
      exact ev_rneeded_loop l (difL a b) hok.1 (by rw [difL_len, hlen]) hok.2 (fun i hi => difL_ok hs i (by rwa [difL_len] at hi)) l.length 0 [] (by omega) (by omega) rfl rfl
    · simp only [h2, if_false]
      exact Ev.now _
  · simp only [h, if_false]
    exact Ev.now _
theorem ev_rsame_loop (l m : List XE) (hl : l.length ≤ 1048576) (hm : m.length = l.length) : ∀ (n j : Nat), l.length - j = n → j ≤ l.length → Ev (fun k => standbyref01_Same.l0 k l m (j : Int)) (eqXs (l.drop j) (m.drop j))
  | 0, j, hn, hj => by
    rw [List.drop_eq_nil_of_le (by omega), List.drop_eq_nil_of_le (by omega)]
    exact Ev.step (f := fun _ => some true) (fun k => by rw [standbyref01_Same.l0, if_neg (by omega)]) (Ev.now true)
  | n + 1, j, hn, hj => by
    have h1 : j < l.length := by omega
    have h2 : j < m.length := by omega
    have ih := ev_rsame_loop l m hl hm n (j + 1) (by omega) (by omega)
    have hunf : ∀ k, standbyref01_Same.l0 (k + 1) l m (j : Int) = (if eqX l[j] m[j] = true then standbyref01_Same.l0 k l m ((j + 1 : Nat) : Int) else some false) := fun k => by
      rw [standbyref01_Same.l0, rdX, rdX, getD_at _ _ _ h1, getD_at _ _ _ h2, if_pos (by omega), if_pos (by omega), if_pos (by omega), up1 j l.length h1 hl]
      unfold eqX
      cases (l[j].f0 == m[j].f0) <;> cases (l[j].f1 == m[j].f1) <;> rfl
    rw [List.drop_eq_getElem_cons h1, List.drop_eq_getElem_cons h2, eqXs]
    cases e : eqX l[j] m[j] with
    | true => exact Ev.step (fun k => by rw [hunf, if_pos e]) ih
    | false => exact Ev.step (f := fun _ => some false) (fun k => by rw [hunf, e]; rfl) (Ev.now false)
theorem ev_rsame (l m : List XE) (hl : l.length ≤ 1048576) : Ev (fun k => standbyref01_Same.f k l m) (eqXs l m) := by
  by_cases h : (l.length : Int) = (m.length : Int)
  · exact Ev.congr (fun k => by unfold standbyref01_Same.f; rw [if_pos h]; rfl) (ev_rsame_loop l m hl (by omega) l.length 0 (by omega) (by omega))
  · rw [eqXs_len l m (fun e => h (by rw [e]))]
    exact Ev.congr (f := fun _ => some false) (fun k => by unfold standbyref01_Same.f; rw [if_neg h]) (Ev.now false)
theorem ev_rexact_loop (l d : List (List XE)) (hl : l.length ≤ 1048576) (hd : d.length = l.length) (hdl : ∀ i, i < d.length → (d.getD i []).length ≤ 1048576) : ∀ (n j : Nat), l.length - j = n → j ≤ l.length → Ev (fun k => standbyref45_Exact.l0 k l d (j : Int)) (eqLs (d.drop j) (l.drop j), 0)
  | 0, j, hn, hj => by
    rw [List.drop_eq_nil_of_le (by omega), List.drop_eq_nil_of_le (by omega)]
    exact Ev.step (f := fun _ => some (true, 0)) (fun k => by rw [standbyref45_Exact.l0, if_neg (by omega)]) (Ev.now _)
  | n + 1, j, hn, hj => by
    have h1 : j < l.length := by omega
    have h2 : j < d.length := by omega
    have ih := ev_rexact_loop l d hl hd hdl n (j + 1) (by omega) (by omega)
    have hs := ev_rsame (d.getD j []) (l.getD j []) (hdl j h2)
    rw [List.drop_eq_getElem_cons h1, List.drop_eq_getElem_cons h2, eqLs]
    rw [getD_at _ _ _ h1, getD_at _ _ _ h2] at hs
    refine Ev.step (f := fun k => (standbyref01_Same.f k d[j] l[j]).bind fun t => (if t = true then standbyref45_Exact.l0 k l d ((j + 1 : Nat) : Int) else some (false, 0))) (fun k => by rw [standbyref45_Exact.l0, if_pos (by omega), if_pos (by omega), if_pos (by omega), rdE, rdE, getD_at _ _ _ h1, getD_at _ _ _ h2, up1 j l.length h1 hl]) (Ev.bind hs ?_)
    cases e : eqXs d[j] l[j] with
    | true => simp only [if_true, Bool.true_and]; exact ih
    | false => exact Ev.now _
theorem ev_rexact (a b : Img) (l : List (List XE)) (ha : a.length ≤ 1048576) (hb : b.length ≤ 1048576) (hok : okLs l) : Ev (fun k => standbyref45_Exact.f k a b l) (exactX a b l) := by
  unfold exactX
  refine Ev.bind (ev_rneeded a b l ha hb hok) ?_
  by_cases h : (neededX a b l).2 = 0
  · have h' := h
    unfold neededX at h'
    by_cases hp : pairX a b = 0
    · rw [if_pos hp] at h'
      by_cases hf : fitsX a l = 0
      · have hlen := fits_len hf
        obtain ⟨hs, _⟩ := pair_sizes hp
        simp only [h, if_true]
        refine Ev.bind (ev_rdiffer a b ha hb) ?_
        rw [show (differX a b).1 = difL a b from by unfold differX; rw [if_pos hp]]
        exact ev_rexact_loop l (difL a b) hok.1 (by rw [difL_len, hlen]) (fun i hi => by have := (difL_ok (b := b) hs i (by rwa [difL_len] at hi)).2; omega) l.length 0 (by omega) (by omega)
      · rw [if_neg hf] at h'; exact absurd h' hf
    · rw [if_neg hp] at h'; exact absurd h' hp
  · simp only [h, if_false]
    exact Ev.now _
theorem ev_samex_in (x : List (List XE)) (hx : x.length ≤ 1048576) (hr : ∀ r ∈ x, r.length ≤ 1048576) (j : Nat) (hj : j < x.length) (hnext : Ev (fun k => standbyref36_SameExtents.l0 k x x ((j + 1 : Nat) : Int)) true) : ∀ (n i : Nat), (x[j]).length - i = n → i ≤ (x[j]).length → Ev (fun k => standbyref36_SameExtents.l1 k x x (j : Int) (i : Int)) true
  | 0, i, hn, hi => Ev.step (fun k => by rw [standbyref36_SameExtents.l1, if_pos (by omega), if_pos (by omega), rdE, getD_at _ _ _ hj, if_neg (by omega), up1 j x.length hj hx]) hnext
  | n + 1, i, hn, hi => by
    have h1 : i < (x[j]).length := by omega
    have ih := ev_samex_in x hx hr j hj hnext n (i + 1) (by omega) (by omega)
    exact Ev.step (fun k => by rw [standbyref36_SameExtents.l1, if_pos (by omega), if_pos (by omega), rdE, getD_at _ _ _ hj, if_pos (by omega), if_pos (by omega), if_pos (by omega), if_pos (by omega), beq_self_eq_true, beq_self_eq_true, if_neg (by simp), up1 i (x[j]).length h1 (hr _ (List.getElem_mem hj))]) ih
theorem ev_samex_loop (x : List (List XE)) (hx : x.length ≤ 1048576) (hr : ∀ r ∈ x, r.length ≤ 1048576) : ∀ (n j : Nat), x.length - j = n → j ≤ x.length → Ev (fun k => standbyref36_SameExtents.l0 k x x (j : Int)) true
  | 0, j, hn, hj => Ev.step (f := fun _ => some true) (fun k => by rw [standbyref36_SameExtents.l0, if_neg (by omega)]) (Ev.now true)
  | n + 1, j, hn, hj => by
    have h1 : j < x.length := by omega
    have ih := ev_samex_loop x hx hr n (j + 1) (by omega) (by omega)
    exact Ev.step (f := fun k => standbyref36_SameExtents.l1 k x x (j : Int) ((0 : Nat) : Int)) (fun k => by rw [standbyref36_SameExtents.l0, if_pos (by omega), if_pos (by omega), if_pos (by omega), if_pos rfl]; rfl) (ev_samex_in x hx hr j h1 ih _ 0 rfl (by omega))
theorem ev_samex (x : List (List XE)) (hx : x.length ≤ 1048576) (hr : ∀ r ∈ x, r.length ≤ 1048576) : Ev (fun k => standbyref36_SameExtents.f k x x) true :=
  Ev.congr (fun k => by unfold standbyref36_SameExtents.f; rw [if_pos rfl]; rfl) (ev_samex_loop x hx hr x.length 0 (by omega) (by omega))
theorem ev_samesec (x : List SS) (hx : x.length ≤ 1048576) : ∀ (n j : Nat), x.length - j = n → j ≤ x.length → Ev (fun k => standbyref03_SameSectors.l0 k x x (j : Int)) true
  | 0, j, hn, hj => Ev.step (f := fun _ => some true) (fun k => by rw [standbyref03_SameSectors.l0, if_neg (by omega)]) (Ev.now true)
  | n + 1, j, hn, hj => by
    have h1 : j < x.length := by omega
    have ih := ev_samesec x hx n (j + 1) (by omega) (by omega)
    exact Ev.step (fun k => by rw [standbyref03_SameSectors.l0, if_pos (by omega), if_pos (by omega), if_pos (by omega)]; simp only [beq_self_eq_true, Bool.not_true, Bool.or_false, if_false, Bool.false_eq_true, up1 j x.length h1 hx]) ih
theorem ev_samewr_loop (x : List S57) (hx : x.length ≤ 1048576) (hr : ∀ r ∈ x, r.f2.length ≤ 1048576) : ∀ (n j : Nat), x.length - j = n → j ≤ x.length → Ev (fun k => standbyref03_SameWrites.l0 k x x (j : Int)) true
  | 0, j, hn, hj => Ev.step (f := fun _ => some true) (fun k => by rw [standbyref03_SameWrites.l0, if_neg (by omega)]) (Ev.now true)
  | n + 1, j, hn, hj => by
    have h1 : j < x.length := by omega
    have ih := ev_samewr_loop x hx hr n (j + 1) (by omega) (by omega)
    have hrd : rd_T57 x (j : Int) = x[j] := by unfold rd_T57; rw [Int.toNat_natCast, getD_at _ _ _ h1]
    have hsec : Ev (fun k => standbyref03_SameSectors.f k (x[j]).f2 (x[j]).f2) true := Ev.congr (fun k => by unfold standbyref03_SameSectors.f; rw [if_pos rfl]; rfl) (ev_samesec (x[j]).f2 (hr _ (List.getElem_mem h1)) _ 0 rfl (by omega))
    refine Ev.step (f := fun k => (standbyref03_SameSectors.f k (x[j]).f2 (x[j]).f2).bind fun t => (if t = true then standbyref03_SameWrites.l0 k x x ((j + 1 : Nat) : Int) else some false)) (fun k => by rw [standbyref03_SameWrites.l0, if_pos (by omega), if_pos (by omega), if_pos (by omega), if_pos rfl, if_pos rfl, hrd, up1 j x.length h1 hx]) (Ev.bind hsec ?_)
    simp only [if_true]
    exact ih
theorem ev_samewr (x : List S57) (hx : x.length ≤ 1048576) (hr : ∀ r ∈ x, r.f2.length ≤ 1048576) : Ev (fun k => standbyref22_Same.f k x x) true :=
  Ev.bind (Ev.congr (fun k => by unfold standbyref03_SameWrites.f; rw [if_pos rfl]; rfl) (ev_samewr_loop x hx hr x.length 0 (by omega) (by omega))) (Ev.now true)
end Go.Proofs.Ytoichhdbomcdaaa.Pq
end
section
namespace Go.Proofs.Ytoichhdbomcdaaa.Pq
open Go.RowKit Go.Proofs.YtoichhdbomcdaaaW.PrintWords Go.Proofs.YtoichhdbomcdaaaW.PrintLast Go.Proofs.YtoichhdbomcdaaaW.PrintMore
set_option linter.unusedVariables false
set_option linter.unusedSimpArgs false
theorem canon_low : ∀ (l : List XE) (lo : Int), Canon lo l → ∀ x ∈ l, lo ≤ x.f0 ∧ 0 < x.f1
  | [], _, _, _, h => by cases h
  | y :: r, lo, h, x, hx => by
    rcases List.mem_cons.1 hx with rfl | hx
    · exact ⟨h.1, h.2.1⟩
    · obtain ⟨a, b⟩ := canon_low r _ h.2.2 x hx
      exact ⟨by have := h.1; have := h.2.1; omega, b⟩
theorem inL_mem (l : List XE) (h : ∀ x ∈ l, 0 ≤ x.f0 ∧ 0 < x.f1 ∧ x.f0 + x.f1 ≤ 4096) (i : Int) : inL l i = true ↔ MemX l i := by
  unfold inL MemX
  rw [List.any_eq_true]
  constructor
  · rintro ⟨x, hx, hi⟩
    obtain ⟨a, b, c⟩ := h x hx
    obtain ⟨_, p, q⟩ := (inX_iff x i).1 hi
    refine ⟨x, hx, ?_, ?_⟩
    · unfold mx at p; split at p <;> omega
    · unfold mn at q; split at q <;> omega
  · rintro ⟨x, hx, hi, hj⟩
    obtain ⟨a, b, c⟩ := h x hx
    refine ⟨x, hx, (inX_iff x i).2 ⟨b, ?_, ?_⟩⟩
    · unfold mx; split <;> omega
    · unfold mn; split <;> omega
theorem canon_self (l : List XE) (hc : Canon 0 l) (h : ∀ x ∈ l, x.f0 + x.f1 ≤ 4096) : canon (inL l) 4096 = l := by
  have h' : ∀ x ∈ l, 0 ≤ x.f0 ∧ 0 < x.f1 ∧ x.f0 + x.f1 ≤ 4096 := fun x hx => ⟨(canon_low l 0 hc x hx).1, (canon_low l 0 hc x hx).2, h x hx⟩
  refine (eq_canon hc (inL l) 4096 fun j => ?_).symm
  rw [inL_mem l h' j]
  constructor
  · rintro ⟨x, hx, a, b⟩
    obtain ⟨p, q, r⟩ := h' x hx
    exact ⟨by omega, by omega, x, hx, a, b⟩
  · exact fun h => h.2.2
abbrev srcA : Img := [[⟨1, 0, 0, 0, 0, 0, 0, 0⟩, ⟨2, 0, 0, 0, 0, 0, 0, 0⟩, ⟨0, 0, 0, 0, 0, 0, 0, 0⟩, ⟨0, 0, 0, 0, 0, 0, 0, 0⟩, ⟨3, 0, 0, 0, 0, 0, 0, 0⟩]]
abbrev tgtA : Img := [[⟨0, 0, 0, 0, 0, 0, 0, 0⟩, ⟨2, 0, 0, 0, 0, 0, 0, 0⟩, ⟨0, 0, 0, 0, 0, 0, 0, 0⟩, ⟨0, 0, 0, 0, 0, 0, 0, 0⟩, ⟨0, 0, 0, 0, 0, 0, 0, 0⟩]]
abbrev lA : List (List XE) := [[⟨0, 2⟩, ⟨4, 1⟩]]
abbrev nA : List (List XE) := [[⟨0, 1⟩, ⟨4, 1⟩]]
abbrev wA : List S57 := [⟨0, 0, [⟨1, 0, 0, 0, 0, 0, 0, 0⟩, ⟨2, 0, 0, 0, 0, 0, 0, 0⟩]⟩, ⟨0, 4, [⟨3, 0, 0, 0, 0, 0, 0, 0⟩]⟩]
theorem okA : okLs lA := by decide
theorem okB : okLs nA := by decide
theorem awake_w : resync_Writes.f srcA lA = some (wA, 0) := by
  unfold resync_Writes.f
  rw [if_pos ⟨by decide, okA⟩]
  rfl
theorem awake_pair : pairX srcA tgtA = 0 := rfl
theorem awake_fit : fitsX srcA lA = 0 := rfl
theorem awake_fit2 : fitsX srcA nA = 0 := rfl
theorem awake_dif : difL srcA tgtA = nA := rfl
theorem awake_inter : canon (fun i => inL [⟨0, 1⟩, ⟨4, 1⟩] i && inL [⟨0, 2⟩, ⟨4, 1⟩] i) 4096 = [⟨0, 1⟩, ⟨4, 1⟩] := by
  refine (eq_canon (lo := 0) (l := [⟨0, 1⟩, ⟨4, 1⟩]) ⟨by decide, by decide, by decide, by decide, trivial⟩ _ 4096 fun j => ?_).symm
  rw [Bool.and_eq_true, inL_mem _ (by decide), inL_mem _ (by decide)]
  simp only [memx_cons, memx_nil, hasX, or_false]
  omega
theorem awake_n : neededX srcA tgtA lA = (nA, 0) := by
  unfold neededX
  rw [if_pos awake_pair, if_pos awake_fit, awake_dif]
  have : mp (needF lA) 0 nA = [needF lA 0 [⟨0, 1⟩, ⟨4, 1⟩]] := rfl
  rw [this, show needF lA 0 [⟨0, 1⟩, ⟨4, 1⟩] = [⟨0, 1⟩, ⟨4, 1⟩] from awake_inter]
theorem awake_x : exactX srcA tgtA nA = (true, 0) := by
  unfold exactX
  rw [show (neededX srcA tgtA nA).2 = 0 from by unfold neededX; rw [if_pos awake_pair, if_pos awake_fit2], if_pos rfl, awake_dif]
  rfl
theorem awake_y : exactX srcA tgtA lA = (false, 0) := by
  unfold exactX
  rw [awake_n, if_pos rfl, awake_dif]
  rfl
theorem awake_c (l : List XE) (hc : Canon 0 l) (h : ∀ x ∈ l, x.f0 + x.f1 ≤ 4096) : costX [l] = sumc l := by
  have : costX [l] = countp (inL l) 4096 + 0 := rfl
  rw [this, ← sumc_canon, canon_self l hc h, Int.add_zero]
theorem ev_awake : Ev (fun k => standbylaw45_awake.f k) true := by
  have e2 : resync_Needed.f srcA tgtA lA = some (nA, 0) := by unfold resync_Needed.f; rw [if_pos ⟨by decide, by decide, okA⟩, awake_n]
  have e3 : resync_Exact.f srcA tgtA nA = some (true, 0) := by unfold resync_Exact.f; rw [if_pos ⟨by decide, by decide, okB⟩, awake_x]
  have e4 : resync_Exact.f srcA tgtA lA = some (false, 0) := by unfold resync_Exact.f; rw [if_pos ⟨by decide, by decide, okA⟩, awake_y]
  have e5 : resync_Cost.f lA = some 3 := by unfold resync_Cost.f; rw [if_pos okA, awake_c [⟨0, 2⟩, ⟨4, 1⟩] ⟨by decide, by decide, by decide, by decide, trivial⟩ (by decide)]; rfl
  have e6 : resync_Cost.f nA = some 2 := by unfold resync_Cost.f; rw [if_pos okB, awake_c [⟨0, 1⟩, ⟨4, 1⟩] ⟨by decide, by decide, by decide, by decide, trivial⟩ (by decide)]; rfl
  refine Ev.congr (f := fun k => (standbyref22_Same.f k wA wA).bind fun t => standbylaw45_awake.j0 k lA nA true false (!t)) (fun k => ?_) (Ev.bind (ev_samewr wA (by decide) (by decide)) (Ev.step (f := fun k => (standbyref36_SameExtents.f k nA nA).bind fun t => (if t = true then some true else some false)) (fun k => ?_) (Ev.bind (ev_samex nA (by decide) (by decide)) ?_)))
  · unfold standbylaw45_awake.f
    simp only [Option.bind_some]
    rw [awake_w]
    simp only [Option.bind_some]
    rw [e2]
    simp only [Option.bind_some]
    rw [e3]
    simp only [Option.bind_some]
    rw [e4]
    simp only [Option.bind_some]
    rw [if_pos (show wrap64 (wrap64 (wrap64 (0 + 0) + 0) + 0) = 0 from by unfold wrap64; omega)]
  · rw [standbylaw45_awake.j0, if_neg (by simp)]
    simp only [if_true, Bool.false_eq_true, if_false]
    rw [e5]
    simp only [Option.bind_some, if_true]
    rw [e6]
    simp only [Option.bind_some]
    rfl
  · simp only [if_true]
    exact Ev.now true
theorem ev_law_needs (s t : Img) (l : List (List XE)) (hx : ∀ x ∈ l, ∀ e ∈ x, okX e) : Ev (fun k => standbylaw45_ResyncNeeds.f k s t l) true := by
  have yes : Ev (fun k => standbylaw45_ResyncNeeds.j0 k s t l true) true := Ev.step (f := fun k => (standbylaw45_awake.f k).bind fun t => some t) (fun k => by rw [standbylaw45_ResyncNeeds.j0, if_pos rfl]) (Ev.bind ev_awake (Ev.now true))
  refine Ev.bind (ev_few s) ?_
  cases h1 : fewI s with
  | false => exact yes
  | true =>
    simp only [if_true]
    refine Ev.bind (ev_few t) ?_
    cases h2 : fewI t with
    | false => exact yes
    | true =>
      simp only [if_true]
      refine Ev.bind (ev_fewl l) ?_
      cases h3 : fewL l with
      | false => exact yes
      | true =>
        obtain ⟨a1, _⟩ := fewI_le h1
        obtain ⟨a2, _⟩ := fewI_le h2
        obtain ⟨a3, a4⟩ := fewL_le h3
        have hok : okLs l := ⟨by omega, fun x hxl => ⟨hx x hxl, by have := a4 x hxl; omega⟩⟩
        have e1 : resync_Needed.f s t l = some (neededX s t l) := by unfold resync_Needed.f; rw [if_pos ⟨by omega, by omega, hok⟩]
        have e2 : resync_Exact.f s t l = some (exactX s t l) := by unfold resync_Exact.f; rw [if_pos ⟨by omega, by omega, hok⟩]
        have hsame : Ev (fun k => standbyref36_SameExtents.f k (neededX s t l).1 (neededX s t l).1) true := by
          refine ev_samex _ ?_ ?_
          · unfold neededX
            split
            · split
              · rw [mp_len, difL_len]; omega
              · simp
            · simp
          · intro r hr
            unfold neededX at hr
            split at hr
            · split at hr
              · obtain ⟨i, x, rfl⟩ := mp_mem _ _ _ _ hr
                have := canon_len (fun j => inL x j && inL (l.getD i []) j) 4096
                unfold needF; omega
              · cases hr
            · cases hr
        refine Ev.step (f := fun k => (standbyref45_Needed.f k s t l).bind fun bt312 => ((standbyref45_Exact.f k s t l).bind fun bt318 => ((standbylaw45_awake.f k).bind fun t320 => (if t320 = true then ((standbyref36_SameExtents.f k (neededX s t l).1 bt312.1).bind fun t321 => (if t321 = true then (if (neededX s t l).2 = bt312.2 then (if ((exactX s t l).1 == bt318.1) = true then (some ((exactX s t l).2 == bt318.2)) else (some false)) else (some false)) else (some false))) else (some false))))) (fun k => ?_) ?_
        · rw [standbylaw45_ResyncNeeds.j0, if_neg (by simp), e1]
          simp only [Option.bind_some]
          rw [e2]
          simp only [Option.bind_some]
        · refine Ev.bind (ev_rneeded s t l (by omega) (by omega) hok) (Ev.bind (ev_rexact s t l (by omega) (by omega) hok) (Ev.bind ev_awake ?_))
          simp only [if_true]
          refine Ev.bind hsame ?_
          simp only [if_true, beq_self_eq_true]
          exact Ev.now true
end Go.Proofs.Ytoichhdbomcdaaa.Pq
end
