import Derived.Test.YtdplnbmioioniaaGreatQW2
import Derived.OrdersIn
section
namespace Go.Proofs.YtdplnbmioioniaaGreat.Pq
open Go.RowKit Go.Proofs.YtdplnbmioioniaaGreatW.PrintWords Go.Proofs.YtdplnbmioioniaaGreatW.PrintLast Go.Proofs.YtdplnbmioioniaaGreatW.PrintMore
attribute [local go_sem] max2_int min2_int max_two min_two max_three min_three max_four min_four
set_option linter.unusedVariables false
set_option linter.unusedSimpArgs false
attribute [local go_sem high] eqA61
def image_fits.j0 : Nat → List (List (S59)) → Bool → Int → Int → List (S59) → Option (Int)
  | 0, _, _, _, _, _ => none
  | k + 1, x0, x5, x125000, x125001, x125002 => if x5 = true then (some 7) else (if (x125002.length : Int) = 0 then (some 1) else (if x125001 < 0 then (some 2) else (if 0 ≤ x125000 then (if x125000 < (x0.length : Int) then (if x125001 > (wrap64 (((rd_L2 x0 x125000).length : Int) - (x125002.length : Int))) then (some 2) else (some 0)) else (none)) else (none))))
def image_fits.f (k : Nat) (l0 : List (List (S59))) (a1_0 : Int) (a1_1 : Int) (l1_2 : List (S59)) : Option (Int) := if a1_0 < 0 then (image_fits.j0 k l0 true a1_0 a1_1 l1_2) else (image_fits.j0 k l0 (decide (a1_0 ≥ (l0.length : Int))) a1_0 a1_1 l1_2)
set_option maxHeartbeats 8000000 in
set_option maxRecDepth 100000 in
theorem image_fits.calls (k : Nat) (A0 : Option Addr) (c0 : Nat) (l0 : List (List (S59))) (a1_0 : Int) (a1_1 : Int) (A1_2 : Option Addr) (c1_2 : Nat) (l1_2 : List (S59)) (r : Int) (w : World) (hr0 : Kd.C (Kd.slice 59 k59) w A0 l0.length l0) (hc0 : l0.length ≤ c0) (hr1_2 : Kd.C k59 w A1_2 l1_2.length l1_2) (hc1_2 : l1_2.length ≤ c1_2) (h : image_fits.f k l0 a1_0 a1_1 l1_2 = some r) :
    Calls Tryz.prog 40 #[.slice A0 l0.length c0, .agg #[.int .i64 a1_0, .int .i64 a1_1, .slice A1_2 l1_2.length c1_2]] w fun e w' => e = .returned (.int .i64 r) ∧ Below w.heap.size w w' := by
  have hu66 := Tryz.underlying66
  have HR0 := Aside0.mk hr0
  have HC0 := Aside0.mk hc0
  clear hr0 hc0
  have HR1_2 := Aside0.mk hr1_2
  have HC1_2 := Aside0.mk hc1_2
  clear hr1_2 hc1_2
  have HB := Aside0.mk (Below.refl w.heap.size w)
  have H : (if a1_0 < 0 then (image_fits.j0 k l0 true a1_0 a1_1 l1_2) else (image_fits.j0 k l0 (decide (a1_0 ≥ (l0.length : Int))) a1_0 a1_1 l1_2)) = some r := h
  clear h
  have HC3 := Aside0.mk H
  clear H
  go_enter Tryz.func40, Tryz.ntmps40
  go_upto_region 1 with (first | ((with_reducible refine gate_dst (N := 3) rfl ?_); (try (refine gate_guard (by rfl) ?_; dsimp only)); refine box_event ?hg (N := 3) ?hd (cs := #[.int .i64 a1_0, .int .i64 a1_1, .slice A1_2 l1_2.length c1_2]) (t := 66) ?hr ?_; (case hd => rfl); (case hg => rfl); (case hr => first | (go_simp; done) | (go_simp; rfl)); intro gb124 hg w4 hbox hb; have BK124 := Aside0.mk (hbox); have GW124 := Aside0.mk (zg hg HB); have GE124 := Aside0.mk (zg hg HB); replace HB := Aside0.mk (below_step (zb HB) hb); clear hb hbox hg))
  repeat (go_quiet (first | ((with_reducible refine gate_dst (N := 3) rfl ?_); (try (refine gate_guard (by rfl) ?_; dsimp only)); refine box_event ?hg (N := 3) ?hd (cs := #[.int .i64 a1_0, .int .i64 a1_1, .slice A1_2 l1_2.length c1_2]) (t := 66) ?hr ?_; (case hd => rfl); (case hg => rfl); (case hr => first | (go_simp; done) | (go_simp; rfl)); intro gb124 hg w4 hbox hb; have BK124 := Aside0.mk (hbox); have GW124 := Aside0.mk (zg hg HB); have GE124 := Aside0.mk (zg hg HB); replace HB := Aside0.mk (below_step (zb HB) hb); clear hb hbox hg)); go_upto_region 1 with (first | ((with_reducible refine gate_dst (N := 3) rfl ?_); (try (refine gate_guard (by rfl) ?_; dsimp only)); refine box_event ?hg (N := 3) ?hd (cs := #[.int .i64 a1_0, .int .i64 a1_1, .slice A1_2 l1_2.length c1_2]) (t := 66) ?hr ?_; (case hd => rfl); (case hg => rfl); (case hr => first | (go_simp; done) | (go_simp; rfl)); intro gb124 hg w4 hbox hb; have BK124 := Aside0.mk (hbox); have GW124 := Aside0.mk (zg hg HB); have GE124 := Aside0.mk (zg hg HB); replace HB := Aside0.mk (below_step (zb HB) hb); clear hb hbox hg)))
  (try simp only [Act.put, List.setIfInBounds_toArray, List.set_cons_zero, List.set_cons_succ])
  go_cut [5] (fun v5 wc => ∃ (kq : Nat) (x5_2 : Bool), v5 = .bool x5_2 ∧ Aside0 (image_fits.j0 kq l0 x5_2 a1_0 a1_1 l1_2 = some r) ∧ Aside0 (kq ≤ k) ∧ Aside0 (wc.heap[gb124]? = some (.cells #[.int .i64 a1_0, .int .i64 a1_1, (.slice A1_2 l1_2.length c1_2)] 66 (0, 0))) ∧ Aside0 (Below w.heap.size w wc))
  case first =>
    have H := HC3.out
    clear HC3
    by_cases c5 : a1_0 < 0
    · rw [if_pos c5] at H
      have c5b0 : decide (a1_0 < 0) = true := decide_eq_true c5
      clear c5
      (first | rw [c5b0] | (simp only [i64_w, i32_w]; rw [c5b0]) | skip)
      have H' := Aside0.mk H
      clear H
      obtain ⟨⟨hcz6_0, hcz6_1, hcz6_2⟩, hfz6_0, hfz6_1, hfz6_2⟩ := zc3 BK124
      go_wp2
      repeat (go_quiet (fail); try go_wp2)
      go_meet
      case rel => exact ⟨_, (true), (by first | rfl | (simp; done) | (simp [*]; done)), H', ⟨by first | omega | exact Nat.le_refl _⟩, ⟨by (with_reducible repeat (first | refine blk_drewN ?_ _ | refine blk_drew ?_ | refine blk_alloc ?_ _)); exact BK124.out⟩, ⟨zb HB⟩⟩
    · rw [if_neg c5] at H
      have c5b0 : decide (a1_0 < 0) = false := decide_eq_false c5
      clear c5
      (first | rw [c5b0] | (simp only [i64_w, i32_w]; rw [c5b0]) | skip)
      have H' := Aside0.mk H
      clear H
      obtain ⟨⟨hcz7_0, hcz7_1, hcz7_2⟩, hfz7_0, hfz7_1, hfz7_2⟩ := zc3 BK124
      go_wp2
      repeat (go_quiet (fail); try go_wp2)
      go_meet
      case rel => exact ⟨_, (decide (a1_0 ≥ (l0.length : Int))), (by first | rfl | (simp; done) | (simp [*]; done)), H', ⟨by first | omega | exact Nat.le_refl _⟩, ⟨by (with_reducible repeat (first | refine blk_drewN ?_ _ | refine blk_drew ?_ | refine blk_alloc ?_ _)); exact BK124.out⟩, ⟨zb HB⟩⟩
  case rest =>
    clear HC3
    try clear c1
    try clear p2
    try clear c4
    try clear c5
    try clear c5b0
    try clear hcz6_0
    try clear hcz6_1
    try clear hcz6_2
    try clear hcz7_0
    try clear hcz7_1
    try clear hcz7_2
    try clear hfz6_0
    try clear hfz6_1
    try clear hfz6_2
    try clear hfz7_0
    try clear hfz7_1
    try clear hfz7_2
    obtain ⟨kq, x5_2, rfl, HA, HJ2, BK124, HB⟩ := hcut
    cases kq with
    | zero => exact absurd HA.out (by simp [image_fits.j0])
    | succ kj2 =>
      have H := HA.out
      clear HA
      simp only [image_fits.j0] at H
      by_cases c8 : x5_2 = true
      · subst c8
        have H1 : (some 7) = some r := by rw [if_pos rfl] at H; exact H
        clear H
        have H := H1
        clear H1
        obtain rfl := Option.some.inj H
        go_wp2
        repeat (go_quiet (fail); try go_wp2)
        go_ret
        exact ⟨by first | rfl | (simp [errW_none, errW_some] <;> rfl) | (simp [*, errW_none, errW_some] <;> rfl), zb HB⟩
      · replace c8 := Bool.eq_false_iff.mpr c8
        subst c8
        have H1 : (if (l1_2.length : Int) = 0 then (some 1) else (if a1_1 < 0 then (some 2) else (if 0 ≤ a1_0 then (if a1_0 < (l0.length : Int) then (if a1_1 > (wrap64 (((rd_L2 l0 a1_0).length : Int) - (l1_2.length : Int))) then (some 2) else (some 0)) else (none)) else (none)))) = some r := by rw [if_neg (show ¬ (false = true) by decide)] at H; exact H
        clear H
        have H := H1
        clear H1
        by_cases c9 : (l1_2.length : Int) = 0
        · rw [if_pos c9] at H
          have c9b0 : ((l1_2.length : Int) == 0) = true := beq_iff_eq.mpr c9
          have c9b1 : ((l1_2.length : Int) != 0) = false := bne_eq_false_iff_eq.mpr c9
          clear c9
          obtain rfl := Option.some.inj H
          obtain ⟨⟨hcz10_0, hcz10_1, hcz10_2⟩, hfz10_0, hfz10_1, hfz10_2⟩ := zc3 BK124
          go_wp2
          repeat (go_quiet (fail); try go_wp2)
          go_ret
          exact ⟨by first | rfl | (simp [errW_none, errW_some] <;> rfl) | (simp [*, errW_none, errW_some] <;> rfl), zb HB⟩
        · rw [if_neg c9] at H
          have c9b0 : ((l1_2.length : Int) == 0) = false := beq_eq_false_iff_ne.mpr c9
          have c9b1 : ((l1_2.length : Int) != 0) = true := bne_iff_ne.mpr c9
          have c9b2 : ¬ (l1_2 = []) := fun h_ => c9 (by rw [h_]; rfl)
          by_cases c11 : a1_1 < 0
          · rw [if_pos c11] at H
            have c11b0 : decide (a1_1 < 0) = true := decide_eq_true c11
            clear c11
            obtain rfl := Option.some.inj H
            obtain ⟨⟨hcz12_0, hcz12_1, hcz12_2⟩, hfz12_0, hfz12_1, hfz12_2⟩ := zc3 BK124
            go_wp2
            repeat (go_quiet (fail); try go_wp2)
            go_ret
            exact ⟨by first | rfl | (simp [errW_none, errW_some] <;> rfl) | (simp [*, errW_none, errW_some] <;> rfl), zb HB⟩
          · rw [if_neg c11] at H
            have c11b0 : decide (a1_1 < 0) = false := decide_eq_false c11
            clear c11
            by_cases c13 : 0 ≤ a1_0
            · rw [if_pos c13] at H
              have c13b0 : decide (0 ≤ a1_0) = true := decide_eq_true c13
              clear c13
              by_cases c14 : a1_0 < (l0.length : Int)
              · rw [if_pos c14] at H
                have c14b0 : decide (a1_0 < (l0.length : Int)) = true := decide_eq_true c14
                clear c14
                by_cases c15 : a1_1 > (wrap64 (((rd_L2 l0 a1_0).length : Int) - (l1_2.length : Int)))
                · rw [if_pos c15] at H
                  have c15b0 : decide ((wrap64 (((rd_L2 l0 a1_0).length : Int) - (l1_2.length : Int))) < a1_1) = true := decide_eq_true c15
                  clear c15
                  obtain rfl := Option.some.inj H
                  obtain ⟨⟨hcz16_0, hcz16_1, hcz16_2⟩, hfz16_0, hfz16_1, hfz16_2⟩ := zc3 BK124
                  have p125 : 0 ≤ (a1_0 : Int) := of_decide_eq_true (by first | (with_reducible assumption) | assumption)
                  have q125 : a1_0 < (l0.length : Int) := of_decide_eq_true (by first | (with_reducible assumption) | assumption)
                  obtain ⟨ad125, A125_0, c125_0, e125, hx125_0, hl125_0, hi125_0⟩ := at_L2 HR0.out a1_0 p125 q125
                  cases e125
                  replace hx125_0 := (HB.out.cell (World.block_lt_of_cell? w _ hx125_0)).trans hx125_0
                  have HR125_0 := Aside0.mk hi125_0
                  have HC125_0 := Aside0.mk hl125_0
                  clear hi125_0 hl125_0
                  replace p125 := eq_true p125
                  replace q125 := eq_true q125
                  go_wp2
                  repeat (go_quiet (fail); try go_wp2)
                  go_ret
                  exact ⟨by first | rfl | (simp [errW_none, errW_some] <;> rfl) | (simp [*, errW_none, errW_some] <;> rfl), zb HB⟩
                · rw [if_neg c15] at H
                  have c15b0 : decide ((wrap64 (((rd_L2 l0 a1_0).length : Int) - (l1_2.length : Int))) < a1_1) = false := decide_eq_false c15
                  clear c15
                  obtain rfl := Option.some.inj H
                  obtain ⟨⟨hcz17_0, hcz17_1, hcz17_2⟩, hfz17_0, hfz17_1, hfz17_2⟩ := zc3 BK124
                  have p125 : 0 ≤ (a1_0 : Int) := of_decide_eq_true (by first | (with_reducible assumption) | assumption)
                  have q125 : a1_0 < (l0.length : Int) := of_decide_eq_true (by first | (with_reducible assumption) | assumption)
                  obtain ⟨ad125, A125_0, c125_0, e125, hx125_0, hl125_0, hi125_0⟩ := at_L2 HR0.out a1_0 p125 q125
                  cases e125
                  replace hx125_0 := (HB.out.cell (World.block_lt_of_cell? w _ hx125_0)).trans hx125_0
                  have HR125_0 := Aside0.mk hi125_0
                  have HC125_0 := Aside0.mk hl125_0
                  clear hi125_0 hl125_0
                  replace p125 := eq_true p125
                  replace q125 := eq_true q125
                  go_wp2
                  repeat (go_quiet (fail); try go_wp2)
                  go_ret
                  exact ⟨by first | rfl | (simp [errW_none, errW_some] <;> rfl) | (simp [*, errW_none, errW_some] <;> rfl), zb HB⟩
              · rw [if_neg c14] at H
                exact absurd H (by simp)
            · rw [if_neg c13] at H
              exact absurd H (by simp)
mutual
def extent_Check.j0 : Nat → List (S61) → Int → Bool → Option (Int)
  | 0, _, _, _ => none
  | k + 1, x0, x1, x13 => if x13 = true then (some 2) else (extent_Check.l0 k x1 0 x0 (x0.length : Int) 0)
def extent_Check.l0 : Nat → Int → Int → List (S61) → Int → Int → Option (Int)
  | 0, _, _, _, _, _ => none
  | k + 1, x1, x5, x14, x15, x16 => if x16 < x15 then (if 0 ≤ x16 then (if x16 < (x14.length : Int) then (if ((rd_T61 x14 x16).f1) ≤ 0 then (some 1) else (if ((rd_T61 x14 x16).f0) < 0 then (extent_Check.j2 k x1 x5 x14 x15 x16 true ((rd_T61 x14 x16).f0) ((rd_T61 x14 x16).f1)) else (extent_Check.j2 k x1 x5 x14 x15 x16 (decide (((rd_T61 x14 x16).f1) > (wrap64 (x1 - ((rd_T61 x14 x16).f0))))) ((rd_T61 x14 x16).f0) ((rd_T61 x14 x16).f1)))) else (none)) else (none)) else (some 0)
def extent_Check.j2 : Nat → Int → Int → List (S61) → Int → Int → Bool → Int → Int → Option (Int)
  | 0, _, _, _, _, _, _, _, _ => none
  | k + 1, x1, x5, x14, x15, x16, x24, x128000, x128001 => if x24 = true then (some 2) else (if x128000 < x5 then (some 3) else (extent_Check.l0 k x1 (wrap64 ((wrap64 (x128000 + x128001)) + 1)) x14 x15 (wrap64 (x16 + 1))))
end
def extent_Check.f (k : Nat) (l0 : List (S61)) (a1 : Int) : Option (Int) := if a1 < 0 then (extent_Check.j0 k l0 a1 true) else (extent_Check.j0 k l0 a1 (decide (a1 > 4096)))
set_option maxHeartbeats 8000000 in
set_option maxRecDepth 100000 in
theorem extent_Check.calls (k : Nat) (A0 : Option Addr) (c0 : Nat) (l0 : List (S61)) (a1 : Int) (r : Int) (w : World) (hr0 : Kd.C k61 w A0 l0.length l0) (hc0 : l0.length ≤ c0) (h : extent_Check.f k l0 a1 = some r) :
    Calls Tryz.prog 56 #[.slice A0 l0.length c0, .int .i64 a1] w fun e w' => e = .returned (.int .i64 r) ∧ Below w.heap.size w w' := by
  have hu61 := Tryz.underlying61
  have HR0 := Aside0.mk hr0
  have HC0 := Aside0.mk hc0
  clear hr0 hc0
  have HB := Aside0.mk (Below.refl w.heap.size w)
  have H : (if a1 < 0 then (extent_Check.j0 k l0 a1 true) else (extent_Check.j0 k l0 a1 (decide (a1 > 4096)))) = some r := h
  clear h
  have HC3 := Aside0.mk H
  clear H
  go_enter Tryz.func56, Tryz.ntmps56
  go_upto_region 1 with (fail)
  go_cut [13] (fun v13 wc => ∃ (kq : Nat) (x13_2 : Bool), v13 = .bool x13_2 ∧ Aside0 (extent_Check.j0 kq l0 a1 x13_2 = some r) ∧ Aside0 (kq ≤ k) ∧ Aside0 (Below w.heap.size w wc))
  case first =>
    have H := HC3.out
    clear HC3
    by_cases c4 : a1 < 0
    · rw [if_pos c4] at H
      have c4b0 : decide (a1 < 0) = true := decide_eq_true c4
      clear c4
      (first | rw [c4b0] | (simp only [i64_w, i32_w]; rw [c4b0]) | skip)
      have H' := Aside0.mk H
      clear H
      go_wp2
      go_meet
      case rel => exact ⟨_, (true), (by first | rfl | (simp; done) | (simp [*]; done)), H', ⟨by first | omega | exact Nat.le_refl _⟩, ⟨zb HB⟩⟩
    · rw [if_neg c4] at H
      have c4b0 : decide (a1 < 0) = false := decide_eq_false c4
      clear c4
      (first | rw [c4b0] | (simp only [i64_w, i32_w]; rw [c4b0]) | skip)
      have H' := Aside0.mk H
      clear H
      go_wp2
      go_meet
      case rel => exact ⟨_, (decide (a1 > 4096)), (by first | rfl | (simp; done) | (simp [*]; done)), H', ⟨by first | omega | exact Nat.le_refl _⟩, ⟨zb HB⟩⟩
  case rest =>
    clear HC3
    try clear p2
    try clear c4
    try clear c4b0
    obtain ⟨kq, x13_2, rfl, HA, HJ2, HB⟩ := hcut
    cases kq with
    | zero => exact absurd HA.out (by simp [extent_Check.j0])
    | succ kj2 =>
      have H := HA.out
      clear HA
      simp only [extent_Check.j0] at H
      by_cases c5 : x13_2 = true
      · subst c5
        have H1 : (some 2) = some r := by rw [if_pos rfl] at H; exact H
        clear H
        have H := H1
        clear H1
        obtain rfl := Option.some.inj H
        go_wp2
        go_ret
        exact ⟨by first | rfl | (simp [errW_none, errW_some] <;> rfl) | (simp [*, errW_none, errW_some] <;> rfl), zb HB⟩
      · replace c5 := Bool.eq_false_iff.mpr c5
        subst c5
        have H1 : (extent_Check.l0 kj2 a1 0 l0 (l0.length : Int) 0) = some r := by rw [if_neg (show ¬ (false = true) by decide)] at H; exact H
        clear H
        have H := H1
        clear H1
        have H' := Aside0.mk H
        clear H
        go_wp2
        go_loopg [5, 16] kj2 (fun kq v5 v16 w' => ∃ (x5_2 : Int) (x16_2 : Int), v5 = .int .i64 x5_2 ∧ v16 = .int .i64 x16_2 ∧ Aside0 (extent_Check.l0 kq a1 x5_2 l0 (l0.length : Int) x16_2 = some r) ∧ Aside0 (kq ≤ kj2) ∧ Aside0 (Below w.heap.size w w'))
        case atStart => exact ⟨(0), (0), (by first | rfl | (simp; done) | (simp [*]; done)), (by first | rfl | (simp; done) | (simp [*]; done)), H', ⟨Nat.le_refl _⟩, ⟨zb HB⟩⟩
        case round =>
          clear H'
          try clear p2
          try clear c4
          try clear c4b0
          try clear c5
          try clear p2
          obtain ⟨x5_2, x16_2, rfl, rfl, HA, HK2, HB⟩ := hrel
          cases gk with
          | zero => exact absurd HA.out (by simp [extent_Check.l0])
          | succ k2 =>
            have H := HA.out
            clear HA
            simp only [extent_Check.l0] at H
            by_cases c6 : x16_2 < (l0.length : Int)
            · rw [if_pos c6] at H
              have c6b0 : decide (x16_2 < (l0.length : Int)) = true := decide_eq_true c6
              clear c6
              by_cases c7 : 0 ≤ x16_2
              · rw [if_pos c7] at H
                have c7b0 : decide (0 ≤ x16_2) = true := decide_eq_true c7
                clear c7
                by_cases c8 : x16_2 < (l0.length : Int)
                · rw [if_pos c8] at H
                  have c8b0 : decide (x16_2 < (l0.length : Int)) = true := decide_eq_true c8
                  clear c8
                  by_cases c9 : ((rd_T61 l0 x16_2).f1) ≤ 0
                  · rw [if_pos c9] at H
                    have c9b0 : decide (((rd_T61 l0 x16_2).f1) ≤ 0) = true := decide_eq_true c9
                    clear c9
                    obtain rfl := Option.some.inj H
                    have p126 : 0 ≤ (x16_2 : Int) := of_decide_eq_true (by first | (with_reducible assumption) | assumption)
                    have q126 : x16_2 < (l0.length : Int) := of_decide_eq_true (by first | (with_reducible assumption) | assumption)
                    obtain ⟨ad126, e126, hx126_0, hx126_1⟩ := at_T61 HR0.out x16_2 p126 q126
                    cases e126
                    replace hx126_0 := (HB.out.cell (World.block_lt_of_cell? w _ hx126_0)).trans hx126_0
                    replace hx126_1 := (HB.out.cell (World.block_lt_of_cell? w _ hx126_1)).trans hx126_1
                    replace p126 := eq_true p126
                    replace q126 := eq_true q126
                    go_wp2_with (first | ((with_reducible refine gate_dst (N := 7) rfl ?_); refine box_event ?hg (N := 7) ?hd (cs := #[.int .i64 0, .int .i64 0]) (t := 61) ?hr ?_; (case hd => rfl); (case hg => rfl); (case hr => first | (go_simp; done) | (go_simp; rfl)); intro gb127 hg w10 hbox hb; have BK127 := Aside0.mk (hbox); have GW127 := Aside0.mk (zg hg HB); have GE127 := Aside0.mk (zg hg HB); replace HB := Aside0.mk (below_step (zb HB) hb); clear hb hbox hg; obtain ⟨⟨hcz11_0, hcz11_1⟩, hfz11_0, hfz11_1⟩ := zc2 BK127))
                    go_ret
                    exact ⟨by first | rfl | (simp [errW_none, errW_some] <;> rfl) | (simp [*, errW_none, errW_some] <;> rfl), zb HB⟩
                  · rw [if_neg c9] at H
                    have c9b0 : decide (((rd_T61 l0 x16_2).f1) ≤ 0) = false := decide_eq_false c9
                    clear c9
                    have HC12 := Aside0.mk H
                    clear H
                    have p126 : 0 ≤ (x16_2 : Int) := of_decide_eq_true (by first | (with_reducible assumption) | assumption)
                    have q126 : x16_2 < (l0.length : Int) := of_decide_eq_true (by first | (with_reducible assumption) | assumption)
                    obtain ⟨ad126, e126, hx126_0, hx126_1⟩ := at_T61 HR0.out x16_2 p126 q126
                    cases e126
                    replace hx126_0 := (HB.out.cell (World.block_lt_of_cell? w _ hx126_0)).trans hx126_0
                    replace hx126_1 := (HB.out.cell (World.block_lt_of_cell? w _ hx126_1)).trans hx126_1
                    replace p126 := eq_true p126
                    replace q126 := eq_true q126
                    go_upto_region 9 with (first | ((with_reducible refine gate_dst (N := 7) rfl ?_); refine box_event ?hg (N := 7) ?hd (cs := #[.int .i64 0, .int .i64 0]) (t := 61) ?hr ?_; (case hd => rfl); (case hg => rfl); (case hr => first | (go_simp; done) | (go_simp; rfl)); intro gb127 hg w13 hbox hb; have BK127 := Aside0.mk (hbox); have GW127 := Aside0.mk (zg hg HB); have GE127 := Aside0.mk (zg hg HB); replace HB := Aside0.mk (below_step (zb HB) hb); clear hb hbox hg; obtain ⟨⟨hcz14_0, hcz14_1⟩, hfz14_0, hfz14_1⟩ := zc2 BK127))
                    (try simp only [Act.put, List.setIfInBounds_toArray, List.set_cons_zero, List.set_cons_succ])
                    go_cut [24] (fun v24 wc => ∃ (kq : Nat) (x24_11 : Bool), v24 = .bool x24_11 ∧ Aside0 (extent_Check.j2 kq a1 x5_2 l0 (l0.length : Int) x16_2 x24_11 ((rd_T61 l0 x16_2).f0) ((rd_T61 l0 x16_2).f1) = some r) ∧ Aside0 (kq ≤ k2) ∧ Aside0 (wc.heap[gb127]? = some (.cells #[.int .i64 ((rd_T61 l0 x16_2).f0), .int .i64 ((rd_T61 l0 x16_2).f1)] 61 (0, 0))) ∧ Aside0 (Below w.heap.size w wc))
                    case first =>
                      have H := HC12.out
                      clear HC12
                      by_cases c15 : ((rd_T61 l0 x16_2).f0) < 0
                      · rw [if_pos c15] at H
                        have c15b0 : decide (((rd_T61 l0 x16_2).f0) < 0) = true := decide_eq_true c15
                        clear c15
                        (first | rw [c15b0] | (simp only [i64_w, i32_w]; rw [c15b0]) | skip)
                        have H' := Aside0.mk H
                        clear H
                        obtain ⟨⟨hcz16_0, hcz16_1⟩, hfz16_0, hfz16_1⟩ := zc2 BK127
                        go_wp2
                        go_meet
                        case rel => exact ⟨_, (true), (by first | rfl | (simp; done) | (simp [*]; done)), H', ⟨by have := HJ2.out; have := HK2.out; first | omega | exact Nat.le_refl _⟩, ⟨by (with_reducible repeat (first | refine blk_drewN ?_ _ | refine blk_drew ?_ | refine blk_alloc ?_ _)); refine blk_put (cs := #[.int .i64 ((rd_T61 l0 x16_2).f0), .int .i64 0]) ?_ 1 _ rfl; (with_reducible repeat (first | refine blk_drewN ?_ _ | refine blk_drew ?_ | refine blk_alloc ?_ _)); refine blk_put (cs := #[.int .i64 0, .int .i64 0]) ?_ 0 _ rfl; (with_reducible repeat (first | refine blk_drewN ?_ _ | refine blk_drew ?_ | refine blk_alloc ?_ _)); exact BK127.out⟩, ⟨zb HB⟩⟩
                      · rw [if_neg c15] at H
                        have c15b0 : decide (((rd_T61 l0 x16_2).f0) < 0) = false := decide_eq_false c15
                        clear c15
                        (first | rw [c15b0] | (simp only [i64_w, i32_w]; rw [c15b0]) | skip)
                        have H' := Aside0.mk H
                        clear H
                        obtain ⟨⟨hcz17_0, hcz17_1⟩, hfz17_0, hfz17_1⟩ := zc2 BK127
                        go_wp2
                        go_meet
                        case rel => exact ⟨_, (decide (((rd_T61 l0 x16_2).f1) > (wrap64 (a1 - ((rd_T61 l0 x16_2).f0))))), (by first | rfl | (simp; done) | (simp [*]; done)), H', ⟨by have := HJ2.out; have := HK2.out; first | omega | exact Nat.le_refl _⟩, ⟨by (with_reducible repeat (first | refine blk_drewN ?_ _ | refine blk_drew ?_ | refine blk_alloc ?_ _)); refine blk_put (cs := #[.int .i64 ((rd_T61 l0 x16_2).f0), .int .i64 0]) ?_ 1 _ rfl; (with_reducible repeat (first | refine blk_drewN ?_ _ | refine blk_drew ?_ | refine blk_alloc ?_ _)); refine blk_put (cs := #[.int .i64 0, .int .i64 0]) ?_ 0 _ rfl; (with_reducible repeat (first | refine blk_drewN ?_ _ | refine blk_drew ?_ | refine blk_alloc ?_ _)); exact BK127.out⟩, ⟨zb HB⟩⟩
                    case rest =>
                      clear HC12
                      try clear c1
                      try clear p1
                      try clear q1
                      try clear hx1
                      try clear p2
                      try clear c4
                      try clear c4b0
                      try clear c5
                      try clear c6
                      try clear c6b0
                      try clear p6
                      try clear c7
                      try clear c7b0
                      try clear c8
                      try clear c8b0
                      try clear c9
                      try clear c9b0
                      try clear p12
                      try clear q12
                      try clear hx12
                      try clear c15
                      try clear c15b0
                      try clear hcz11_0
                      try clear hcz11_1
                      try clear hcz14_0
                      try clear hcz14_1
                      try clear hcz16_0
                      try clear hcz16_1
                      try clear hcz17_0
                      try clear hcz17_1
                      try clear hfz11_0
                      try clear hfz11_1
                      try clear hfz14_0
                      try clear hfz14_1
                      try clear hfz16_0
                      try clear hfz16_1
                      try clear hfz17_0
                      try clear hfz17_1
                      try clear hx126_0
                      try clear hx126_1
                      try clear p126
                      try clear p2
                      try clear q126
                      obtain ⟨kq, x24_11, rfl, HA, HJ11, BK127, HB⟩ := hcut
                      cases kq with
                      | zero => exact absurd HA.out (by simp [extent_Check.j2])
                      | succ kj11 =>
                        have H := HA.out
                        clear HA
                        simp only [extent_Check.j2] at H
                        by_cases c18 : x24_11 = true
                        · subst c18
                          have H1 : (some 2) = some r := by rw [if_pos rfl] at H; exact H
                          clear H
                          have H := H1
                          clear H1
                          obtain rfl := Option.some.inj H
                          go_wp2
                          go_ret
                          exact ⟨by first | rfl | (simp [errW_none, errW_some] <;> rfl) | (simp [*, errW_none, errW_some] <;> rfl), zb HB⟩
                        · replace c18 := Bool.eq_false_iff.mpr c18
                          subst c18
                          have H1 : (if ((rd_T61 l0 x16_2).f0) < x5_2 then (some 3) else (extent_Check.l0 kj11 a1 (wrap64 ((wrap64 (((rd_T61 l0 x16_2).f0) + ((rd_T61 l0 x16_2).f1))) + 1)) l0 (l0.length : Int) (wrap64 (x16_2 + 1)))) = some r := by rw [if_neg (show ¬ (false = true) by decide)] at H; exact H
                          clear H
                          have H := H1
                          clear H1
                          by_cases c19 : ((rd_T61 l0 x16_2).f0) < x5_2
                          · rw [if_pos c19] at H
                            have c19b0 : decide (((rd_T61 l0 x16_2).f0) < x5_2) = true := decide_eq_true c19
                            clear c19
                            obtain rfl := Option.some.inj H
                            obtain ⟨⟨hcz20_0, hcz20_1⟩, hfz20_0, hfz20_1⟩ := zc2 BK127
                            go_wp2
                            go_ret
                            exact ⟨by first | rfl | (simp [errW_none, errW_some] <;> rfl) | (simp [*, errW_none, errW_some] <;> rfl), zb HB⟩
                          · rw [if_neg c19] at H
                            have c19b0 : decide (((rd_T61 l0 x16_2).f0) < x5_2) = false := decide_eq_false c19
                            clear c19
                            have H' := Aside0.mk H
                            clear H
                            obtain ⟨⟨hcz21_0, hcz21_1⟩, hfz21_0, hfz21_1⟩ := zc2 BK127
                            go_wp2
                            go_roundg kj11
                            case measure => have := HJ2.out; have := HK2.out; have := HJ11.out; omega
                            case rel => exact ⟨(wrap64 ((wrap64 (((rd_T61 l0 x16_2).f0) + ((rd_T61 l0 x16_2).f1))) + 1)), (wrap64 (x16_2 + 1)), (by first | rfl | (simp; done) | (simp [*]; done)), (by first | rfl | (simp; done) | (simp [*]; done)), H', ⟨by have := HJ2.out; have := HK2.out; have := HJ11.out; omega⟩, ⟨zb HB⟩⟩
                · rw [if_neg c8] at H
                  exact absurd H (by simp)
              · rw [if_neg c7] at H
                exact absurd H (by simp)
            · rw [if_neg c6] at H
              have c6b0 : decide (x16_2 < (l0.length : Int)) = false := decide_eq_false c6
              clear c6
              obtain rfl := Option.some.inj H
              go_wp2
              go_ret
              exact ⟨by first | rfl | (simp [errW_none, errW_some] <;> rfl) | (simp [*, errW_none, errW_some] <;> rfl), zb HB⟩
def api_Extent.l0 : Nat → List (S61) → List (S61) → Int → Int → Option (Bool)
  | 0, _, _, _, _ => none
  | k + 1, x0, x1, x12, x13 => if x13 < x12 then (if 0 ≤ x13 then (if x13 < (x0.length : Int) then (if x13 < (x1.length : Int) then (if (!(((rd_T61 x0 x13).f0) == ((rd_T61 x1 x13).f0)) || (!(((rd_T61 x0 x13).f1) == ((rd_T61 x1 x13).f1)))) = true then (some false) else (api_Extent.l0 k x0 x1 x12 (wrap64 (x13 + 1)))) else (none)) else (none)) else (none)) else (some true)
def api_Extent.f (k : Nat) (l0 : List (S61)) (l1 : List (S61)) : Option (Bool) := if (l0.length : Int) = (l1.length : Int) then (api_Extent.l0 k l0 l1 (l0.length : Int) 0) else (some false)
set_option maxHeartbeats 8000000 in
set_option maxRecDepth 100000 in
theorem api_Extent.calls (k : Nat) (A0 : Option Addr) (c0 : Nat) (l0 : List (S61)) (A1 : Option Addr) (c1 : Nat) (l1 : List (S61)) (r : Bool) (w : World) (hr0 : Kd.C k61 w A0 l0.length l0) (hc0 : l0.length ≤ c0) (hr1 : Kd.C k61 w A1 l1.length l1) (hc1 : l1.length ≤ c1) (h : api_Extent.f k l0 l1 = some r) :
    Calls Tryz.prog 48 #[.slice A0 l0.length c0, .slice A1 l1.length c1] w fun e w' => e = .returned (.bool r) ∧ Drawn0 w w' := by
  have hu61 := Tryz.underlying61
  have HR0 := Aside0.mk hr0
  have HC0 := Aside0.mk hc0
  clear hr0 hc0
  have HR1 := Aside0.mk hr1
  have HC1 := Aside0.mk hc1
  clear hr1 hc1
  have H : (if (l0.length : Int) = (l1.length : Int) then (api_Extent.l0 k l0 l1 (l0.length : Int) 0) else (some false)) = some r := h
  clear h
  by_cases c3 : (l0.length : Int) = (l1.length : Int)
  · rw [if_pos c3] at H
    have c3b0 : ((l0.length : Int) == (l1.length : Int)) = true := beq_iff_eq.mpr c3
    have c3b1 : ((l0.length : Int) != (l1.length : Int)) = false := bne_eq_false_iff_eq.mpr c3
    have c3b2 : (l0.length == l1.length) = true := by first | simpa using c3 | (simp at c3 ⊢; omega)
    clear c3
    have H' := Aside0.mk H
    clear H
    go_enter Tryz.func48, Tryz.ntmps48
    go_wp2
    repeat (go_quiet (fail); try go_wp2)
    go_loopg [13] k (fun kq v13 w' => ∃ (x13_1 : Int), v13 = .int .i64 x13_1 ∧ Aside0 (api_Extent.l0 kq l0 l1 (l0.length : Int) x13_1 = some r) ∧ Aside0 (kq ≤ k) ∧ Drawn0 w w')
    case atStart => exact ⟨(0), (by first | rfl | (simp; done) | (simp [*]; done)), H', ⟨Nat.le_refl _⟩, by repeat (first | exact Drawn0.refl _ | apply Drawn0.step)⟩
    case round =>
      clear H'
      try clear c1
      try clear p2
      try clear c3
      try clear c3b0
      try clear c3b1
      try clear c3b2
      obtain ⟨x13_1, rfl, HA, HK1, ⟨m1, rfl⟩⟩ := hrel
      cases gk with
      | zero => exact absurd HA.out (by simp [api_Extent.l0])
      | succ k1 =>
        have H := HA.out
        clear HA
        simp only [api_Extent.l0] at H
        by_cases c4 : x13_1 < (l0.length : Int)
        · rw [if_pos c4] at H
          have c4b0 : decide (x13_1 < (l0.length : Int)) = true := decide_eq_true c4
          clear c4
          by_cases c5 : 0 ≤ x13_1
          · rw [if_pos c5] at H
            have c5b0 : decide (0 ≤ x13_1) = true := decide_eq_true c5
            clear c5
            by_cases c6 : x13_1 < (l0.length : Int)
            · rw [if_pos c6] at H
              have c6b0 : decide (x13_1 < (l0.length : Int)) = true := decide_eq_true c6
              clear c6
              by_cases c7 : x13_1 < (l1.length : Int)
              · rw [if_pos c7] at H
                have c7b0 : decide (x13_1 < (l1.length : Int)) = true := decide_eq_true c7
                clear c7
                by_cases c8 : (!(((rd_T61 l0 x13_1).f0) == ((rd_T61 l1 x13_1).f0)) || (!(((rd_T61 l0 x13_1).f1) == ((rd_T61 l1 x13_1).f1)))) = true
                · rw [if_pos c8] at H
                  have c8b0 : (!(((rd_T61 l0 x13_1).f0) == ((rd_T61 l1 x13_1).f0)) || (!(((rd_T61 l0 x13_1).f1) == ((rd_T61 l1 x13_1).f1)))) = true := c8
                  clear c8
                  obtain rfl := Option.some.inj H
                  have p128 : 0 ≤ (x13_1 : Int) := of_decide_eq_true (by first | (with_reducible assumption) | assumption)
                  have q128 : x13_1 < (l0.length : Int) := of_decide_eq_true (by first | (with_reducible assumption) | assumption)
                  obtain ⟨ad128, e128, hx128_0, hx128_1⟩ := at_T61 HR0.out x13_1 p128 q128
                  cases e128
                  replace p128 := eq_true p128
                  replace q128 := eq_true q128
                  have p129 : 0 ≤ (x13_1 : Int) := of_decide_eq_true (by first | (with_reducible assumption) | assumption)
                  have q129 : x13_1 < (l1.length : Int) := of_decide_eq_true (by first | (with_reducible assumption) | assumption)
                  obtain ⟨ad129, e129, hx129_0, hx129_1⟩ := at_T61 HR1.out x13_1 p129 q129
                  cases e129
                  replace p129 := eq_true p129
                  replace q129 := eq_true q129
                  go_wp2
                  repeat (go_quiet (fail); try go_wp2)
                  go_ret
                  exact ⟨by first | rfl | (simp; done) | (simp [*]; done), by repeat (first | exact Drawn0.refl _ | apply Drawn0.step)⟩
                · rw [if_neg c8] at H
                  have c8b0 : (!(((rd_T61 l0 x13_1).f0) == ((rd_T61 l1 x13_1).f0)) || (!(((rd_T61 l0 x13_1).f1) == ((rd_T61 l1 x13_1).f1)))) = false := by simpa using c8
                  clear c8
                  have H' := Aside0.mk H
                  clear H
                  have p128 : 0 ≤ (x13_1 : Int) := of_decide_eq_true (by first | (with_reducible assumption) | assumption)
                  have q128 : x13_1 < (l0.length : Int) := of_decide_eq_true (by first | (with_reducible assumption) | assumption)
                  obtain ⟨ad128, e128, hx128_0, hx128_1⟩ := at_T61 HR0.out x13_1 p128 q128
                  cases e128
                  replace p128 := eq_true p128
                  replace q128 := eq_true q128
                  have p129 : 0 ≤ (x13_1 : Int) := of_decide_eq_true (by first | (with_reducible assumption) | assumption)
                  have q129 : x13_1 < (l1.length : Int) := of_decide_eq_true (by first | (with_reducible assumption) | assumption)
                  obtain ⟨ad129, e129, hx129_0, hx129_1⟩ := at_T61 HR1.out x13_1 p129 q129
                  cases e129
                  replace p129 := eq_true p129
                  replace q129 := eq_true q129
                  go_wp2
                  repeat (go_quiet (fail); try go_wp2)
                  go_roundg k1
                  case measure => have := HK1.out; omega
                  case rel => exact ⟨(wrap64 (x13_1 + 1)), (by first | rfl | (simp; done) | (simp [*]; done)), H', ⟨by have := HK1.out; omega⟩, by repeat (first | exact Drawn0.refl _ | apply Drawn0.step)⟩
              · rw [if_neg c7] at H
                exact absurd H (by simp)
            · rw [if_neg c6] at H
              exact absurd H (by simp)
          · rw [if_neg c5] at H
            exact absurd H (by simp)
        · rw [if_neg c4] at H
          have c4b0 : decide (x13_1 < (l0.length : Int)) = false := decide_eq_false c4
          clear c4
          obtain rfl := Option.some.inj H
          go_wp2
          repeat (go_quiet (fail); try go_wp2)
          go_ret
          exact ⟨by first | rfl | (simp; done) | (simp [*]; done), by repeat (first | exact Drawn0.refl _ | apply Drawn0.step)⟩
  · rw [if_neg c3] at H
    have c3b0 : ((l0.length : Int) == (l1.length : Int)) = false := beq_eq_false_iff_ne.mpr c3
    have c3b1 : ((l0.length : Int) != (l1.length : Int)) = true := bne_iff_ne.mpr c3
    have c3b2 : (l0.length == l1.length) = false := by first | simpa using c3 | (simp at c3 ⊢; omega)
    obtain rfl := Option.some.inj H
    go_enter Tryz.func48, Tryz.ntmps48
    go_wp2
    repeat (go_quiet (fail); try go_wp2)
    go_ret
    exact ⟨by first | rfl | (simp; done) | (simp [*]; done), by repeat (first | exact Drawn0.refl _ | apply Drawn0.step)⟩
def slices_Index_bool_bool.l0 : Nat → List Bool → Bool → Int → Int → Option (Int)
  | 0, _, _, _, _ => none
  | k + 1, x0, x1, x7, x8 => if x8 < x7 then (if 0 ≤ x8 then (if x8 < (x0.length : Int) then (if (x1 == (rdOf false x0 x8)) = true then (some x8) else (slices_Index_bool_bool.l0 k x0 x1 x7 (wrap64 (x8 + 1)))) else (none)) else (none)) else (some (-1))
def slices_Index_bool_bool.f (k : Nat) (l0 : List Bool) (a1 : Bool) : Option (Int) := slices_Index_bool_bool.l0 k l0 a1 (l0.length : Int) 0
set_option maxHeartbeats 8000000 in
set_option maxRecDepth 100000 in
theorem slices_Index_bool_bool.calls (k : Nat) (A0 : Option Addr) (c0 : Nat) (l0 : List Bool) (a1 : Bool) (r : Int) (w : World) (hr0 : Kd.C Kd.bool w A0 l0.length l0) (hc0 : l0.length ≤ c0) (h : slices_Index_bool_bool.f k l0 a1 = some r) :
    Calls Tryz.prog 82 #[.slice A0 l0.length c0, .bool a1] w fun e w' => e = .returned (.int .i64 r) ∧ Drawn0 w w' := by
  have HR0 := Aside0.mk hr0
  have HC0 := Aside0.mk hc0
  clear hr0 hc0
  have H : (slices_Index_bool_bool.l0 k l0 a1 (l0.length : Int) 0) = some r := h
  clear h
  have H' := Aside0.mk H
  clear H
  go_enter Tryz.func82, Tryz.ntmps82
  go_wp2
  go_loopg [8] k (fun kq v8 w' => ∃ (x8_1 : Int), v8 = .int .i64 x8_1 ∧ Aside0 (slices_Index_bool_bool.l0 kq l0 a1 (l0.length : Int) x8_1 = some r) ∧ Aside0 (kq ≤ k) ∧ Drawn0 w w')
  case atStart => exact ⟨(0), (by first | rfl | (simp; done) | (simp [*]; done)), H', ⟨Nat.le_refl _⟩, by repeat (first | exact Drawn0.refl _ | apply Drawn0.step)⟩
  case round =>
    clear H'
    try clear p2
    obtain ⟨x8_1, rfl, HA, HK1, ⟨m1, rfl⟩⟩ := hrel
    cases gk with
    | zero => exact absurd HA.out (by simp [slices_Index_bool_bool.l0])
    | succ k1 =>
      have H := HA.out
      clear HA
      simp only [slices_Index_bool_bool.l0] at H
      by_cases c3 : x8_1 < (l0.length : Int)
      · rw [if_pos c3] at H
        have c3b0 : decide (x8_1 < (l0.length : Int)) = true := decide_eq_true c3
        clear c3
        by_cases c4 : 0 ≤ x8_1
        · rw [if_pos c4] at H
          have c4b0 : decide (0 ≤ x8_1) = true := decide_eq_true c4
          clear c4
          by_cases c5 : x8_1 < (l0.length : Int)
          · rw [if_pos c5] at H
            have c5b0 : decide (x8_1 < (l0.length : Int)) = true := decide_eq_true c5
            clear c5
            by_cases c6 : (a1 == (rdOf false l0 x8_1)) = true
            · rw [if_pos c6] at H
              have c6b0 : (a1 == (rdOf false l0 x8_1)) = true := c6
              (try (have c6b1 : decide (a1 = (rdOf false l0 x8_1)) = true := by simpa using c6))
              (try (have c6b2 : (a1 == (rdOf false l0 x8_1)) = true := by simpa using c6))
              clear c6
              obtain rfl := Option.some.inj H
              have p130 : 0 ≤ (x8_1 : Int) := of_decide_eq_true (by first | (with_reducible assumption) | assumption)
              have q130 : x8_1 < (l0.length : Int) := of_decide_eq_true (by first | (with_reducible assumption) | assumption)
              obtain ⟨ad130, e130, hx130_0⟩ := Kd.at_bool HR0.out x8_1 p130 q130
              cases e130
              replace p130 := eq_true p130
              replace q130 := eq_true q130
              go_wp2
              go_ret
              exact ⟨by first | rfl | (simp; done) | (simp [*]; done), by repeat (first | exact Drawn0.refl _ | apply Drawn0.step)⟩
            · rw [if_neg c6] at H
              have c6b0 : (a1 == (rdOf false l0 x8_1)) = false := by simpa using c6
              (try (have c6b1 : decide (a1 = (rdOf false l0 x8_1)) = false := by simpa using c6))
              (try (have c6b2 : (a1 == (rdOf false l0 x8_1)) = false := by simpa using c6))
              (try (have c6b3 : ¬ (a1 = (rdOf false l0 x8_1)) := by simpa using c6))
              clear c6
              have H' := Aside0.mk H
              clear H
              have p130 : 0 ≤ (x8_1 : Int) := of_decide_eq_true (by first | (with_reducible assumption) | assumption)
              have q130 : x8_1 < (l0.length : Int) := of_decide_eq_true (by first | (with_reducible assumption) | assumption)
              obtain ⟨ad130, e130, hx130_0⟩ := Kd.at_bool HR0.out x8_1 p130 q130
              cases e130
              replace p130 := eq_true p130
              replace q130 := eq_true q130
              go_wp2
              go_roundg k1
              case measure => have := HK1.out; omega
              case rel => exact ⟨(wrap64 (x8_1 + 1)), (by first | rfl | (simp; done) | (simp [*]; done)), H', ⟨by have := HK1.out; omega⟩, by repeat (first | exact Drawn0.refl _ | apply Drawn0.step)⟩
          · rw [if_neg c5] at H
            exact absurd H (by simp)
        · rw [if_neg c4] at H
          exact absurd H (by simp)
      · rw [if_neg c3] at H
        have c3b0 : decide (x8_1 < (l0.length : Int)) = false := decide_eq_false c3
        clear c3
        obtain rfl := Option.some.inj H
        go_wp2
        go_ret
        exact ⟨by first | rfl | (simp; done) | (simp [*]; done), by repeat (first | exact Drawn0.refl _ | apply Drawn0.step)⟩
def slices_Contains_bool_bool.f (k : Nat) (l0 : List Bool) (a1 : Bool) : Option (Bool) := (slices_Index_bool_bool.f k l0 a1).bind fun t131 => (some (decide (t131 ≥ 0)))
set_option maxHeartbeats 8000000 in
set_option maxRecDepth 100000 in
theorem slices_Contains_bool_bool.calls (k : Nat) (A0 : Option Addr) (c0 : Nat) (l0 : List Bool) (a1 : Bool) (r : Bool) (w : World) (hr0 : Kd.C Kd.bool w A0 l0.length l0) (hc0 : l0.length ≤ c0) (h : slices_Contains_bool_bool.f k l0 a1 = some r) :
    Calls Tryz.prog 57 #[.slice A0 l0.length c0, .bool a1] w fun e w' => e = .returned (.bool r) ∧ Drawn0 w w' := by
  have HR0 := Aside0.mk hr0
  have HC0 := Aside0.mk hc0
  clear hr0 hc0
  have H : ((slices_Index_bool_bool.f k l0 a1).bind fun t131 => (some (decide (t131 ≥ 0)))) = some r := h
  clear h
  replace H := Option.bind_eq_some_iff.mp H
  obtain ⟨t131, A30, H⟩ := H
  replace H : (some (decide (t131 ≥ 0))) = some r := H
  have A3 := Aside0.mk A30
  clear A30
  obtain rfl := Option.some.inj H
  go_enter Tryz.func57, Tryz.ntmps57
  go_wp2_with (first | ((with_reducible refine gate_callee (f := 82) rfl ?_); refine zG (some 7) Tryz.func82 #[.slice A0 l0.length c0, .bool a1] ?_; (with_reducible refine (slices_Index_bool_bool.calls k _ _ l0 a1 t131 _ ?side1 ?side2 A3.out).mono ?_); (case side1 => repeat (first | exact HR0.out | (with_reducible refine Kd.C_alloc ?_ _) | (with_reducible refine Kd.C_drewN ?_ _) | (with_reducible refine Kd.C_drew ?_))); (case side2 => exact HC0.out); rintro e w' ⟨rfl, ⟨nd, rfl⟩⟩; refine ⟨_, rfl, ?_⟩))
  go_ret
  exact ⟨by first | rfl | (simp; done) | (simp [*]; done), by repeat (first | exact Drawn0.refl _ | apply Drawn0.step)⟩
end Go.Proofs.YtdplnbmioioniaaGreat.Pq
end
section
namespace Go.Proofs.YtdplnbmioioniaaGreat.Pq
open Go.RowKit Go.Proofs.YtdplnbmioioniaaGreatW.PrintWords Go.Proofs.YtdplnbmioioniaaGreatW.PrintLast Go.Proofs.YtdplnbmioioniaaGreatW.PrintMore
set_option linter.unusedVariables false
set_option linter.unusedSimpArgs false
theorem w64 {n : Int} (h1 : -9223372036854775808 ≤ n) (h2 : n ≤ 9223372036854775807) : wrap64 n = n := by unfold wrap64; omega
def okC (n : Int) : Int → List XE → Bool
  | _, [] => true
  | nx, e :: r => decide (0 < e.f1 ∧ 0 ≤ e.f0 ∧ e.f1 ≤ n - e.f0 ∧ nx ≤ e.f0) && okC n (e.f0 + e.f1 + 1) r
theorem okC_drop (n nx : Int) (l : List XE) (j : Nat) (hj : j < l.length) : okC n nx (l.drop j) = (decide (0 < (l.getD j z61).f1 ∧ 0 ≤ (l.getD j z61).f0 ∧ (l.getD j z61).f1 ≤ n - (l.getD j z61).f0 ∧ nx ≤ (l.getD j z61).f0) && okC n ((l.getD j z61).f0 + (l.getD j z61).f1 + 1) (l.drop (j + 1))) := by
  rw [List.drop_eq_getElem_cons hj, okC, List.getD_eq_getElem?_getD, List.getElem?_eq_getElem hj]; rfl
theorem ev_check_loop (n : Int) (hn0 : 0 ≤ n) (hn1 : n ≤ 4096) (l : List XE) (hl : l.length ≤ 1048576) (hok : ∀ x ∈ l, okX x) : ∀ (m j : Nat) (nx : Int), l.length - j = m → j ≤ l.length → 0 ≤ nx → nx ≤ 4098 →
    ∃ c, Ev (fun k => extent_Check.l0 k n nx l (l.length : Int) (j : Int)) c ∧ (c = 0 ↔ okC n nx (l.drop j) = true)
  | 0, j, nx, hm, hj, h0, h1 => by
    refine ⟨0, Ev.step (f := fun _ => some 0) (fun k => ?_) (Ev.now 0), ?_⟩
    · rw [extent_Check.l0, if_neg (by omega)]
    · rw [List.drop_eq_nil_of_le (by omega)]; simp [okC]
  | m + 1, j, nx, hm, hj, h0, h1 => by
    have hlt : j < l.length := by omega
    have hx := hok (l.getD j z61) (by rw [List.getD_eq_getElem?_getD, List.getElem?_eq_getElem hlt]; exact List.getElem_mem hlt)
    have hrd : rd_T61 l (j : Int) = l.getD j z61 := by unfold rd_T61; rw [Int.toNat_natCast]
    rw [okC_drop n nx l j hlt]
    have hunf : ∀ k, extent_Check.l0 (k + 1) n nx l (l.length : Int) (j : Int) = (if (l.getD j z61).f1 ≤ 0 then (some 1) else (if (l.getD j z61).f0 < 0 then (extent_Check.j2 k n nx l (l.length : Int) (j : Int) true (l.getD j z61).f0 (l.getD j z61).f1) else (extent_Check.j2 k n nx l (l.length : Int) (j : Int) (decide ((l.getD j z61).f1 > (wrap64 (n - (l.getD j z61).f0)))) (l.getD j z61).f0 (l.getD j z61).f1))) := fun k => by
      rw [extent_Check.l0, hrd, if_pos (by omega), if_pos (by omega), if_pos (by omega)]
    have ih := fun nx' => ev_check_loop n hn0 hn1 l hl hok m (j + 1) nx' (by omega) (by omega)
    generalize l.getD j z61 = x at hunf hx
    obtain ⟨⟨x1, x2⟩, x3, x4⟩ := hx
    by_cases c1 : x.f1 ≤ 0
    · refine ⟨1, Ev.step (f := fun _ => some 1) (fun k => by rw [hunf, if_pos c1]) (Ev.now 1), ?_⟩
      rw [show decide (0 < x.f1 ∧ 0 ≤ x.f0 ∧ x.f1 ≤ n - x.f0 ∧ nx ≤ x.f0) = false from decide_eq_false (by omega)]; simp
    by_cases c2 : x.f0 < 0
    · refine ⟨2, Ev.step (f := fun k => extent_Check.j2 k n nx l (l.length : Int) (j : Int) true x.f0 x.f1) (fun k => by rw [hunf, if_neg c1, if_pos c2]) (Ev.step (f := fun _ => some 2) (fun k => by rw [extent_Check.j2, if_pos rfl]) (Ev.now 2)), ?_⟩
      rw [show decide (0 < x.f1 ∧ 0 ≤ x.f0 ∧ x.f1 ≤ n - x.f0 ∧ nx ≤ x.f0) = false from decide_eq_false (by omega)]; simp
    have hw : wrap64 (n - x.f0) = n - x.f0 := w64 (by omega) (by omega)
    by_cases c3 : x.f1 > n - x.f0
    · refine ⟨2, Ev.step (f := fun k => extent_Check.j2 k n nx l (l.length : Int) (j : Int) true x.f0 x.f1) (fun k => by rw [hunf, if_neg c1, if_neg c2, hw, decide_eq_true c3]) (Ev.step (f := fun _ => some 2) (fun k => by rw [extent_Check.j2, if_pos rfl]) (Ev.now 2)), ?_⟩
      rw [show decide (0 < x.f1 ∧ 0 ≤ x.f0 ∧ x.f1 ≤ n - x.f0 ∧ nx ≤ x.f0) = false from decide_eq_false (by omega)]; simp
    by_cases c4 : x.f0 < nx
    · refine ⟨3, Ev.step (f := fun k => extent_Check.j2 k n nx l (l.length : Int) (j : Int) false x.f0 x.f1) (fun k => by rw [hunf, if_neg c1, if_neg c2, hw, decide_eq_false c3]) (Ev.step (f := fun _ => some 3) (fun k => by rw [extent_Check.j2, if_neg (by simp), if_pos c4]) (Ev.now 3)), ?_⟩
      rw [show decide (0 < x.f1 ∧ 0 ≤ x.f0 ∧ x.f1 ≤ n - x.f0 ∧ nx ≤ x.f0) = false from decide_eq_false (by omega)]; simp
    · obtain ⟨c, hc, hi⟩ := ih (x.f0 + x.f1 + 1) (by omega) (by omega)
      refine ⟨c, Ev.step (f := fun k => extent_Check.j2 k n nx l (l.length : Int) (j : Int) false x.f0 x.f1) (fun k => by rw [hunf, if_neg c1, if_neg c2, hw, decide_eq_false c3]) (Ev.step (f := fun k => extent_Check.l0 k n (x.f0 + x.f1 + 1) l (l.length : Int) ((j + 1 : Nat) : Int)) (fun k => by
        rw [extent_Check.j2, if_neg (by simp), if_neg c4, w64 (n := x.f0 + x.f1) (by omega) (by omega), w64 (n := x.f0 + x.f1 + 1) (by omega) (by omega), w64 (n := (j : Int) + 1) (by omega) (by omega)]; rfl) hc), hi.trans ?_⟩
      rw [show decide (0 < x.f1 ∧ 0 ≤ x.f0 ∧ x.f1 ≤ n - x.f0 ∧ nx ≤ x.f0) = true from decide_eq_true (by omega)]; simp
theorem ev_check (n : Int) (hn0 : 0 ≤ n) (hn1 : n ≤ 4096) (l : List XE) (hl : l.length ≤ 1048576) (hok : ∀ x ∈ l, okX x) : ∃ c, Ev (fun k => extent_Check.f k l n) c ∧ (c = 0 ↔ okC n 0 l = true) := by
  obtain ⟨c, hc, hi⟩ := ev_check_loop n hn0 hn1 l hl hok l.length 0 0 (by omega) (by omega) (by omega) (by omega)
  refine ⟨c, Ev.congr (f := fun k => extent_Check.j0 k l n false) (fun k => by unfold extent_Check.f; rw [if_neg (by omega), decide_eq_false (by omega)]) (Ev.step (f := fun k => extent_Check.l0 k n 0 l (l.length : Int) ((0 : Nat) : Int)) (fun k => by rw [extent_Check.j0, if_neg (by simp)]; rfl) hc), hi⟩
theorem ev_index_loop (l : List Bool) (hl : l.length ≤ 1048576) : ∀ (m j : Nat), l.length - j = m → j ≤ l.length → ∃ c, Ev (fun k => slices_Index_bool_bool.l0 k l false (l.length : Int) (j : Int)) c ∧ decide (c ≥ 0) = (l.drop j).any (fun b => !b)
  | 0, j, hm, hj => by
    refine ⟨-1, Ev.step (f := fun _ => some (-1)) (fun k => ?_) (Ev.now _), ?_⟩
    · rw [slices_Index_bool_bool.l0, if_neg (by omega)]
    · rw [List.drop_eq_nil_of_le (by omega)]; rfl
  | m + 1, j, hm, hj => by
    have hlt : j < l.length := by omega
    have hrd : rdOf false l (j : Int) = l[j] := by unfold rdOf; rw [Int.toNat_natCast, List.getD_eq_getElem?_getD, List.getElem?_eq_getElem hlt]; rfl
    have hunf : ∀ k, slices_Index_bool_bool.l0 (k + 1) l false (l.length : Int) (j : Int) = (if (false == l[j]) = true then some (j : Int) else slices_Index_bool_bool.l0 k l false (l.length : Int) ((j + 1 : Nat) : Int)) := fun k => by
      rw [slices_Index_bool_bool.l0, hrd, if_pos (by omega), if_pos (by omega), if_pos (by omega), w64 (n := (j : Int) + 1) (by omega) (by omega)]; rfl
    obtain ⟨c, hc, hi⟩ := ev_index_loop l hl m (j + 1) (by omega) (by omega)
    rw [List.drop_eq_getElem_cons hlt, List.any_cons]
    cases hb : l[j] with
    | false => exact ⟨(j : Int), Ev.step (f := fun _ => some (j : Int)) (fun k => by rw [hunf, hb]; rfl) (Ev.now _), by simp⟩
    | true => exact ⟨c, Ev.step (fun k => by rw [hunf, hb]; rfl) hc, by rw [hi]; simp⟩
theorem ev_contains (l : List Bool) (hl : l.length ≤ 1048576) : Ev (fun k => slices_Contains_bool_bool.f k l false) (l.any fun b => !b) := by
  obtain ⟨c, hc, hi⟩ := ev_index_loop l hl l.length 0 (by omega) (by omega)
  refine Ev.bind (a := c) hc ?_
  rw [hi, List.drop_zero]
  exact Ev.now _
end Go.Proofs.YtdplnbmioioniaaGreat.Pq
end
section
namespace Go.Proofs.YtdplnbmioioniaaGreat.Pq
open Go.RowKit Go.Proofs.YtdplnbmioioniaaGreatW.PrintWords Go.Proofs.YtdplnbmioioniaaGreatW.PrintLast Go.Proofs.YtdplnbmioioniaaGreatW.PrintMore
set_option linter.unusedVariables false
set_option linter.unusedSimpArgs false
theorem ev_eqint_loop (l m : List Int) (hl : l.length ≤ 1048576) (hm : m.length = l.length) : ∀ (n j : Nat), l.length - j = n → j ≤ l.length → Ev (fun k => slices_Equal_int_int.l0 k l m (l.length : Int) (j : Int)) (decide (l.drop j = m.drop j))
  | 0, j, hn, hj => by
    rw [List.drop_eq_nil_of_le (by omega), List.drop_eq_nil_of_le (by omega), decide_eq_true rfl]
    exact Ev.step (f := fun _ => some true) (fun k => by rw [slices_Equal_int_int.l0, if_neg (by omega)]) (Ev.now true)
  | n + 1, j, hn, hj => by
    have h1 : j < l.length := by omega
    have h2 : j < m.length := by omega
    have hrd : rd l (j : Int) = l[j] := by unfold rd; rw [Int.toNat_natCast, List.getD_eq_getElem?_getD, List.getElem?_eq_getElem h1]; rfl
    have hrd2 : rd m (j : Int) = m[j] := by unfold rd; rw [Int.toNat_natCast, List.getD_eq_getElem?_getD, List.getElem?_eq_getElem h2]; rfl
    have ih := ev_eqint_loop l m hl hm n (j + 1) (by omega) (by omega)
    have hunf : ∀ k, slices_Equal_int_int.l0 (k + 1) l m (l.length : Int) (j : Int) = (if l[j] = m[j] then slices_Equal_int_int.l0 k l m (l.length : Int) ((j + 1 : Nat) : Int) else some false) := fun k => by
      rw [slices_Equal_int_int.l0, hrd, hrd2, if_pos (by omega), if_pos (by omega), if_pos (by omega), if_pos (by omega), w64 (n := (j : Int) + 1) (by omega) (by omega)]; rfl
    rw [List.drop_eq_getElem_cons h1, List.drop_eq_getElem_cons h2]
    by_cases e : l[j] = m[j]
    · have : decide (l[j] :: l.drop (j + 1) = m[j] :: m.drop (j + 1)) = decide (l.drop (j + 1) = m.drop (j + 1)) := by rw [e]; exact decide_eq_decide.2 ⟨fun h => (List.cons.inj h).2, fun h => by rw [h]⟩
      rw [this]
      exact Ev.step (fun k => by rw [hunf, if_pos e]) ih
    · rw [decide_eq_false (fun h => e (List.cons.inj h).1)]
      exact Ev.step (f := fun _ => some false) (fun k => by rw [hunf, if_neg e]) (Ev.now false)
theorem ev_eqint (l m : List Int) (hl : l.length ≤ 1048576) : Ev (fun k => slices_Equal_int_int.f k l m) (decide (l = m)) := by
  by_cases h : (l.length : Int) = (m.length : Int)
  · have := ev_eqint_loop l m hl (by omega) l.length 0 (by omega) (by omega)
    exact Ev.congr (fun k => by unfold slices_Equal_int_int.f; rw [if_pos h]; rfl) this
  · rw [decide_eq_false (fun e => h (by rw [e]))]
    exact Ev.congr (f := fun _ => some false) (fun k => by unfold slices_Equal_int_int.f; rw [if_neg h]) (Ev.now false)
def pairX (a b : Img) : Int := if sizesErr (lens a) = 0 then (if sizesErr (lens b) = 0 then (if lens a = lens b then 0 else 22) else sizesErr (lens b)) else sizesErr (lens a)
theorem lens_len (a : Img) : (lens a).length = a.length := by simp [lens]
theorem ev_pair (a b : Img) (ha : a.length ≤ 1048576) (hb : b.length ≤ 1048576) : Ev (fun k => image_pair.f k a b) (pairX a b) := by
  have u0 : ∀ k, image_pair.l0 (k + 1) a b [a, b] 2 0 = (if sizesErr (lens a) = 0 then image_pair.l0 k a b [a, b] 2 1 else some (sizesErr (lens a))) := fun k => by
    rw [image_pair.l0, if_pos (by omega), if_pos (by omega), if_pos (by simp)]
    show (image_Check.f a).bind _ = _
    rw [image_Check.f, if_pos ha, Option.bind_some, w64 (n := 0 + 1) (by omega) (by omega)]
    rfl
  have u1 : ∀ k, image_pair.l0 (k + 1) a b [a, b] 2 1 = (if sizesErr (lens b) = 0 then image_pair.l0 k a b [a, b] 2 2 else some (sizesErr (lens b))) := fun k => by
    rw [image_pair.l0, if_pos (by omega), if_pos (by omega), if_pos (by simp)]
    show (image_Check.f b).bind _ = _
    rw [image_Check.f, if_pos hb, Option.bind_some, w64 (n := 1 + 1) (by omega) (by omega)]
    rfl
  have u2 : ∀ k, image_pair.l0 (k + 1) a b [a, b] 2 2 = (slices_Equal_int_int.f k (lens a) (lens b)).bind fun t => (if t = true then (some 0) else (some 22)) := fun k => by
    rw [image_pair.l0, if_neg (by omega), image_sizes.f, if_pos ha, image_sizes.f, if_pos hb]
    rfl
  refine Ev.congr (f := fun k => image_pair.l0 k a b [a, b] 2 0) (fun k => rfl) ?_
  unfold pairX
  by_cases h0 : sizesErr (lens a) = 0
  · rw [if_pos h0]
    refine Ev.step (fun k => by rw [u0, if_pos h0]) ?_
    by_cases h1 : sizesErr (lens b) = 0
    · rw [if_pos h1]
      refine Ev.step (fun k => by rw [u1, if_pos h1]) (Ev.step u2 (Ev.bind (ev_eqint _ _ (by rw [lens_len]; exact ha)) ?_))
      by_cases h2 : lens a = lens b
      · rw [if_pos h2, decide_eq_true h2]; exact Ev.now 0
      · rw [if_neg h2, decide_eq_false h2]; exact Ev.now 22
    · rw [if_neg h1]
      exact Ev.step (f := fun _ => some (sizesErr (lens b))) (fun k => by rw [u1, if_neg h1]) (Ev.now _)
  · rw [if_neg h0]
    exact Ev.step (f := fun _ => some (sizesErr (lens a))) (fun k => by rw [u0, if_neg h0]) (Ev.now _)
def difL (a b : Img) : List (List XE) := mp (fun i x => canon (pd x (b.getD i [])) x.length) 0 a
theorem sizes_le {a : Img} (h : sizesErr (lens a) = 0) : ∀ i, i < a.length → (a.getD i []).length ≤ 4096 := by
  intro i hi
  unfold sizesErr at h
  split at h
  · cases h
  · split at h
    · cases h
    · rename_i hb
      refine Nat.not_lt.1 fun hlt => hb (List.any_eq_true.2 ⟨((a.getD i []).length : Int), ?_, by unfold badSize; rw [decide_eq_true (show (4096 : Int) < ((a.getD i []).length : Int) by omega), Bool.or_true]⟩)
      unfold lens
      rw [List.getD_eq_getElem?_getD, List.getElem?_eq_getElem hi]
      exact List.mem_map.2 ⟨a[i], List.getElem_mem hi, rfl⟩
theorem lens_at {a b : Img} (h : lens a = lens b) (i : Nat) (hi : i < a.length) : (b.getD i []).length = (a.getD i []).length := by
  have hl : a.length = b.length := by have := congrArg List.length h; rwa [lens_len, lens_len] at this
  have h2 : (lens a)[i]? = (lens b)[i]? := by rw [h]
  unfold lens at h2
  rw [List.getElem?_map, List.getElem?_map, List.getElem?_eq_getElem hi, List.getElem?_eq_getElem (by omega : i < b.length)] at h2
  simp only [Option.map_some, Option.some.injEq] at h2
  rw [List.getD_eq_getElem?_getD, List.getD_eq_getElem?_getD, List.getElem?_eq_getElem hi, List.getElem?_eq_getElem (by omega : i < b.length)]
  simp only [Option.getD_some]
  omega
theorem ev_differ_loop (a b : Img) (ha : a.length ≤ 1048576) (hs : sizesErr (lens a) = 0) (hl : lens a = lens b) : ∀ (n j : Nat) (out : List (List XE)), a.length - j = n → j ≤ a.length → out.length = j → out ++ mp (fun i x => canon (pd x (b.getD i [])) x.length) j (a.drop j) = difL a b →
    Ev (fun k => image_Differ.l0 k a b out (a.length : Int) (j : Int)) (difL a b, 0)
  | 0, j, out, hn, hj, ho, he => by
    rw [List.drop_eq_nil_of_le (by omega)] at he
    rw [← he]
    refine Ev.step (f := fun _ => some (out, 0)) (fun k => by rw [image_Differ.l0, if_neg (by omega)]) ?_
    simp only [mp, List.append_nil]
    exact Ev.now _
  | n + 1, j, out, hn, hj, ho, he => by
    have h1 : j < a.length := by omega
    have hll : a.length = b.length := by have := congrArg List.length hl; rwa [lens_len, lens_len] at this
    have ih := ev_differ_loop a b ha hs hl n (j + 1) (out ++ [canon (pd (a.getD j []) (b.getD j [])) (a.getD j []).length]) (by omega) (by omega) (by simp [ho])
      (by rw [List.append_assoc, List.singleton_append, ← he, mp_drop _ a [] j h1])
    have hunf : ∀ k, image_Differ.l0 (k + 1) a b out (a.length : Int) (j : Int) = image_Differ.l0 k a b (out ++ [canon (pd (a.getD j []) (b.getD j [])) (a.getD j []).length]) (a.length : Int) ((j + 1 : Nat) : Int) := fun k => by
      rw [image_Differ.l0, if_pos (by omega), if_pos (by omega), if_pos (by omega), if_pos (by omega), w64 (n := (j : Int) + 1) (by omega) (by omega)]
      show (image_extents.f (a.getD j []) (b.getD j [])).bind _ = _
      rw [image_extents.f, if_pos ⟨lens_at hl j h1, by have := sizes_le hs j h1; omega⟩]
      simp only [Option.bind_some]
      rw [if_pos (by omega)]; rfl
    exact Ev.step hunf ih
def differX (a b : Img) : List (List XE) × Int := if pairX a b = 0 then (difL a b, 0) else ([], pairX a b)
theorem ev_differ (a b : Img) (ha : a.length ≤ 1048576) (hb : b.length ≤ 1048576) : Ev (fun k => image_Differ.f k a b) (differX a b) := by
  unfold differX
  refine Ev.bind (ev_pair a b ha hb) ?_
  by_cases h : pairX a b = 0
  · have h2 := h
    unfold pairX at h2
    split at h2
    · rename_i hs
      split at h2
      · split at h2
        · rename_i hl
          simp only [h, if_true]
          exact ev_differ_loop a b ha hs hl a.length 0 [] (by omega) (by omega) rfl rfl
        · cases h2
      · rename_i hs2; exact absurd h2 hs2
    · rename_i hs; exact absurd h2 hs
  · rw [if_neg h]
    simp only [h, if_false]
    exact Ev.now _
end Go.Proofs.YtdplnbmioioniaaGreat.Pq
end
section
namespace Go.Proofs.YtdplnbmioioniaaGreat.Pq
open Go.RowKit Go.Shelf Go.Proofs.YtdplnbmioioniaaGreatW.PrintWords Go.Proofs.YtdplnbmioioniaaGreatW.PrintLast Go.Proofs.YtdplnbmioioniaaGreatW.PrintMore
set_option linter.unusedVariables false
set_option linter.unusedSimpArgs false
set_option maxHeartbeats 2000000
set_option maxRecDepth 100000
def okV (im : Img) (v : Nat) (x : List XE) : Bool := okC ((im.getD v []).length : Int) 0 x
def fitsX (im : Img) (l : List (List XE)) : Int := if l.length = im.length then (if (mp (okV im) 0 l).any (fun b => !b) then 3 else 0) else 6
def okLs (l : List (List XE)) : Prop := l.length ≤ 1048576 ∧ ∀ x ∈ l, okL x
instance (l : List (List XE)) : Decidable (okLs l) := inferInstanceAs (Decidable (_ ∧ _))
theorem resync_fits_1.calls (i : Nat) (x : List XE) (A' : Option Addr) (c' : Nat) (W : World) (Bi : Nat) (AI : Option Addr) (cI : Nat) (im : Img)
    (hb : W.cell? ⟨Bi, 0, none⟩ = some (.slice AI im.length cI)) (him : Kd.C kImg W AI im.length im) (hi : i < im.length) (hs : (im.getD i []).length ≤ 4096)
    (hx : Kd.C kXE W A' x.length x) (hc : x.length ≤ c') (hok : okL x) :
    Calls Tryz.prog 55 #[.int .i64 i, .slice A' x.length c', .pointer (some ⟨Bi, 0, none⟩)] W (Ret (.bool (okV im i x)) W) := by
  obtain ⟨c, hev, hiff⟩ := ev_check ((im.getD i []).length : Int) (by omega) (by omega) x (by have := hok.2; omega) hok.1
  obtain ⟨k, hk⟩ := hev.rounds
  have hmax := Kd.C_max him
  obtain ⟨ad, AV, cV, rfl, hcell, hcv, hrow⟩ := C_at_row him i hi
  have hcall := fun W1 hx1 => extent_Check.calls k A' c' x _ c W1 hx1 hc hk
  have HX := Aside0.mk hx
  have HQ := Aside0.mk (show (c = 0 ↔ okV im i x = true) from hiff)
  have t0 : (i : Int) < (im.length : Int) := by omega
  clear hev hk hiff hx hok him hrow
  generalize im.getD i [] = v at hcell hcall hs
  by_cases q : c = 0
  · have hq := HQ.out.1 q
    rw [hq]
    subst q
    go_enter Tryz.func55, Tryz.ntmps55
    go_wp2_with (go_at_call 56; refine (hcall _ HX.out).mono ?_; rintro e w1 ⟨rfl, h1⟩; have n1 := Aside0.mk h1; clear h1)
    go_ret
    exact ⟨rfl, n1.out⟩
  · have hq : okV im i x = false := by cases h : okV im i x with | false => rfl | true => exact absurd (HQ.out.2 h) q
    rw [hq]
    have q1 : (c == 0) = false := by simpa using q
    have q2 : decide (c = 0) = false := by simpa using q
    go_enter Tryz.func55, Tryz.ntmps55
    go_wp2_with (go_at_call 56; refine (hcall _ HX.out).mono ?_; rintro e w1 ⟨rfl, h1⟩; have n1 := Aside0.mk h1; clear h1)
    go_ret
    exact ⟨rfl, n1.out⟩
theorem resync_fits.calls0 (A : Option Addr) (c : Nat) (im : Img) (A1 : Option Addr) (c1 : Nat) (l : List (List XE)) (w : World) (hr : Kd.C kImg w A im.length im) (hc : im.length ≤ c) (hr1 : Kd.C (Kd.slice 61 kXE) w A1 l.length l) (hc1 : l.length ≤ c1)
    (hs : ∀ i, i < im.length → (im.getD i []).length ≤ 4096) (hok : okLs l) :
    Calls Tryz.prog 25 #[.slice A im.length c, .slice A1 l.length c1] w (Ret (.int .i64 (fitsX im l)) w) := by
  unfold fitsX
  by_cases hl : l.length = im.length
  · rw [if_pos hl]
    have heach := each_bool.calls 55 #[.pointer (some ⟨w.heap.size, 0, none⟩)] (okV im) A1 c1 l (w.alloc (.cells #[.slice A im.length c] 23)) (enters_of Tryz.func55 (by kernel_rfl) rfl) (Kd.C_alloc hr1 _) hc1 hok.1
      (fun i x A' c' W hW hi hx hrow hc' => resync_fits_1.calls i x A' c' W w.heap.size A c im ((hW.cell (p := ⟨w.heap.size, 0, none⟩) (by simp)).trans (by simp)) (C_step (Kd.C_alloc hr _) hW) (by omega) (hs i (by omega)) hrow hc' (by subst hx; exact hok.2 _ (by rw [List.getD_eq_getElem?_getD, List.getElem?_eq_getElem hi]; exact List.getElem_mem hi)))
    have hlen : (mp (okV im) 0 l).length = l.length := mp_len _ _ _
    obtain ⟨k, hk⟩ := (ev_contains (mp (okV im) 0 l) (by rw [hlen]; exact hok.1)).rounds
    have hcon := fun A2 c2 w2 h1 h2 => slices_Contains_bool_bool.calls k A2 c2 (mp (okV im) 0 l) false _ w2 h1 h2 hk
    have HL := hok.1
    have HLI : ((l.length : Int) != (im.length : Int)) = false := by simp [hl]
    have HLE : ((l.length : Int) == (im.length : Int)) = true := by simp [hl]
    have HLD : decide ((l.length : Int) = (im.length : Int)) = true := by simp [hl]
    clear hr hr1 hok hs hk hlen hl
    generalize mp (okV im) 0 l = bs at heach hcon
    cases hq : bs.any (fun b => !b) with
    | true =>
      rw [hq] at hcon
      rw [if_pos rfl]
      go_enter Tryz.func25, Tryz.ntmps25
      go_wp2_with (first | (go_at_call 54; refine heach.mono ?_; rintro e w1 ⟨v, rfl, h1, h2⟩; obtain ⟨A2, c2, rfl, hc2, hC2⟩ := Kd.R_reads h1; have n1 := Aside0.mk hC2; have n2 := Aside0.mk h2; clear h1 h2 hC2) | (go_at_call 57; refine (hcon _ _ _ n1.out hc2).mono ?_; rintro e w2 ⟨rfl, n, rfl⟩))
      go_ret
      exact ⟨rfl, (below_alloc (Below.refl _ _) _).trans (pw_below_drewN (n2.out.mono (by simp)) _)⟩
    | false =>
      rw [hq] at hcon
      rw [if_neg (by simp)]
      go_enter Tryz.func25, Tryz.ntmps25
      go_wp2_with (first | (go_at_call 54; refine heach.mono ?_; rintro e w1 ⟨v, rfl, h1, h2⟩; obtain ⟨A2, c2, rfl, hc2, hC2⟩ := Kd.R_reads h1; have n1 := Aside0.mk hC2; have n2 := Aside0.mk h2; clear h1 h2 hC2) | (go_at_call 57; refine (hcon _ _ _ n1.out hc2).mono ?_; rintro e w2 ⟨rfl, n, rfl⟩))
      go_ret
      exact ⟨rfl, (below_alloc (Below.refl _ _) _).trans (pw_below_drewN (n2.out.mono (by simp)) _)⟩
  · rw [if_neg hl]
    have hl2 : ¬ ((l.length : Int) = (im.length : Int)) := by omega
    have HLI : ((l.length : Int) != (im.length : Int)) = true := by simpa using hl2
    have HLD : decide ((l.length : Int) = (im.length : Int)) = false := by simpa using hl2
    go_enter Tryz.func25, Tryz.ntmps25
    go_wp2
    go_ret
    exact ⟨rfl, below_alloc (Below.refl _ _) _⟩
theorem canon_okL (p : Int → Bool) (n : Nat) (hn : n ≤ 4096) : okL (canon p n) := by
  have hlen : ∀ m, (canon p m).length ≤ m := by
    intro m
    induction m with
    | zero => exact Nat.le_refl _
    | succ m ih =>
      unfold canon
      split
      · have := bump_len (canon p m) m; omega
      · omega
  refine ⟨fun x hx => ?_, by have := hlen n; omega⟩
  obtain ⟨i, hi, rfl⟩ := List.getElem_of_mem hx
  have h1 := canon_elem p n i hi
  rw [List.getD_eq_getElem?_getD, List.getElem?_eq_getElem hi] at h1
  simp only [Option.getD_some] at h1
  have hpos : 0 < ((canon p n)[i]).f1 := by
    have pos : ∀ (l : List XE) (lo : Int), Canon lo l → ∀ x ∈ l, 0 < x.f1 ∧ lo ≤ x.f0 := by
      intro l
      induction l with
      | nil => intro _ _ x hx; cases hx
      | cons y r ih =>
        intro lo h x hx
        rcases List.mem_cons.1 hx with rfl | hx
        · exact ⟨h.2.1, h.1⟩
        · have := ih _ h.2.2 x hx
          have h0 := h.1; have h1 := h.2.1
          exact ⟨this.1, by omega⟩
    exact (pos _ _ (canon_spec p n).1 _ hx).1
  have h3 := ((canon_spec p n).2.1 ((canon p n)[i]).f0).1 ⟨_, hx, by unfold hasX; omega⟩
  unfold okX isI
  omega
def needF (l : List (List XE)) (v : Nat) (x : List XE) : List XE := canon (fun i => inL x i && inL (l.getD v []) i) 4096
def neededX (a b : Img) (l : List (List XE)) : List (List XE) × Int := if pairX a b = 0 then (if fitsX a l = 0 then (mp (needF l) 0 (difL a b), 0) else ([], fitsX a l)) else ([], pairX a b)
theorem resync_Needed_1.calls (i : Nat) (x : List XE) (A' : Option Addr) (c' : Nat) (W : World) (Bi : Nat) (AI : Option Addr) (cI : Nat) (l : List (List XE))
    (hb : W.cell? ⟨Bi, 0, none⟩ = some (.slice AI l.length cI)) (hl : Kd.C (Kd.slice 61 kXE) W AI l.length l) (hi : i < l.length) (hok : okLs l)
    (hx : Kd.C kXE W A' x.length x) (hc : x.length ≤ c') (hokx : okL x) :
    Calls Tryz.prog 44 #[.int .i64 i, .slice A' x.length c', .pointer (some ⟨Bi, 0, none⟩)] W (RetR kXE 61 (needF l i x) W) := by
  have hmax := Kd.C_max hl
  obtain ⟨ad, AV, cV, rfl, hcell, hcv, hrow⟩ := C_at_row hl i hi
  have hoky : okL (l.getD i []) := hok.2 _ (by rw [List.getD_eq_getElem?_getD, List.getElem?_eq_getElem hi]; exact List.getElem_mem hi)
  have hcall := extent_Intersect.calls A' c' x AV cV (l.getD i []) _ W hx hc hrow hcv (by unfold extent_Intersect.f; rw [if_pos ⟨hokx, hoky⟩])
  have t0 : (i : Int) < (l.length : Int) := by omega
  have hneed : needF l i x = canon (fun j => inL x j && inL (l.getD i []) j) 4096 := rfl
  rw [hneed]
  clear hrow hx hl hok hoky hokx hneed
  generalize canon (fun j => inL x j && inL (l.getD i []) j) 4096 = r at hcall
  generalize l.getD i [] = y at hcell hcall
  go_enter Tryz.func44, Tryz.ntmps44
  go_wp2_with (go_at_call 45; refine hcall.mono ?_; rintro e w1 ⟨v, rfl, h1, h2⟩; have n1 := Aside0.mk h1; have n2 := Aside0.mk h2; clear h1 h2)
  go_ret
  exact ⟨v, rfl, n1.out, n2.out⟩
def sumI : List Int → Int
  | [] => 0
  | x :: r => x + sumI r
def costX (l : List (List XE)) : Int := sumI (mp (fun _ x => countp (inL x) 4096) 0 l)
theorem resync_Cost_1.calls (i : Nat) (x : List XE) (A' : Option Addr) (c' : Nat) (W : World) (hx : Kd.C kXE W A' x.length x) (hc : x.length ≤ c') (hok : okL x) :
    Calls Tryz.prog 50 #[.int .i64 i, .slice A' x.length c'] W (Ret (.int .i64 (countp (inL x) 4096)) W) := by
  have hcall := extent_Count.calls A' c' x _ W hx hc (by unfold extent_Count.f; rw [if_pos hok])
  clear hx hok
  generalize countp (inL x) 4096 = r at hcall
  go_enter Tryz.func50, Tryz.ntmps50
  go_wp2_with (go_at_call 51; refine hcall.mono ?_; rintro e w1 ⟨rfl, h1⟩)
  go_ret
  exact ⟨rfl, h1⟩
theorem sumI_take (cs : List Int) (hb : ∀ x ∈ cs, 0 ≤ x ∧ x ≤ 4096) : ∀ k, 0 ≤ sumI (cs.take k) ∧ sumI (cs.take k) ≤ 4096 * cs.length := by
  induction cs with
  | nil => intro k; simp [sumI]
  | cons x r ih =>
    intro k
    have h0 := hb x (List.mem_cons_self ..)
    have ih' := ih (fun y hy => hb y (List.mem_cons_of_mem _ hy))
    cases k with
    | zero => simp only [List.take_zero, sumI, List.length_cons]; omega
    | succ k => have := ih' k; simp only [List.take_succ_cons, sumI, List.length_cons]; omega
theorem sumI_snoc : ∀ (l : List Int) (x : Int), sumI (l ++ [x]) = sumI l + x
  | [], x => by simp [sumI]
  | y :: r, x => by simp only [List.cons_append, sumI, sumI_snoc r x]; omega
theorem mp_mem {α β : Type} (f : Nat → α → β) : ∀ (l : List α) (k : Nat) (y : β), y ∈ mp f k l → ∃ i x, y = f i x
  | [], _, _, h => by cases h
  | x :: r, k, y, h => by
    rcases List.mem_cons.1 h with rfl | h
    · exact ⟨k, x, rfl⟩
    · exact mp_mem f r (k + 1) y h
def resync_Cost.f (l0 : List (List XE)) : Option Int := if okLs l0 then some (costX l0) else none
theorem resync_Cost.calls (A0 : Option Addr) (c0 : Nat) (l0 : List (List XE)) (r : Int) (w : World) (hr0 : Kd.C (Kd.slice 61 kXE) w A0 l0.length l0) (hc0 : l0.length ≤ c0) (h : resync_Cost.f l0 = some r) :
    Calls Tryz.prog 23 #[.slice A0 l0.length c0] w fun e w' => e = .returned (.int .i64 r) ∧ Below w.heap.size w w' := by
  unfold resync_Cost.f at h
  by_cases hnk : ¬ okLs l0
  · rw [if_neg hnk] at h; cases h
  have hok := Decidable.not_not.1 hnk
  rw [if_pos hok] at h
  clear hnk
  cases h
  have heach := each_int.calls 50 #[] (fun _ x => countp (inL x) 4096) A0 c0 l0 w (enters_of Tryz.func50 (by kernel_rfl) rfl) hr0 hc0 hok.1
    (fun i x A' c' W hW hi hx hrow hc' => resync_Cost_1.calls i x A' c' W hrow hc' (by subst hx; exact hok.2 _ (by rw [List.getD_eq_getElem?_getD, List.getElem?_eq_getElem hi]; exact List.getElem_mem hi)))
  have hb := Aside0.mk (sumI_take (mp (fun _ x => countp (inL x) 4096) 0 l0) (fun y hy => by obtain ⟨i, x, rfl⟩ := mp_mem _ _ _ _ hy; have := countp_le (inL x) 4096; exact ⟨this.1, by have := this.2; omega⟩))
  have hlen := mp_len (fun _ x => countp (inL x) 4096) 0 l0
  have hl1 := hok.1
  unfold costX
  clear hr0 hok
  generalize mp (fun _ x => countp (inL x) 4096) 0 l0 = cs at heach hb hlen
  go_enter Tryz.func23, Tryz.ntmps23
  go_wp2_with (go_at_call 49; refine heach.mono ?_; rintro e w1 ⟨v, rfl, h1, h2⟩; obtain ⟨A1, c1, rfl, hc1, hC1⟩ := Kd.R_reads h1; have n1 := Aside0.mk hC1; have n2 := Aside0.mk h2; have hm := Kd.C_max hC1; clear h1 h2 hC1)
  go_loopg [3, 9] cs.length (fun gg s3 s9 wr => ∃ kk : Nat, kk ≤ cs.length ∧ cs.length - kk ≤ gg ∧ s9 = .int .i64 kk ∧ s3 = .int .i64 (sumI (cs.take kk)) ∧ Aside0 (Below w1.heap.size w1 wr))
  case atStart => exact ⟨0, Nat.zero_le _, by omega, rfl, rfl, ⟨Below.refl _ _⟩⟩
  case round =>
    obtain ⟨kk, hkk, hg, rfl, rfl, BW⟩ := hrel
    by_cases hlt : kk < cs.length
    · obtain ⟨ad, rfl, hc0'⟩ := C_at_int (C_step n1.out BW.out) kk hlt
      have hs1 := hb.out kk
      have hs2 := hb.out (kk + 1)
      have hsn : sumI (cs.take (kk + 1)) = sumI (cs.take kk) + cs.getD kk 0 := by rw [take_snoc cs 0 kk hlt, sumI_snoc]
      rw [hsn] at hs2
      obtain ⟨hs3, hs4⟩ := hs1
      obtain ⟨hs5, hs6⟩ := hs2
      have hw0 : -9223372036854775808 ≤ sumI (cs.take kk) + cs.getD kk 0 := by omega
      have hw2 : sumI (cs.take kk) + cs.getD kk 0 ≤ 9223372036854775807 := by omega
      replace hsn := Aside0.mk hsn
      clear hs3 hs4 hs5 hs6
      generalize cs.getD kk 0 = x at hc0' hw0 hw2 hsn
      generalize sumI (cs.take kk) = s at hw0 hw2 hsn
      go_wp2
      go_roundg (cs.length - (kk + 1))
      case measure => omega
      case rel => exact ⟨kk + 1, by omega, by omega, by go_num, by rw [hsn.out], BW⟩
    · have hk : kk = cs.length := by omega
      subst hk
      go_wp2
      go_ret
      exact ⟨by rw [List.take_length]; rfl, n2.out.trans (BW.out.mono n2.out.size)⟩
end Go.Proofs.YtdplnbmioioniaaGreat.Pq
end
section
namespace Go.Proofs.YtdplnbmioioniaaGreat.Pq
open Go.RowKit Go.Shelf Go.Proofs.YtdplnbmioioniaaGreatW.PrintWords Go.Proofs.YtdplnbmioioniaaGreatW.PrintLast Go.Proofs.YtdplnbmioioniaaGreatW.PrintMore
set_option linter.unusedVariables false
set_option linter.unusedSimpArgs false
set_option maxHeartbeats 2000000
set_option maxRecDepth 100000
theorem mp_getD {α β : Type} (f : Nat → α → β) (z : α) (z' : β) : ∀ (l : List α) (k i : Nat), i < l.length → (mp f k l).getD i z' = f (k + i) (l.getD i z)
  | [], _, _, h => by simp at h
  | x :: r, k, 0, h => rfl
  | x :: r, k, i + 1, h => by
    have := mp_getD f z z' r (k + 1) i (by simpa using h)
    simp only [mp, List.getD_cons_succ] at this ⊢
    rw [this]; congr 1; omega
theorem pair_sizes {a b : Img} (h : pairX a b = 0) : sizesErr (lens a) = 0 ∧ lens a = lens b := by
  unfold pairX at h
  split at h
  · rename_i hs
    split at h
    · split at h
      · rename_i hl; exact ⟨hs, hl⟩
      · cases h
    · rename_i hs2; exact absurd h hs2
  · rename_i hs; exact absurd h hs
theorem fits_len {im : Img} {l : List (List XE)} (h : fitsX im l = 0) : l.length = im.length := by
  unfold fitsX at h
  split at h
  · assumption
  · cases h
theorem difL_len (a b : Img) : (difL a b).length = a.length := mp_len _ _ _
theorem difL_ok {a b : Img} (hs : sizesErr (lens a) = 0) (i : Nat) (hi : i < a.length) : okL ((difL a b).getD i []) := by
  unfold difL
  rw [mp_getD _ [] [] a 0 i hi]
  exact canon_okL _ _ (sizes_le hs i hi)
def resync_Needed.f (l0 l1 : List (List SS)) (l2 : List (List XE)) : Option (List (List XE) × Int) := if l0.length ≤ 1048576 ∧ l1.length ≤ 1048576 ∧ okLs l2 then some (neededX l0 l1 l2) else none
theorem resync_Needed.calls (A0 : Option Addr) (c0 : Nat) (l0 : List (List SS)) (A1 : Option Addr) (c1 : Nat) (l1 : List (List SS)) (A2 : Option Addr) (c2 : Nat) (l2 : List (List XE)) (r1 : List (List XE)) (r2 : Int) (w : World) (hr0 : Kd.C (Kd.slice 59 kSS) w A0 l0.length l0) (hc0 : l0.length ≤ c0) (hr1 : Kd.C (Kd.slice 59 kSS) w A1 l1.length l1) (hc1 : l1.length ≤ c1) (hr2 : Kd.C (Kd.slice 61 kXE) w A2 l2.length l2) (hc2 : l2.length ≤ c2) (h : resync_Needed.f l0 l1 l2 = some (r1, r2)) :
    Calls Tryz.prog 20 #[.slice A0 l0.length c0, .slice A1 l1.length c1, .slice A2 l2.length c2] w fun e w' => ∃ v0_ : Value, e = .returned (.tuple #[v0_, .int .i64 r2]) ∧ Kd.S (Kd.slice 61 kXE) 57 w' w.heap.size (fun _ => True) v0_ r1 ∧ Below w.heap.size w w' := by
  unfold resync_Needed.f at h
  by_cases hnk : ¬ (l0.length ≤ 1048576 ∧ l1.length ≤ 1048576 ∧ okLs l2)
  · rw [if_neg hnk] at h; cases h
  have hok := Decidable.not_not.1 hnk
  rw [if_pos hok] at h
  clear hnk
  simp only [Option.some.injEq] at h
  obtain ⟨k, hk⟩ := (ev_differ l0 l1 hok.1 hok.2.1).rounds
  have hd := image_Differ.calls k A0 c0 l0 A1 c1 l1 (differX l0 l1).1 (differX l0 l1).2 (w.alloc (.cells #[.slice A2 l2.length c2] 24)) (Kd.C_alloc hr0 _) hc0 (Kd.C_alloc hr1 _) hc1 hk
  clear hk
  have HR0 := Aside0.mk hr0
  have HR2 := Aside0.mk hr2
  have HOK := Aside0.mk hok.2.2
  clear hr0 hr1 hr2 hok
  unfold differX at hd
  unfold neededX at h
  by_cases hp : pairX l0 l1 = 0
  · obtain ⟨hs, hl⟩ := pair_sizes hp
    rw [if_pos hp] at hd h
    dsimp only at hd
    have HS := Aside0.mk hs
    have HDL := Aside0.mk (difL_len l0 l1)
    have HDO := Aside0.mk (fun i hi => difL_ok (b := l1) hs i hi)
    have hfits := fun (W : World) (hW : Below (w.alloc (.cells #[.slice A2 l2.length c2] 24)).heap.size (w.alloc (.cells #[.slice A2 l2.length c2] 24)) W) => resync_fits.calls0 A0 c0 l0 A2 c2 l2 W (C_step (Kd.C_alloc HR0.out _) hW) hc0 (C_step (Kd.C_alloc HR2.out _) hW) hc2 (fun i hi => sizes_le hs i hi) HOK.out
    clear hs hl hp
    by_cases hf : fitsX l0 l2 = 0
    · rw [if_pos hf] at h
      rw [hf] at hfits
      have HFL := Aside0.mk (fits_len hf)
      clear hf
      cases h
      have heach := fun (W : World) (A1' : Option Addr) (c1' : Nat) (hW : Below (w.alloc (.cells #[.slice A2 l2.length c2] 24)).heap.size (w.alloc (.cells #[.slice A2 l2.length c2] 24)) W) (hC : Kd.C (Kd.slice 61 kXE) W A1' (difL l0 l1).length (difL l0 l1)) (hc : (difL l0 l1).length ≤ c1') =>
        each_ext.calls 44 #[.pointer (some ⟨w.heap.size, 0, none⟩)] (needF l2) A1' c1' (difL l0 l1) W (enters_of Tryz.func44 (by kernel_rfl) rfl) hC hc (by have := HDL.out; have := HFL.out; have := HOK.out.1; omega)
          (fun i x A' c' W2 hW2 hi hx hrow hc' => resync_Needed_1.calls i x A' c' W2 w.heap.size A2 c2 l2 (((hW.trans (hW2.mono hW.size)).cell (p := ⟨w.heap.size, 0, none⟩) (by simp)).trans (by simp)) (C_step (Kd.C_alloc HR2.out _) (hW.trans (hW2.mono hW.size))) (by have := HDL.out; have := HFL.out; omega) HOK.out hrow hc' (by subst hx; exact HDO.out i (by have := HDL.out; omega)))
      generalize difL l0 l1 = d at hd heach HDL HDO
      go_enter Tryz.func20, Tryz.ntmps20
      go_wp2_with (first | (go_at_call 14; refine hd.mono ?_; rintro e w1 ⟨v, rfl, h1, h2⟩; obtain ⟨Ad, cd, rfl, hcd, hCd⟩ := Kd.S_reads h1; have n1 := Aside0.mk hCd; have hbx : w1.cell? ⟨w.heap.size, 0, none⟩ = some (.slice A2 l2.length c2) := (h2.cell (p := ⟨w.heap.size, 0, none⟩) (by simp)).trans (by simp); have n2 := Aside0.mk h2; clear h1 h2 hCd) | (go_at_call 25; refine (hfits _ n2.out).mono ?_; rintro e w2 ⟨rfl, h3⟩; have n3 := Aside0.mk h3; clear h3) | (go_at_call 43; refine (heach _ _ _ (n2.out.trans (n3.out.mono n2.out.size)) (C_step n1.out n3.out) hcd).mono ?_; rintro e w3 ⟨v, rfl, h4, h5⟩; have n4 := Aside0.mk h4; have n5 := Aside0.mk h5; clear h4 h5))
      go_ret2
      exact ⟨_, rfl, Kd.S_lower n4.out (by have := n2.out.size; have := n3.out.size; simp at *; omega), ((below_alloc (Below.refl _ _) _).trans (n2.out.mono (by simp))).trans ((n3.out.mono (by have := n2.out.size; simp at *; omega)).trans (n5.out.mono (by have := n2.out.size; have := n3.out.size; simp at *; omega)))⟩
    · rw [if_neg hf] at h
      have q1 : (fitsX l0 l2 == 0) = false := by simpa using hf
      have q2 : (fitsX l0 l2 != 0) = true := by simpa using hf
      have q3 : decide (fitsX l0 l2 = 0) = false := by simpa using hf
      cases h
      generalize fitsX l0 l2 = fx at hfits q1 q2 q3
      clear hf
      generalize difL l0 l1 = d at hd HDL HDO
      go_enter Tryz.func20, Tryz.ntmps20
      go_wp2_with (first | (go_at_call 14; refine hd.mono ?_; rintro e w1 ⟨v, rfl, h1, h2⟩; obtain ⟨Ad, cd, rfl, hcd, hCd⟩ := Kd.S_reads h1; have hbx : w1.cell? ⟨w.heap.size, 0, none⟩ = some (.slice A2 l2.length c2) := (h2.cell (p := ⟨w.heap.size, 0, none⟩) (by simp)).trans (by simp); have n2 := Aside0.mk h2; clear h1 h2 hCd) | (go_at_call 25; refine (hfits _ n2.out).mono ?_; rintro e w2 ⟨rfl, h3⟩; have n3 := Aside0.mk h3; clear h3))
      go_ret2
      exact ⟨_, rfl, Kd.S_nil _ _ _ _ _, ((below_alloc (Below.refl _ _) _).trans (n2.out.mono (by simp))).trans (n3.out.mono (by have := n2.out.size; simp at *; omega))⟩
  · rw [if_neg hp] at hd h
    dsimp only at hd
    cases h
    have q1 : (pairX l0 l1 == 0) = false := by simpa using hp
    have q2 : (pairX l0 l1 != 0) = true := by simpa using hp
    have q3 : decide (pairX l0 l1 = 0) = false := by simpa using hp
    generalize pairX l0 l1 = px at hd q1 q2 q3
    clear hp
    go_enter Tryz.func20, Tryz.ntmps20
    go_wp2_with (go_at_call 14; refine hd.mono ?_; rintro e w1 ⟨v, rfl, h1, h2⟩; obtain ⟨Ad, cd, rfl, hcd, hCd⟩ := Kd.S_reads h1; have n2 := Aside0.mk h2; clear h1 h2 hCd)
    go_ret2
    exact ⟨_, rfl, Kd.S_nil _ _ _ _ _, (below_alloc (Below.refl _ _) _).trans (n2.out.mono (by simp))⟩
end Go.Proofs.YtdplnbmioioniaaGreat.Pq
end
section
namespace Go.Proofs.YtdplnbmioioniaaGreat.Pq
open Go.RowKit Go.Shelf Go.Proofs.YtdplnbmioioniaaGreatW.PrintWords Go.Proofs.YtdplnbmioioniaaGreatW.PrintLast Go.Proofs.YtdplnbmioioniaaGreatW.PrintMore
set_option linter.unusedVariables false
set_option linter.unusedSimpArgs false
set_option maxHeartbeats 2000000
set_option maxRecDepth 100000
def eqX (x y : XE) : Bool := x.f0 == y.f0 && x.f1 == y.f1
def eqXs : List XE → List XE → Bool
  | [], [] => true
  | x :: r, y :: t => eqX x y && eqXs r t
  | _, _ => false
theorem eqXs_len : ∀ (l m : List XE), l.length ≠ m.length → eqXs l m = false
  | [], [], h => absurd rfl h
  | [], _ :: _, _ => rfl
  | _ :: _, [], _ => rfl
  | x :: r, y :: t, h => by rw [eqXs, eqXs_len r t (fun e => h (by simp [e])), Bool.and_false]
theorem ev_eqext_loop (l m : List XE) (hl : l.length ≤ 1048576) (hm : m.length = l.length) : ∀ (n j : Nat), l.length - j = n → j ≤ l.length → Ev (fun k => api_Extent.l0 k l m (l.length : Int) (j : Int)) (eqXs (l.drop j) (m.drop j))
  | 0, j, hn, hj => by
    rw [List.drop_eq_nil_of_le (by omega), List.drop_eq_nil_of_le (by omega)]
    exact Ev.step (f := fun _ => some true) (fun k => by rw [api_Extent.l0, if_neg (by omega)]) (Ev.now true)
  | n + 1, j, hn, hj => by
    have h1 : j < l.length := by omega
    have h2 : j < m.length := by omega
    have hrd : rd_T61 l (j : Int) = l[j] := by unfold rd_T61; rw [Int.toNat_natCast, List.getD_eq_getElem?_getD, List.getElem?_eq_getElem h1]; rfl
    have hrd2 : rd_T61 m (j : Int) = m[j] := by unfold rd_T61; rw [Int.toNat_natCast, List.getD_eq_getElem?_getD, List.getElem?_eq_getElem h2]; rfl
    have ih := ev_eqext_loop l m hl hm n (j + 1) (by omega) (by omega)
    have hunf : ∀ k, api_Extent.l0 (k + 1) l m (l.length : Int) (j : Int) = (if eqX l[j] m[j] = true then api_Extent.l0 k l m (l.length : Int) ((j + 1 : Nat) : Int) else some false) := fun k => by
      rw [api_Extent.l0, hrd, hrd2, if_pos (by omega), if_pos (by omega), if_pos (by omega), if_pos (by omega), w64 (n := (j : Int) + 1) (by omega) (by omega)]
      unfold eqX
      cases (l[j].f0 == m[j].f0) <;> cases (l[j].f1 == m[j].f1) <;> rfl
    rw [List.drop_eq_getElem_cons h1, List.drop_eq_getElem_cons h2, eqXs]
    cases e : eqX l[j] m[j] with
    | true => exact Ev.step (fun k => by rw [hunf, if_pos e]) ih
    | false => exact Ev.step (f := fun _ => some false) (fun k => by rw [hunf, e]; rfl) (Ev.now false)
theorem ev_eqext (l m : List XE) (hl : l.length ≤ 1048576) : Ev (fun k => api_Extent.f k l m) (eqXs l m) := by
  by_cases h : (l.length : Int) = (m.length : Int)
  · have := ev_eqext_loop l m hl (by omega) l.length 0 (by omega) (by omega)
    exact Ev.congr (fun k => by unfold api_Extent.f; rw [if_pos h]; rfl) this
  · rw [eqXs_len l m (fun e => h (by rw [e]))]
    exact Ev.congr (f := fun _ => some false) (fun k => by unfold api_Extent.f; rw [if_neg h]) (Ev.now false)
theorem resync_Exact_1.calls (x y : List XE) (A B : Option Addr) (ca cb : Nat) (W : World) (hx : Kd.C kXE W A x.length x) (hcx : x.length ≤ ca) (hy : Kd.C kXE W B y.length y) (hcy : y.length ≤ cb) (hl : x.length ≤ 1048576) :
    Calls Tryz.prog 47 #[.slice A x.length ca, .slice B y.length cb] W (Ret (.bool (eqXs x y)) W) := by
  obtain ⟨k, hk⟩ := (ev_eqext x y hl).rounds
  have hcall := api_Extent.calls k A ca x B cb y _ W hx hcx hy hcy hk
  clear hx hy hk
  generalize eqXs x y = r at hcall
  go_enter Tryz.func47, Tryz.ntmps47
  go_wp2_with (go_at_call 48; refine hcall.mono ?_; rintro e w1 ⟨rfl, n, rfl⟩)
  go_ret
  exact ⟨rfl, pw_below_drewN (Below.refl _ _) _⟩
def eqLs : List (List XE) → List (List XE) → Bool
  | [], [] => true
  | x :: r, y :: t => eqXs x y && eqLs r t
  | _, _ => false
theorem eqLs_len : ∀ (l m : List (List XE)), l.length ≠ m.length → eqLs l m = false
  | [], [], h => absurd rfl h
  | [], _ :: _, _ => rfl
  | _ :: _, [], _ => rfl
  | x :: r, y :: t, h => by rw [eqLs, eqLs_len r t (fun e => h (by simp [e])), Bool.and_false]
theorem eqLs_drop (l m : List (List XE)) (j : Nat) (h1 : j < l.length) (h2 : j < m.length) : eqLs (l.drop j) (m.drop j) = (eqXs (l.getD j []) (m.getD j []) && eqLs (l.drop (j + 1)) (m.drop (j + 1))) := by
  rw [List.drop_eq_getElem_cons h1, List.drop_eq_getElem_cons h2, eqLs, List.getD_eq_getElem?_getD, List.getD_eq_getElem?_getD, List.getElem?_eq_getElem h1, List.getElem?_eq_getElem h2]; rfl
theorem equalFunc.calls (A B : Option Addr) (ca cb : Nat) (xs ys : List (List XE)) (w : World) (hx : Kd.C (Kd.slice 61 kXE) w A xs.length xs) (hcx : xs.length ≤ ca) (hy : Kd.C (Kd.slice 61 kXE) w B ys.length ys) (hcy : ys.length ≤ cb) (hl : ∀ i, i < xs.length → (xs.getD i []).length ≤ 1048576) (hn : xs.length ≤ 1048576) :
    Calls Tryz.prog 46 #[.slice A xs.length ca, .slice B ys.length cb, .func (.func 47) #[] #[]] w (Ret (.bool (eqLs xs ys)) w) := by
  have eg := enters_of Tryz.func47 (by kernel_rfl) rfl
  by_cases hlen : xs.length = ys.length
  · have q1 : ((xs.length : Int) != (ys.length : Int)) = false := by simp [hlen]
    have q2 : ((xs.length : Int) == (ys.length : Int)) = true := by simp [hlen]
    have q3 : decide ((xs.length : Int) = (ys.length : Int)) = true := by simp [hlen]
    have HLEN := Aside0.mk hlen
    clear hlen
    go_enter Tryz.func46, Tryz.ntmps46
    go_wp2
    go_loopg [17] xs.length (fun gg s17 wr => ∃ kk : Nat, kk ≤ xs.length ∧ xs.length - kk ≤ gg ∧ s17 = .int .i64 kk ∧ Aside0 (Below w.heap.size w wr) ∧ Aside0 (eqLs (xs.drop kk) (ys.drop kk) = eqLs xs ys))
    case atStart => exact ⟨0, Nat.zero_le _, by omega, rfl, ⟨Below.refl _ w⟩, ⟨rfl⟩⟩
    case round =>
      obtain ⟨kk, hkk, hg, rfl, BW, HE⟩ := hrel
      by_cases hlt : kk < xs.length
      · have hlt2 : kk < ys.length := by have := HLEN.out; omega
        obtain ⟨ad, A1, c1, rfl, hcell0, hc1, hrow1⟩ := C_at_row hx kk hlt
        obtain ⟨bd, B1, d1, rfl, hcell1, hd1, hrow2⟩ := C_at_row hy kk hlt2
        have hca := pw_cell_below BW.out hcell0
        have hcb' := pw_cell_below BW.out hcell1
        have hcall := resync_Exact_1.calls (xs.getD kk []) (ys.getD kk []) A1 B1 c1 d1 wr (C_step hrow1 BW.out) hc1 (C_step hrow2 BW.out) hd1 (hl kk hlt)
        have HE' := Aside0.mk ((eqLs_drop xs ys kk hlt hlt2).symm.trans HE.out)
        have t1 : (kk : Int) < (xs.length : Int) := by omega
        have t2 : (kk : Int) < (ys.length : Int) := by omega
        clear hcell0 hcell1 hrow1 hrow2 HE hx hy hl
        generalize xs.getD kk [] = x at hca hcall HE' hc1
        generalize ys.getD kk [] = y at hcb' hcall HE' hd1
        cases hq : eqXs x y with
        | true =>
          rw [hq] at hcall
          go_wp2_with (go_at_call 47; refine hcall.mono ?_; rintro e w1 ⟨rfl, h1⟩; have n1 := Aside0.mk h1; clear h1)
          go_roundg (xs.length - (kk + 1))
          case measure => omega
          case rel => exact ⟨kk + 1, by omega, by omega, by go_num, ⟨below_then BW.out BW.out.size n1.out⟩, ⟨by have h := HE'.out; rw [hq, Bool.true_and] at h; exact h⟩⟩
        | false =>
          rw [hq] at hcall
          go_wp2_with (go_at_call 47; refine hcall.mono ?_; rintro e w1 ⟨rfl, h1⟩; have n1 := Aside0.mk h1; clear h1)
          go_ret
          exact ⟨by rw [← HE'.out, hq]; rfl, below_then BW.out BW.out.size n1.out⟩
      · have hk : kk = xs.length := by omega
        have he : eqLs xs ys = true := by have h := HE.out; rw [hk, List.drop_length, HLEN.out, List.drop_length] at h; exact h.symm
        clear hx hy hl
        have HQ := Aside0.mk he
        clear he
        subst hk
        go_wp2
        go_ret
        exact ⟨by rw [HQ.out]; rfl, BW.out⟩
  · rw [eqLs_len xs ys hlen]
    have hl2 : ¬ ((xs.length : Int) = (ys.length : Int)) := by omega
    have q1 : ((xs.length : Int) != (ys.length : Int)) = true := by simpa using hl2
    have q3 : decide ((xs.length : Int) = (ys.length : Int)) = false := by simpa using hl2
    go_enter Tryz.func46, Tryz.ntmps46
    go_wp2
    go_ret
    exact ⟨rfl, Below.refl _ _⟩
def exactX (a b : Img) (l : List (List XE)) : Bool × Int := if (neededX a b l).2 = 0 then (eqLs (difL a b) l, 0) else (false, (neededX a b l).2)
def resync_Exact.f (l0 l1 : List (List SS)) (l2 : List (List XE)) : Option (Bool × Int) := if l0.length ≤ 1048576 ∧ l1.length ≤ 1048576 ∧ okLs l2 then some (exactX l0 l1 l2) else none
theorem resync_Exact.calls (A0 : Option Addr) (c0 : Nat) (l0 : List (List SS)) (A1 : Option Addr) (c1 : Nat) (l1 : List (List SS)) (A2 : Option Addr) (c2 : Nat) (l2 : List (List XE)) (r1 : Bool) (r2 : Int) (w : World) (hr0 : Kd.C (Kd.slice 59 kSS) w A0 l0.length l0) (hc0 : l0.length ≤ c0) (hr1 : Kd.C (Kd.slice 59 kSS) w A1 l1.length l1) (hc1 : l1.length ≤ c1) (hr2 : Kd.C (Kd.slice 61 kXE) w A2 l2.length l2) (hc2 : l2.length ≤ c2) (h : resync_Exact.f l0 l1 l2 = some (r1, r2)) :
    Calls Tryz.prog 21 #[.slice A0 l0.length c0, .slice A1 l1.length c1, .slice A2 l2.length c2] w fun e w' => e = .returned (.tuple #[.bool r1, .int .i64 r2]) ∧ Below w.heap.size w w' := by
  unfold resync_Exact.f at h
  by_cases hnk : ¬ (l0.length ≤ 1048576 ∧ l1.length ≤ 1048576 ∧ okLs l2)
  · rw [if_neg hnk] at h; cases h
  have hok := Decidable.not_not.1 hnk
  rw [if_pos hok] at h
  clear hnk
  simp only [Option.some.injEq] at h
  have hneed := resync_Needed.calls A0 c0 l0 A1 c1 l1 A2 c2 l2 (neededX l0 l1 l2).1 (neededX l0 l1 l2).2 w hr0 hc0 hr1 hc1 hr2 hc2 (by unfold resync_Needed.f; rw [if_pos hok])
  unfold exactX at h
  by_cases hz : (neededX l0 l1 l2).2 = 0
  · rw [if_pos hz] at h
    rw [hz] at hneed
    have hp : pairX l0 l1 = 0 := by
      unfold neededX at hz
      split at hz
      · assumption
      · exact hz
    obtain ⟨k, hk⟩ := (ev_differ l0 l1 hok.1 hok.2.1).rounds
    obtain ⟨hs, hll⟩ := pair_sizes hp
    have hd := fun (W : World) (hW : Below w.heap.size w W) => image_Differ.calls k A0 c0 l0 A1 c1 l1 (differX l0 l1).1 (differX l0 l1).2 W (C_step hr0 hW) hc0 (C_step hr1 hW) hc1 hk
    have hdx : differX l0 l1 = (difL l0 l1, 0) := by unfold differX; rw [if_pos hp]
    rw [hdx] at hd
    dsimp only at hd
    have heq := fun (W : World) (hW : Below w.heap.size w W) (A' : Option Addr) (c' : Nat) (hC : Kd.C (Kd.slice 61 kXE) W A' (difL l0 l1).length (difL l0 l1)) (hc : (difL l0 l1).length ≤ c') =>
      equalFunc.calls A' A2 c' c2 (difL l0 l1) l2 W hC hc (C_step hr2 hW) hc2 (fun i hi => by have := (difL_ok (b := l1) hs i (by rw [difL_len] at hi; exact hi)).2; omega) (by rw [difL_len]; exact hok.1)
    cases h
    clear hk hp hs hll hdx hr0 hr1 hr2 hz hok
    generalize (neededX l0 l1 l2).1 = nd at hneed
    generalize difL l0 l1 = d at hd heq
    generalize eqLs d l2 = r at heq
    go_enter Tryz.func21, Tryz.ntmps21
    go_wp2_with (first | (go_at_call 20; refine hneed.mono ?_; rintro e w1 ⟨v, rfl, h1, h2⟩; obtain ⟨An, cn, rfl, hcn, hCn⟩ := Kd.S_reads h1; have n1 := Aside0.mk h2; clear h1 h2 hCn) | (go_at_call 14; refine (hd _ n1.out).mono ?_; rintro e w2 ⟨v, rfl, h3, h4⟩; obtain ⟨Ad, cd, rfl, hcd, hCd⟩ := Kd.S_reads h3; have n2 := Aside0.mk (n1.out.trans (h4.mono n1.out.size)); have n3 := Aside0.mk hCd; clear h3 h4 hCd) | (go_at_call 46; refine (heq _ n2.out _ _ n3.out hcd).mono ?_; rintro e w3 ⟨rfl, h5⟩; have n4 := Aside0.mk h5; clear h5))
    go_ret2
    exact ⟨rfl, n2.out.trans (n4.out.mono n2.out.size)⟩
  · rw [if_neg hz] at h
    cases h
    have q1 : ((neededX l0 l1 l2).2 == 0) = false := by simpa using hz
    have q2 : ((neededX l0 l1 l2).2 != 0) = true := by simpa using hz
    have q3 : decide ((neededX l0 l1 l2).2 = 0) = false := by simpa using hz
    clear hr0 hr1 hr2 hz hok
    generalize (neededX l0 l1 l2).1 = nd at hneed
    generalize (neededX l0 l1 l2).2 = ne at hneed q1 q2 q3
    go_enter Tryz.func21, Tryz.ntmps21
    go_wp2_with (go_at_call 20; refine hneed.mono ?_; rintro e w1 ⟨v, rfl, h1, h2⟩; obtain ⟨An, cn, rfl, hcn, hCn⟩ := Kd.S_reads h1; have n1 := Aside0.mk h2; clear h1 h2 hCn)
    go_ret2
    exact ⟨rfl, n1.out⟩
end Go.Proofs.YtdplnbmioioniaaGreat.Pq
end
section
namespace Go.Proofs.YtdplnbmioioniaaGreat.Pq
open Go.RowKit Go.Shelf Go.Proofs.YtdplnbmioioniaaGreatW.PrintWords Go.Proofs.YtdplnbmioioniaaGreatW.PrintLast Go.Proofs.YtdplnbmioioniaaGreatW.PrintMore
set_option linter.unusedVariables false
set_option linter.unusedSimpArgs false
set_option maxHeartbeats 2000000
set_option maxRecDepth 100000
def volL : Nat → List (List XE) → List (Int × XE)
  | _, [] => []
  | v, l :: r => l.map (fun e => ((v : Int), e)) ++ volL (v + 1) r
def encV (x : Int × XE) : Array Value := #[.int .i64 x.1, .agg #[.int .i64 x.2.f0, .int .i64 x.2.f1]]
theorem volL_drop (ls : List (List XE)) (k : Nat) (hk : k < ls.length) : volL k (ls.drop k) = (ls.getD k []).map (fun e => ((k : Int), e)) ++ volL (k + 1) (ls.drop (k + 1)) := by
  rw [List.drop_eq_getElem_cons hk, volL, List.getD_eq_getElem?_getD, List.getElem?_eq_getElem hk]; rfl
theorem volumes_all (Bl : Nat) (A : Option Addr) (c : Nat) (ls : List (List XE)) (n0 w : World)
    (hb : w.heap[Bl]? = some (.cells #[.slice A ls.length c] 24 (0, 0))) (hr : Kd.C (Kd.slice 61 kXE) n0 A ls.length ls) :
    SeqAll Tryz.prog 58 #[.pointer (some ⟨Bl, 0, none⟩)] encV [] [] (fun W => Below n0.heap.size n0 W) (fun l => l = volL 0 ls) ((volL 0 ls).length + 1) w := by
  intro l J W hW hJ hK hY h0
  have haC : W.cell? ⟨Bl, 0, none⟩ = some (.slice A ls.length c) := (blk_cell ((hW.block _ (blk_lt hb)).trans hb) 0).trans rfl
  have HR := Aside0.mk hr
  have HK := Aside0.mk hK
  have HY := Aside0.mk hY
  have HJ := Aside0.mk hJ
  have hmax := Kd.C_max hr
  refine callsIn_of_wp Tryz.func58 rfl trivial ?_ rfl
  simp only [Tryz.ntmps58, List.size_toArray, List.length_cons, List.length_nil, Nat.reduceAdd, Nat.reduceSub, Array.replicate_succ, Array.replicate_zero, List.push_toArray, List.append_toArray, List.nil_append, List.cons_append]
  clear hb hr hK hY hJ
  gi_wp2
  clear haC
  gi_loopw [9] (fun s9 wr => ∃ (kk : Nat) (pre : List (Int × XE)), s9 = .int .i64 kk ∧ kk ≤ ls.length ∧ Aside0 (pre ++ volL kk (ls.drop kk) = volL 0 ls) ∧ Aside0 (J pre wr))
    (fun s9 _ => ls.length - (intOf s9).toNat)
  case atStart => exact ⟨0, [], rfl, Nat.zero_le _, ⟨rfl⟩, ⟨h0⟩⟩
  case round =>
    obtain ⟨kk, pre, rfl, hkk, HE, HJ2⟩ := hrel
    by_cases hlt : kk < ls.length
    · obtain ⟨ad, A', c', rfl, hcell0, hc', hrow0⟩ := C_at_row HR.out kk hlt
      have hcell := pw_cell_below (HK.out _ _ HJ2.out) hcell0
      have HE' := Aside0.mk (show pre ++ ((ls.getD kk []).map (fun e => ((kk : Int), e)) ++ volL (kk + 1) (ls.drop (kk + 1))) = volL 0 ls by rw [← volL_drop ls kk hlt]; exact HE.out)
      have hrow := Aside0.mk hrow0
      have hmy := Kd.C_max hrow0
      clear hrow0 hcell0 HE
      generalize ls.getD kk [] = y at hcell hrow HE' hc' hmy
      obtain ⟨wo, hwo⟩ : ∃ wo : World, wo = wr := ⟨_, rfl⟩
      rw [← hwo] at HJ2 hcell ⊢
      clear hwo wr
      gi_wp2
      gi_loopw [16] (fun s16 wr => ∃ (jj : Nat) (pre2 : List (Int × XE)), s16 = .int .i64 jj ∧ jj ≤ y.length ∧ Aside0 (pre2 ++ ((y.drop jj).map (fun e => ((kk : Int), e)) ++ volL (kk + 1) (ls.drop (kk + 1))) = volL 0 ls) ∧ Aside0 (J pre2 wr))
        (fun s16 _ => y.length - (intOf s16).toNat)
      case atStart => exact ⟨0, pre, rfl, Nat.zero_le _, HE', HJ2⟩
      case round =>
        obtain ⟨jj, pre2, rfl, hjj, HE2, HJ3⟩ := hrel
        by_cases hlt2 : jj < y.length
        · obtain ⟨ad2, rfl, hc0, hc1⟩ := C_at_ext (C_step hrow.out (HK.out _ _ HJ3.out)) jj hlt2
          have HE3 := Aside0.mk (show (pre2 ++ [((kk : Int), y.getD jj z61)]) ++ ((y.drop (jj + 1)).map (fun e => ((kk : Int), e)) ++ volL (kk + 1) (ls.drop (kk + 1))) = volL 0 ls by
            rw [← HE2.out, List.drop_eq_getElem_cons hlt2, List.getD_eq_getElem?_getD, List.getElem?_eq_getElem hlt2]; simp only [Option.getD_some, List.map_cons, List.cons_append, List.append_assoc, List.nil_append])
          clear HE2
          generalize y.getD jj z61 = x at hc0 hc1 HE3
          obtain ⟨fn, tmps, assign, body, hy, hR⟩ := HY.out pre2 ((kk : Int), x) (wr.alloc (.cells #[.int .i64 x.f0, .int .i64 x.f1] 61)) (HJ.out.alloc _ HJ3.out)
            (by have h := congrArg List.length HE3.out; simp only [List.length_append, List.length_singleton] at h; omega) ⟨_, by have h := HE3.out; rw [List.append_assoc, List.singleton_append] at h; exact h⟩
          dsimp only [encV] at hy
          gi_wp2
          refine hR.mono ?_
          rintro e W3 ⟨rfl, hJ4, hk4⟩
          gi_wp2
          go_roundw
          case rel => exact ⟨jj + 1, pre2 ++ [((kk : Int), x)], by simp, by omega, HE3, ⟨hJ4⟩⟩
          case measure => simp [intOf]; omega
        · have hj : jj = y.length := by omega
          subst hj
          gi_wp2
          go_roundw
          case rel => exact ⟨kk + 1, pre2, by simp, by omega, ⟨by have h := HE2.out; rw [List.drop_length] at h; simpa using h⟩, HJ3⟩
          case measure => simp [intOf]; omega
    · have hk : kk = ls.length := by omega
      subst hk
      gi_wp2
      go_end0
      exact ⟨⟨_, rfl⟩, pre, by have h := HE.out; rw [List.drop_length] at h; simpa [volL] using h, HJ2.out⟩
end Go.Proofs.YtdplnbmioioniaaGreat.Pq
end
section
namespace Go.Proofs.YtdplnbmioioniaaGreat.Pq
open Go.RowKit Go.Shelf Go.Proofs.YtdplnbmioioniaaGreatW.PrintWords Go.Proofs.YtdplnbmioioniaaGreatW.PrintLast Go.Proofs.YtdplnbmioioniaaGreatW.PrintMore
set_option linter.unusedVariables false
set_option linter.unusedSimpArgs false
set_option maxHeartbeats 2000000
set_option maxRecDepth 100000
theorem infoSS : (Tryz.prog.info? 59).map (fun i => (i.zero, i.size, i.bytes)) = some (some (.agg #[.int .u8 0, .int .u8 0, .int .u8 0, .int .u8 0, .int .u8 0, .int .u8 0, .int .u8 0, .int .u8 0]), 8, 8) := by kernel_rfl
theorem eqNilS (w : World) (n c : Nat) : (binOp .eql 56 (.slice none n c) (.slice none 0 0)).run Tryz.prog w = .ok (.bool true) w := by kernel_rfl
theorem eqSomeS (w : World) (ad : Addr) (n c : Nat) : (binOp .eql 56 (.slice (some ad) n c) (.slice none 0 0)).run Tryz.prog w = .ok (.bool false) w := by kernel_rfl
attribute [local go_sem] eqNilS eqSomeS
theorem slices_Clone_sec.calls (A : Option Addr) (c : Nat) (xs : List SS) (w : World) (hr : Kd.C kSS w A xs.length xs) (hc : xs.length ≤ c) (hl : xs.length ≤ 1048576) :
    Calls Tryz.prog 27 #[.slice A xs.length c] w (RetR kSS 59 xs w) := by
  cases A with
  | none =>
    have hx : xs = [] := by
      cases xs with
      | nil => rfl
      | cons x r => obtain ⟨_, _, h⟩ := hr; obtain ⟨ad, h, _⟩ := h (by simp); cases h
    subst hx
    go_enter Tryz.func27, Tryz.ntmps27
    go_wp2
    go_ret
    exact ⟨_, rfl, Kd.R_nil _ _ _ _ _, Below.refl _ _⟩
  | some ad =>
    have HR := Aside0.mk hr
    clear hr
    go_enter Tryz.func27, Tryz.ntmps27
    go_wp2_with ((with_reducible refine gate_builtin (b := .append) (xs := #[.tmp 5, .tmp 6]) rfl ?_); at_builtin; refine Kd.R_append_rows kSS (Rr := kSS.K w) (w0 := w) w.heap.size rfl (.tmp 5) (.tmp 6) 56 59 (.agg #[.int .u8 0, .int .u8 0, .int .u8 0, .int .u8 0, .int .u8 0, .int .u8 0, .int .u8 0, .int .u8 0]) 8 rfl Tryz.underlying56 infoSS rfl (by decide) (by decide) (.slice (some ⟨w.heap.size, 0, none⟩) 0 0) [] xs (some ad) xs.length c (fun _ => True) (fun _ => False) rfl rfl (R_made kSS w w 59 #[] 0 (Nat.le_refl _) (by decide) rfl) (ReadsRow.imp_ HR.out (below_alloc (Below.refl _ _) _) (fun _ _ h => h)) (fun x cs h => by obtain rfl := k59_open h; exact k59_mkM _ _ _ x) (fun _ h => h.elim) (fun _ _ => trivial) (below_alloc (Below.refl _ _) _) (by simp) (by simp; omega) ?_; intro v1 w1 h1 h2 h3 h4; have n1 := Aside0.mk h1; have n2 := Aside0.mk h2; clear h1 h2 h3 h4)
    go_ret
    exact ⟨_, rfl, by simpa using n1.out, n2.out⟩
end Go.Proofs.YtdplnbmioioniaaGreat.Pq
end
section
namespace Go.Proofs.YtdplnbmioioniaaGreat.Pq
open Go.RowKit Go.Shelf Go.Proofs.YtdplnbmioioniaaGreatW.PrintWords Go.Proofs.YtdplnbmioioniaaGreatW.PrintLast Go.Proofs.YtdplnbmioioniaaGreatW.PrintMore
set_option linter.unusedVariables false
set_option linter.unusedSimpArgs false
set_option maxHeartbeats 2000000
set_option maxRecDepth 100000
theorem infoLS : (Tryz.prog.info? 56).map (fun i => (i.zero, i.size, i.bytes)) = some (some (.slice none 0 0), 1, 24) := by kernel_rfl
end Go.Proofs.YtdplnbmioioniaaGreat.Pq
end
section
namespace Go.Proofs.YtdplnbmioioniaaGreat.Pq
open Go.RowKit Go.Proofs.YtdplnbmioioniaaGreatW.PrintWords Go.Proofs.YtdplnbmioioniaaGreatW.PrintLast
set_option linter.unusedVariables false
set_option linter.unusedSimpArgs false
def isDefer : Op → Bool
  | .defer _ => true
  | _ => false
theorem op_bridge {P : Program} {Q : Exit → Act → World → Prop} {K : Act → World → Prop} {o : Oper} {a : Act} {w : World} (l n : Nat) (ho : isDefer o.op = false) (h : Oper.wp P o a w K Q) : o.wpIn (Fence.wide.inRound l) n P a w K Q := by
  refine ⟨fun _ _ => trivial, ?_⟩
  rw [Oper.semAt_eq _ _ _ (fun c hc => by rw [hc] at ho; cases ho)]
  unfold Oper.wp at h
  generalize (execOp a.eval o).run P w = r at h ⊢
  cases r with
  | ok x w' =>
    cases x with
    | value v => exact h
    | skip => exact h
    | defer d => exact h
    | enter f args => exact ⟨fun hh => by simp [Fence.wide, Fence.inRound] at hh, (callsIn_wide (n := n - 1)).2 h⟩
    | row row args => exact ⟨fun hh => by simp [Fence.wide, Fence.inRound] at hh, fun c cs _ => by obtain ⟨v, w2, hr, hs⟩ := h c cs; exact ⟨v, w2, hr, stepsIn_wide.2 hs⟩⟩
    | round => exact h.elim
    | _ => exact h.elim
  | halt x w' =>
    cases x with
    | panic v => exact h
    | _ => exact h.elim
theorem wpOp_bridge {P : Program} {ops : Array Oper} {Q : Exit → Act → World → Prop} {K : Act → World → Prop} {a : Act} {w : World} (l n i : Nat) (hQ : ¬ LetsOut Q) (hops : ∀ (i : Nat) (o : Oper), ops[i]? = some o → isDefer o.op = false) (h : wpOp P ops Q i K a w) : wpOpIn (Fence.wide.inRound l) n P ops Q i K a w := by
  unfold wpOp at h
  unfold wpOpIn
  cases hi : ops[i]? with
  | none => rw [hi] at h; exact h
  | some o =>
    rw [hi] at h
    dsimp only at h ⊢
    split
    · rename_i hw
      rw [if_pos hw] at h
      rcases h with h | ⟨_, h⟩
      · exact op_bridge l n (hops i o hi) h
      · exact absurd h hQ
    · rename_i hw
      rw [if_neg hw] at h
      exact ⟨fun _ _ => trivial, h⟩
theorem wpAny_bridge {P : Program} {ops : Array Oper} {Q : Exit → Act → World → Prop} {md : Region.Mode} (l n : Nat) (hQ : ¬ LetsOut Q) (hops : ∀ (i : Nat) (o : Oper), ops[i]? = some o → isDefer o.op = false) : ∀ (fuel : Nat) (listed : Array Bool) (a : Act) (w : World), wpAny P md ops Q fuel listed a w → wpAnyIn (Fence.wide.inRound l) n P md ops Q fuel listed a w
  | 0, _, _, _, h => h
  | fuel + 1, _, _, _, h => ⟨h.1, fun i hi => wpOp_bridge l n i hQ hops (wpOp_mono (fun a' w' h' => wpAny_bridge l n hQ hops fuel _ a' w' h') (h.2 i hi))⟩
theorem noDefer_spec {ops : Array Oper} (h : ops.toList.all (fun o => !isDefer o.op) = true) (i : Nat) (o : Oper) (hi : ops[i]? = some o) : isDefer o.op = false := by
  have hm : o ∈ ops.toList := by rw [← Array.getElem?_toList] at hi; exact List.mem_of_getElem? hi
  simpa using List.all_eq_true.1 h o hm
theorem startRound_ {P : Program} {ops : Array Oper} {Q : Exit → Act → World → Prop} {S : World → Prop} {ds : List Nat} {id n : Nat} {a : Act} {w : World} (lp nn : Nat) (l : Array Bool) (hm : P.follows .mixedOrders = true) (hn : ops.size = n) (hl : Array.replicate n false = l) (hQ : ¬ LetsOut Q) (hd : ops.toList.all (fun o => !isDefer o.op) = true) (hS : S w.drew)
    (h : S w.drew → wpAnyLast P .any ops Q S ds n l a w.drew) : (Code.region id ops true).wpIn (Fence.wide.inRound lp) nn P Q a w := by
  subst hn
  subst hl
  exact wpIn_region_any hm (wpAny_bridge lp nn hQ (noDefer_spec hd) _ _ _ _ (wpAny_of_last _ _ _ _ (h hS)))
end Go.Proofs.YtdplnbmioioniaaGreat.Pq
end
section
namespace Go.Proofs.YtdplnbmioioniaaGreat.Pq
open Go.RowKit Go.Shelf Go.Proofs.YtdplnbmioioniaaGreatW.PrintWords Go.Proofs.YtdplnbmioioniaaGreatW.PrintLast Go.Proofs.YtdplnbmioioniaaGreatW.PrintMore
set_option linter.unusedVariables false
set_option linter.unusedSimpArgs false
set_option maxHeartbeats 2000000
set_option maxRecDepth 100000
abbrev WS := S66
abbrev kWS : Kd WS := k66
def sliceX (im : Img) (p : Int × XE) : WS := ⟨p.1, p.2.f0, ((im.getD p.1.toNat []).take (p.2.f0 + p.2.f1).toNat).drop p.2.f0.toNat⟩
def writesX (im : Img) (l : List (List XE)) : List WS × Int := if sizesErr (lens im) = 0 then (if fitsX im l = 0 then ((volL 0 l).map (sliceX im), 0) else ([], fitsX im l)) else ([], sizesErr (lens im))
theorem volL_len : ∀ (ls : List (List XE)) (k : Nat), (∀ l ∈ ls, l.length ≤ 131072) → (volL k ls).length ≤ 131072 * ls.length
  | [], _, _ => by simp [volL]
  | l :: r, k, h => by
    have h1 := h l (List.mem_cons_self ..)
    have h2 := volL_len r (k + 1) (fun x hx => h x (List.mem_cons_of_mem _ hx))
    simp only [volL, List.length_append, List.length_map, List.length_cons]; omega
theorem okC_mem (n : Int) : ∀ (l : List XE) (nx : Int), okC n nx l = true → ∀ e ∈ l, 0 < e.f1 ∧ 0 ≤ e.f0 ∧ e.f0 + e.f1 ≤ n
  | [], _, _, e, h => by cases h
  | x :: r, nx, ho, e, h => by
    unfold okC at ho
    simp only [Bool.and_eq_true, decide_eq_true_eq] at ho
    rcases List.mem_cons.1 h with rfl | h
    · omega
    · exact okC_mem n r _ ho.2 e h
theorem volL_mem : ∀ (ls : List (List XE)) (k : Nat) (p : Int × XE), p ∈ volL k ls → ∃ i, p.1 = ((k + i : Nat) : Int) ∧ i < ls.length ∧ p.2 ∈ ls.getD i []
  | [], _, _, h => by cases h
  | l :: r, k, p, h => by
    rcases List.mem_append.1 h with h | h
    · obtain ⟨e, he, rfl⟩ := List.mem_map.1 h
      exact ⟨0, rfl, by simp, he⟩
    · obtain ⟨i, h1, h2, h3⟩ := volL_mem r (k + 1) p h
      exact ⟨i + 1, by rw [h1]; congr 1; omega, by simpa using h2, h3⟩
theorem fits_mem {im : Img} {l : List (List XE)} (h : fitsX im l = 0) (p : Int × XE) (hp : p ∈ volL 0 l) : 0 ≤ p.1 ∧ p.1 < im.length ∧ 0 < p.2.f1 ∧ 0 ≤ p.2.f0 ∧ p.2.f0 + p.2.f1 ≤ (im.getD p.1.toNat []).length := by
  obtain ⟨i, h1, h2, h3⟩ := volL_mem l 0 p hp
  have hlen := fits_len h
  unfold fitsX at h
  rw [if_pos hlen] at h
  split at h
  · cases h
  · rename_i hb
    have hi : okV im i (l.getD i []) = true := by
      cases hq : okV im i (l.getD i []) with
      | true => rfl
      | false =>
        refine absurd (List.any_eq_true.2 ⟨false, ?_, rfl⟩) hb
        have := mp_getD (okV im) [] true l 0 i h2
        rw [Nat.zero_add, hq] at this
        rw [← this, List.getD_eq_getElem?_getD, List.getElem?_eq_getElem (by rw [mp_len]; exact h2)]
        exact List.getElem_mem _
    have := okC_mem _ _ _ hi p.2 h3
    rw [Nat.zero_add] at h1
    rw [h1, Int.toNat_natCast]
    exact ⟨by omega, by omega, this.1, this.2.1, this.2.2⟩
theorem infoW : (Tryz.prog.info? 66).map (fun i => (i.zero, i.size, i.bytes)) = some (some (.agg #[.int .i64 0, .int .i64 0, .slice none 0 0]), 3, 40) := by kernel_rfl
theorem S_grown' {α : Type} {T : List Nat} {d : Kd α} {e base : Nat} {ok : Nat → Prop} {W W' : World} {row : Option Nat} {v : Value} {xs : List α} (h : Kd.S d e W base ok v xs) (hg : W.grownBy W' row) (hT : ∀ q, q ∈ e :: d.E → q ∉ T)
    (hr : ∀ r, row = some r → ∃ o, W.heap[r]? = some o ∧ (o.isCells = false ∨ isT T o)) : Kd.S d e W' base ok v xs := by
  obtain ⟨f, h⟩ := h
  exact ⟨f, xR_grown h hg hT hr⟩
def WrAt (im : Img) (w0 : World) (Bs : Nat) (src : Value) (Bo : Nat) (pre : List (Int × XE)) (W : World) : Prop :=
  W.heap[Bs]? = some (.cells #[src] 23 (0, 0)) ∧ ∃ v, W.heap[Bo]? = some (.cells #[v] 31 (0, 0)) ∧ Kd.S kWS 66 W w0.heap.size (fun _ => True) v (pre.map (sliceX im)) ∧ Below w0.heap.size w0 W
theorem wrAt_abides (im : Img) (w0 : World) (Bs : Nat) (src : Value) (Bo B' : Nat) (hB : w0.heap.size ≤ B') : AbL [] B' (WrAt im w0 Bs src Bo) := by
  rintro s W W' row ⟨hsrc, v, hv, hr, hb⟩ hg hrow
  have hrow' : ∀ r, row = some r → ∃ o, W.heap[r]? = some o ∧ (o.isCells = false ∨ isT [] o) := fun r e => (hrow r e).2
  exact ⟨xblk_grown hg hsrc (by simp) hrow', v, xblk_grown hg hv (by simp) hrow', S_grown' hr hg (fun q hq => by simp) hrow', hb.grown hg hb.size (fun k e => Nat.le_trans hB (hrow k e).1)⟩
theorem resync_volumes.calls (A : Option Addr) (n c : Nat) (w : World) : Calls Tryz.prog 26 #[.slice A n c] w fun e w' =>
    e = .returned (.func (.func 58) #[] #[.pointer (some ⟨w.heap.size, 0, none⟩)]) ∧ w' = w.alloc (.cells #[.slice A n c] 24) := by
  go_enter Tryz.func26, Tryz.ntmps26
  go_wp2
  go_ret
  exact ⟨by simp, rfl⟩
end Go.Proofs.YtdplnbmioioniaaGreat.Pq
end
section
namespace Go.Proofs.YtdplnbmioioniaaGreat.Pq
open Go.RowKit Go.Shelf Go.Proofs.YtdplnbmioioniaaGreatW.PrintWords Go.Proofs.YtdplnbmioioniaaGreatW.PrintLast Go.Proofs.YtdplnbmioioniaaGreatW.PrintMore
set_option linter.unusedVariables false
set_option linter.unusedSimpArgs false
set_option maxHeartbeats 4000000
set_option maxRecDepth 100000
def resync_Writes.f (l0 : List (List SS)) (l1 : List (List XE)) : Option (List WS × Int) := if l0.length ≤ 1048576 ∧ okLs l1 then some (writesX l0 l1) else none
theorem resync_Writes.calls (A0 : Option Addr) (c0 : Nat) (l0 : List (List SS)) (A1 : Option Addr) (c1 : Nat) (l1 : List (List XE)) (r1 : List WS) (r2 : Int) (w : World) (hr0 : Kd.C (Kd.slice 59 kSS) w A0 l0.length l0) (hc0 : l0.length ≤ c0) (hr1 : Kd.C (Kd.slice 61 kXE) w A1 l1.length l1) (hc1 : l1.length ≤ c1) (h : resync_Writes.f l0 l1 = some (r1, r2)) :
    Calls Tryz.prog 8 #[.slice A0 l0.length c0, .slice A1 l1.length c1] w fun e w' => ∃ v0_ : Value, e = .returned (.tuple #[v0_, .int .i64 r2]) ∧ Kd.S kWS 66 w' w.heap.size (fun _ => True) v0_ r1 ∧ Below w.heap.size w w' := by
  unfold resync_Writes.f at h
  by_cases hnk : ¬ (l0.length ≤ 1048576 ∧ okLs l1)
  · rw [if_neg hnk] at h; cases h
  have hok := Decidable.not_not.1 hnk
  rw [if_pos hok] at h
  clear hnk
  simp only [Option.some.injEq] at h
  have hchk := fun (W : World) (hW : Below w.heap.size w W) => image_Check.calls A0 c0 l0 _ W (C_step hr0 hW) hc0 (show image_Check.f l0 = some (sizesErr (lens l0)) by unfold image_Check.f; rw [if_pos hok.1])
  unfold writesX at h
  by_cases hs : sizesErr (lens l0) = 0
  · rw [if_pos hs] at h
    rw [hs] at hchk
    have hfits := fun (W : World) (hW : Below w.heap.size w W) => resync_fits.calls0 A0 c0 l0 A1 c1 l1 W (C_step hr0 hW) hc0 (C_step hr1 hW) hc1 (fun i hi => sizes_le hs i hi) hok.2
    have HSZ := Aside0.mk (sizes_le hs)
    by_cases hf : fitsX l0 l1 = 0
    · rw [if_pos hf] at h
      rw [hf] at hfits
      have HMEM := Aside0.mk (fits_mem hf)
      have HLEN := Aside0.mk (volL_len l1 0 (fun l hl => (hok.2.2 l hl).2))
      have HR0 := Aside0.mk hr0
      have HR1 := Aside0.mk hr1
      have HOK := Aside0.mk hok
      cases h
      clear hs hf hr0 hr1 hok
      refine (callsIn_wide (n := 3)).1 ?_
      refine callsIn_of_wp_marks Tryz.func8 rfl trivial ?_ rfl
      simp only [Tryz.ntmps8, List.size_toArray, List.length_cons, List.length_nil, Nat.reduceAdd, Nat.reduceSub, Array.replicate_succ, Array.replicate_zero, List.push_toArray, List.append_toArray, List.nil_append, List.cons_append]
      gi_wp2_with (first | (refine ⟨trivial, ?_⟩; gi_at_call 24; refine (callsIn_wide.2 (hchk _ (below_alloc (Below.refl _ _) _))).mono ?_; rintro e w1 ⟨rfl, h1⟩; have hbk : w1.heap[w.heap.size]? = some (.cells #[.slice A0 l0.length c0] 23 (0, 0)) := (h1.block _ (by simp)).trans (heap_alloc_new w _); have hbx : w1.cell? ⟨w.heap.size, 0, none⟩ = some (.slice A0 l0.length c0) := (blk_cell hbk 0).trans rfl; have n1 := Aside0.mk (below_then (below_alloc (Below.refl _ _) _) (by simp) h1); clear h1) | (refine ⟨trivial, ?_⟩; gi_at_call 25; refine (callsIn_wide.2 (hfits _ n1.out)).mono ?_; rintro e w2 ⟨rfl, h2⟩; have n2 := Aside0.mk (below_then n1.out n1.out.size h2); have hbk2 := (h2.block _ (blk_lt hbk)).trans hbk; clear h2) | (refine ⟨trivial, ?_⟩; gi_at_call 26; refine (callsIn_wide.2 (resync_volumes.calls _ _ _ _)).mono ?_; rintro e w3 ⟨rfl, rfl⟩))
      obtain ⟨W5, hW5⟩ : ∃ W5, ((w2.alloc (.cells #[.slice none 0 0] 31)).alloc (.cells #[.slice A1 l1.length c1] 24)) = W5 := ⟨_, rfl⟩
      have g0 : W5.heap[w2.heap.size]? = some (.cells #[.slice none 0 0] 31 (0, 0)) := by rw [← hW5]; exact (Below.heap_alloc _ _ _ (by simp)).trans (heap_alloc_new w2 _)
      have g1 : W5.heap[w2.heap.size + 1]? = some (.cells #[.slice A1 l1.length c1] 24 (0, 0)) := by
        rw [← hW5]; simpa using heap_alloc_new (w2.alloc (.cells #[.slice none 0 0] 31)) (.cells #[.slice A1 l1.length c1] 24 (0, 0))
      have gs : W5.heap[w.heap.size]? = some (.cells #[.slice A0 l0.length c0] 23 (0, 0)) := by
        rw [← hW5]; exact (Below.heap_alloc _ _ _ (by have := blk_lt hbk2; simp; omega)).trans ((Below.heap_alloc _ _ _ (blk_lt hbk2)).trans hbk2)
      have hb5 : Below w.heap.size w W5 := by rw [← hW5]; exact below_alloc (below_alloc n2.out _) _
      have hseq := volumes_all (w2.heap.size + 1) A1 c1 l1 w W5 g1 HR1.out
      have hws : w.heap.size < w2.heap.size := blk_lt hbk2
      have hW5s : W5.heap.size = w2.heap.size + 2 := by rw [← hW5]; simp
      rw [hW5]
      clear hW5
      refine rangeAll (gf := 58) (lb := _) rfl (enters_of Tryz.func58 (by kernel_rfl) rfl) (w0 := W5) hseq (Below.refl _ _) (fun _ => rfl) (WrAt l0 w w.heap.size (.slice A0 l0.length c0) w2.heap.size) (wrAt_abides l0 w _ _ _ _ hb5.size) (fun s W1 h => by obtain ⟨_, _, _, _, h⟩ := h; exact h) ⟨gs, .slice none 0 0, g0, Kd.S_nil _ _ _ _ _, hb5⟩
        (fun x a' W => ∃ q, w2.heap.size < q ∧ W.heap[q]? = some (.cells #[.int .i64 x.2.f0, .int .i64 x.2.f1] 61 (0, 0)) ∧ a' = { tmps := #[.slice A0 l0.length c0, .slice A1 l1.length c1, .pointer (some ⟨w.heap.size, 0, none⟩), undef, .slice none 0 0, .int .i64 0, .int .i64 0, .int .i64 0, .pointer (some ⟨w2.heap.size, 0, none⟩), .int .i64 x.1, .pointer (some ⟨q, 0, none⟩), .slice A0 l0.length c0, .int .i64 0, .int .i64 0, .bool false, undef, .slice A0 l0.length c0, .slice A1 l1.length c1, .int .i64 0, .int .i64 0, .bool false, undef, .slice A1 l1.length c1, .func (.func 58) #[] #[.pointer (some ⟨w2.heap.size + 1, 0, none⟩)], .int .i64 x.1, .agg #[.int .i64 x.2.f0, .int .i64 x.2.f1], undef, undef, undef, undef, undef, undef, undef, undef, undef, undef, undef, undef, undef, undef, undef, undef, undef, undef, undef, undef, undef], defers := [] }) ?_ ?_ ?_ ?_
      · rintro x a' s W W' row ⟨q, hq, hc, ha⟩ hg hrow
        exact ⟨q, hq, xblk_grown hg hc (by simp) (fun r e => (hrow r e).2), ha⟩
      · rintro l pre x W K ⟨hsrc, v, hv, hr, hb⟩ hlen _ hK
        rw [show ((#[24, 25] : Array Tmp).zip (encV x)) = #[(24, .int .i64 x.1), (25, .agg #[.int .i64 x.2.f0, .int .i64 x.2.f1])] by simp [encV]]
        simp only [List.foldl_toArray', List.foldl_cons, List.foldl_nil, List.size_toArray, List.length_cons, List.length_nil, List.setIfInBounds_toArray, List.set_cons_succ, List.set_cons_zero]
        gi_wp2_with (rw [Oper.semAt_eq _ _ _ (fun c h => by cases h)]; go_simp; try go_bits)
        refine hK _ _ ?_ (KeepT.alloc _ _ _) ?_ ⟨W.heap.size, blk_lt hv, heap_alloc_new W _, rfl⟩
        · exact KeepsFrom.of_grownBy (World.grownBy_alloc W _ none) (fun j e => by cases e)
        · exact ⟨(Below.heap_alloc _ _ _ (blk_lt hsrc)).trans hsrc, v, (Below.heap_alloc _ _ _ (blk_lt hv)).trans hv, Kd.S_alloc hr _, hb.alloc hb.size _⟩
      · rintro l pre x a' W hll ⟨hsrc, v, hv, hr, hb⟩ ⟨q, hq, hc, rfl⟩ hlen ⟨t, ht⟩
        have hx := HMEM.out x (by rw [← ht]; simp)
        obtain ⟨hx1, hx2, hx3, hx4, hx5⟩ := hx
        obtain ⟨ad, A', c', rfl, hcell0, hc', hrow0⟩ := C_at_row (C_step HR0.out hb) x.1.toNat (by omega)
        have hsz := HSZ.out x.1.toNat (by omega)
        have hv0 : W.cell? ⟨w2.heap.size, 0, none⟩ = some v := (blk_cell hv 0).trans rfl
        have hc0' : W.cell? ⟨q, 0, none⟩ = some (.int .i64 x.2.f0) := (blk_cell hc 0).trans rfl
        have hc1' : W.cell? ⟨q, 1, none⟩ = some (.int .i64 x.2.f1) := (blk_cell hc 1).trans rfl
        have hs0 : W.cell? ⟨w.heap.size, 0, none⟩ = some (.slice (some ad) l0.length c0) := (blk_cell hsrc 0).trans rfl
        have hnew : (pre ++ [x]).map (sliceX l0) = pre.map (sliceX l0) ++ [⟨x.1, x.2.f0, ((l0.getD x.1.toNat []).take (x.2.f0 + x.2.f1).toNat).drop x.2.f0.toNat⟩] := by simp [sliceX]
        have HN := Aside0.mk hnew
        clear hnew ht
        generalize l0.getD x.1.toNat [] = y at hcell0 hc' hrow0 hsz hx5 HN
        have hcell := hcell0
        have hc0 := hc0'
        have hc1 := hc1'
        have b1 : x.1 < (l0.length : Int) := hx2
        have b2 : x.2.f0 + x.2.f1 ≤ (y.length : Int) := hx5
        have b3 : x.2.f0 ≤ x.2.f0 + x.2.f1 := by omega
        have b4 : -9223372036854775808 ≤ x.2.f0 + x.2.f1 := by omega
        have b5 : x.2.f0 + x.2.f1 ≤ 9223372036854775807 := by omega
        have hw : wrap64 (x.2.f0 + x.2.f1) = x.2.f0 + x.2.f1 := w64 b4 b5
        obtain ⟨zs, hzs⟩ : ∃ zs, zs = (y.take (x.2.f0 + x.2.f1).toNat).drop x.2.f0.toNat := ⟨_, rfl⟩
        obtain ⟨AV, hAV⟩ : ∃ AV, AV = (if c' = x.2.f0.toNat then A' else Option.map (fun x_1 => x_1.add (x.2.f0.toNat * 8)) A') := ⟨_, rfl⟩
        have hzl : zs.length = (x.2.f0 + x.2.f1).toNat - x.2.f0.toNat := by rw [hzs, List.length_drop, List.length_take]; omega
        have hmid : Kd.C kSS W AV zs.length zs := by rw [hAV, hzs]; exact Kd.C_mid hrow0 (by omega) (by omega) hc'
        have hcz : zs.length ≤ c' - x.2.f0.toNat := by omega
        gi_wp2
        refine startRound_ (n := 21) (S := fun w' => w'.cell? ⟨w2.heap.size, 0, none⟩ = some v ∧ w'.cell? ⟨q, 0, none⟩ = some (.int .i64 x.2.f0) ∧ w'.cell? ⟨q, 1, none⟩ = some (.int .i64 x.2.f1) ∧ w'.cell? ⟨w.heap.size, 0, none⟩ = some (.slice (some ad) l0.length c0) ∧ w'.cell? (ad.add x.1.toNat) = some (.slice A' y.length c')) (ds := [20]) l 1 #[false, false, false, false, false, false, false, false, false, false, false, false, false, false, false, false, false, false, false, false, false] (by kernel_rfl) rfl rfl (by rintro ⟨a, w, h⟩; exact h) (by kernel_rfl) ⟨hv0, hc0, hc1, hs0, hcell⟩ (fun hHeld => ?_)
        refine take_ (i := 0) (N := some 26) (v := ?_) (a' := ?_) #[true, false, false, false, false, false, false, false, false, false, false, false, false, false, false, false, false, false, false, false, false] rfl rfl (by kernel_rfl) (fun _ _ _ h => h) (Or.inl ⟨by rfl, ?_⟩) hHeld ?_ ?_
        rotate_left
        · rintro w' ⟨s0, s1, s2, s3, s4⟩
          go_simp
          with_reducible rfl
        rotate_left
        · simp only [Act.put, List.setIfInBounds_toArray, List.set_cons_zero, List.set_cons_succ, i64_w, i32_w]
          rfl
        refine pure_ (i := 1) (N := some 27) (v := ?_) (a' := ?_) #[true, true, false, false, false, false, false, false, false, false, false, false, false, false, false, false, false, false, false, false, false] rfl rfl (by kernel_rfl) (fun _ _ _ h => h) (Or.inl ⟨by rfl, ?_⟩) ?_ ?_
        rotate_left
        · intro w'
          go_simp
          with_reducible rfl
        rotate_left
        · simp only [Act.put, List.setIfInBounds_toArray, List.set_cons_zero, List.set_cons_succ, i64_w, i32_w]
          rfl
        refine pure_ (i := 2) (N := some 28) (v := ?_) (a' := ?_) #[true, true, true, false, false, false, false, false, false, false, false, false, false, false, false, false, false, false, false, false, false] rfl rfl (by kernel_rfl) (fun _ _ _ h => h) (Or.inl ⟨by rfl, ?_⟩) ?_ ?_
        rotate_left
        · intro w'
          go_simp
          with_reducible rfl
        rotate_left
        · simp only [Act.put, List.setIfInBounds_toArray, List.set_cons_zero, List.set_cons_succ, i64_w, i32_w]
          rfl
        refine take_ (i := 3) (N := some 29) (v := ?_) (a' := ?_) #[true, true, true, true, false, false, false, false, false, false, false, false, false, false, false, false, false, false, false, false, false] rfl rfl (by kernel_rfl) (fun _ _ _ h => h) (Or.inl ⟨by rfl, ?_⟩) hHeld ?_ ?_
        rotate_left
        · rintro w' ⟨s0, s1, s2, s3, s4⟩
          go_simp
          with_reducible rfl
        rotate_left
        · simp only [Act.put, List.setIfInBounds_toArray, List.set_cons_zero, List.set_cons_succ, i64_w, i32_w]
          rfl
        refine take_ (i := 4) (N := some 30) (v := ?_) (a' := ?_) #[true, true, true, true, true, false, false, false, false, false, false, false, false, false, false, false, false, false, false, false, false] rfl rfl (by kernel_rfl) (fun _ _ _ h => h) (Or.inl ⟨by rfl, ?_⟩) hHeld ?_ ?_
        rotate_left
        · rintro w' ⟨s0, s1, s2, s3, s4⟩
          go_simp
          with_reducible rfl
        rotate_left
        · simp only [Act.put, List.setIfInBounds_toArray, List.set_cons_zero, List.set_cons_succ, i64_w, i32_w]
          rfl
        refine pure_ (i := 5) (N := some 31) (v := ?_) (a' := ?_) #[true, true, true, true, true, true, false, false, false, false, false, false, false, false, false, false, false, false, false, false, false] rfl rfl (by kernel_rfl) (fun _ _ _ h => h) (Or.inl ⟨by rfl, ?_⟩) ?_ ?_
        rotate_left
        · intro w'
          go_simp
          with_reducible rfl
        rotate_left
        · simp only [Act.put, List.setIfInBounds_toArray, List.set_cons_zero, List.set_cons_succ, i64_w, i32_w]
          rfl
        refine pure_ (i := 6) (N := some 32) (v := ?_) (a' := ?_) #[true, true, true, true, true, true, true, false, false, false, false, false, false, false, false, false, false, false, false, false, false] rfl rfl (by kernel_rfl) (fun _ _ _ h => h) (Or.inl ⟨by rfl, ?_⟩) ?_ ?_
        rotate_left
        · intro w'
          go_simp
          with_reducible rfl
        rotate_left
        · simp only [Act.put, List.setIfInBounds_toArray, List.set_cons_zero, List.set_cons_succ, i64_w, i32_w]
          rfl
        refine take_ (i := 7) (N := some 33) (v := ?_) (a' := ?_) #[true, true, true, true, true, true, true, true, false, false, false, false, false, false, false, false, false, false, false, false, false] rfl rfl (by kernel_rfl) (fun _ _ _ h => h) (Or.inl ⟨by rfl, ?_⟩) hHeld ?_ ?_
        rotate_left
        · rintro w' ⟨s0, s1, s2, s3, s4⟩
          go_simp
          with_reducible rfl
        rotate_left
        · simp only [Act.put, List.setIfInBounds_toArray, List.set_cons_zero, List.set_cons_succ, i64_w, i32_w]
          rfl
        refine pure_ (i := 8) (N := some 34) (v := ?_) (a' := ?_) #[true, true, true, true, true, true, true, true, true, false, false, false, false, false, false, false, false, false, false, false, false] rfl rfl (by kernel_rfl) (fun _ _ _ h => h) (Or.inl ⟨by rfl, ?_⟩) ?_ ?_
        rotate_left
        · intro w'
          go_simp
          with_reducible rfl
        rotate_left
        · simp only [Act.put, List.setIfInBounds_toArray, List.set_cons_zero, List.set_cons_succ, i64_w, i32_w]
          rfl
        refine take_ (i := 9) (N := some 35) (v := ?_) (a' := ?_) #[true, true, true, true, true, true, true, true, true, true, false, false, false, false, false, false, false, false, false, false, false] rfl rfl (by kernel_rfl) (fun _ _ _ h => h) (Or.inl ⟨by rfl, ?_⟩) hHeld ?_ ?_
        rotate_left
        · rintro w' ⟨s0, s1, s2, s3, s4⟩
          go_simp
          with_reducible rfl
        rotate_left
        · simp only [Act.put, List.setIfInBounds_toArray, List.set_cons_zero, List.set_cons_succ, i64_w, i32_w]
          rfl
        refine pure_ (i := 10) (N := some 36) (v := ?_) (a' := ?_) #[true, true, true, true, true, true, true, true, true, true, true, false, false, false, false, false, false, false, false, false, false] rfl rfl (by kernel_rfl) (fun _ _ _ h => h) (Or.inl ⟨by rfl, ?_⟩) ?_ ?_
        rotate_left
        · intro w'
          go_simp
          with_reducible rfl
        rotate_left
        · simp only [Act.put, List.setIfInBounds_toArray, List.set_cons_zero, List.set_cons_succ, i64_w, i32_w]
          rfl
        refine take_ (i := 11) (N := some 37) (v := ?_) (a' := ?_) #[true, true, true, true, true, true, true, true, true, true, true, true, false, false, false, false, false, false, false, false, false] rfl rfl (by kernel_rfl) (fun _ _ _ h => h) (Or.inl ⟨by rfl, ?_⟩) hHeld ?_ ?_
        rotate_left
        · rintro w' ⟨s0, s1, s2, s3, s4⟩
          go_simp
          with_reducible rfl
        rotate_left
        · simp only [Act.put, List.setIfInBounds_toArray, List.set_cons_zero, List.set_cons_succ, i64_w, i32_w]
          rfl
        refine pure_ (i := 12) (N := some 38) (v := ?_) (a' := ?_) #[true, true, true, true, true, true, true, true, true, true, true, true, true, false, false, false, false, false, false, false, false] rfl rfl (by kernel_rfl) (fun _ _ _ h => h) (Or.inl ⟨by rfl, ?_⟩) ?_ ?_
        rotate_left
        · intro w'
          go_simp
          with_reducible rfl
        rotate_left
        · simp only [Act.put, List.setIfInBounds_toArray, List.set_cons_zero, List.set_cons_succ, i64_w, i32_w]
          rfl
        refine take_ (i := 13) (N := some 39) (v := ?_) (a' := ?_) #[true, true, true, true, true, true, true, true, true, true, true, true, true, true, false, false, false, false, false, false, false] rfl rfl (by kernel_rfl) (fun _ _ _ h => h) (Or.inl ⟨by rfl, ?_⟩) hHeld ?_ ?_
        rotate_left
        · rintro w' ⟨s0, s1, s2, s3, s4⟩
          go_simp
          with_reducible rfl
        rotate_left
        · simp only [Act.put, List.setIfInBounds_toArray, List.set_cons_zero, List.set_cons_succ, i64_w, i32_w]
          rfl
        refine pure_ (i := 14) (N := some 40) (v := ?_) (a' := ?_) #[true, true, true, true, true, true, true, true, true, true, true, true, true, true, true, false, false, false, false, false, false] rfl rfl (by kernel_rfl) (fun _ _ _ h => h) (Or.inl ⟨by rfl, ?_⟩) ?_ ?_
        rotate_left
        · intro w'
          go_simp
          with_reducible rfl
        rotate_left
        · simp only [Act.put, List.setIfInBounds_toArray, List.set_cons_zero, List.set_cons_succ, i64_w, i32_w]
          rfl
        refine pure_ (i := 15) (N := some 41) (v := .slice AV zs.length (c' - x.2.f0.toNat)) (a' := ?_) #[true, true, true, true, true, true, true, true, true, true, true, true, true, true, true, true, false, false, false, false, false] rfl rfl (by kernel_rfl) (fun _ _ _ h => h) (Or.inl ⟨by rfl, ?_⟩) ?_ ?_
        · intro w'
          go_simp
          rw [if_pos ⟨by omega, by omega⟩, if_pos (by omega)]
        rotate_left
        · simp only [Act.put, List.setIfInBounds_toArray, List.set_cons_zero, List.set_cons_succ, i64_w, i32_w]
          rfl
        have HZL := Aside0.mk (show zs.length ≤ 1048576 by omega)
        have HZS := Aside0.mk hzs
        clear hzl hzs hAV
        refine one_ (i := 16) (N := some 42) #[true, true, true, true, true, true, true, true, true, true, true, true, true, true, true, true, true, false, false, false, false] rfl rfl (by kernel_rfl) (by decide) (fun K hK => ?_)
        refine goes_ Tryz.func27 (by kernel_rfl) rfl #[.slice AV zs.length (c' - x.2.f0.toNat)] (by rfl) rfl rfl (by (try simp only [List.map_toArray, List.map_cons, List.map_nil]); first | done | rfl) ?_
        refine (slices_Clone_sec.calls AV (c' - x.2.f0.toNat) zs _ (Kd.C_drew hmid) hcz HZL.out).mono ?_
        rintro e w13 ⟨vz, rfl, hz, hbz⟩
        refine ⟨_, rfl, ?_⟩
        refine hK.out _ _ ⟨pw_cell_below hbz hHeld.1, pw_cell_below hbz hHeld.2.1, pw_cell_below hbz hHeld.2.2.1, pw_cell_below hbz hHeld.2.2.2.1, pw_cell_below hbz hHeld.2.2.2.2⟩ (fun hHeld2 => ?_)
        clear hK K
        obtain ⟨Az, cz, rfl, hcz', hCz⟩ := Kd.R_reads hz
        refine norm_ (a' := ?_) ?_ ?_
        rotate_left
        · show Act.put _ (some 42) _ = _
          simp only [Act.put, List.setIfInBounds_toArray, List.set_cons_zero, List.set_cons_succ, i64_w, i32_w]
          rfl
        refine pure_ (i := 17) (N := some 43) (v := ?_) (a' := ?_) #[true, true, true, true, true, true, true, true, true, true, true, true, true, true, true, true, true, true, false, false, false] rfl rfl (by kernel_rfl) (fun _ _ _ h => h) (Or.inl ⟨by rfl, ?_⟩) ?_ ?_
        rotate_left
        · intro w'
          go_simp
          with_reducible rfl
        rotate_left
        · simp only [Act.put, List.setIfInBounds_toArray, List.set_cons_zero, List.set_cons_succ, i64_w, i32_w]
          rfl
        refine one_ (i := 18) (N := some 44) #[true, true, true, true, true, true, true, true, true, true, true, true, true, true, true, true, true, true, true, false, false] rfl rfl (by kernel_rfl) (by decide) (fun K hK => ?_)
        refine value_ (w1 := ?_) (v := ?_) (by rfl) rfl ?_ ?_
        rotate_left 2
        · go_simp
          constructor
          · rfl
          · rfl
        refine hK.out _ _ ⟨pw_cell_below (below_alloc (Below.refl _ _) _) hHeld2.1, pw_cell_below (below_alloc (Below.refl _ _) _) hHeld2.2.1, pw_cell_below (below_alloc (Below.refl _ _) _) hHeld2.2.2.1, pw_cell_below (below_alloc (Below.refl _ _) _) hHeld2.2.2.2.1, pw_cell_below (below_alloc (Below.refl _ _) _) hHeld2.2.2.2.2⟩ (fun hHeld3 => ?_)
        clear hK K
        refine norm_ (a' := ?_) ?_ ?_
        rotate_left
        · show Act.put _ (some 44) _ = _
          simp only [Act.put, List.setIfInBounds_toArray, List.set_cons_zero, List.set_cons_succ, i64_w, i32_w]
          rfl
        refine one_ (i := 19) (N := some 45) #[true, true, true, true, true, true, true, true, true, true, true, true, true, true, true, true, true, true, true, true, false] rfl rfl (by kernel_rfl) (by decide) (fun K hK => ?_)
        have hbW : Below W.heap.size W w13 := ⟨hbz.os, hbz.tape, hbz.output, hbz.size, hbz.block⟩
        refine Kd.S_append_step (W := w13) kWS (w0 := w) w.heap.size ?hw (.tmp 26) (.tmp 44) 31 66 (.agg #[.int .i64 0, .int .i64 0, .slice none 0 0]) 40 rfl Tryz.underlying31 infoW rfl (by decide) (by omega) v (pre.map (sliceX l0)) (⟨x.1, x.2.f0, zs⟩ : WS) [.int .i64 x.1, .int .i64 x.2.f0, .slice Az zs.length cz] (fun _ => True) (fun k => W.heap.size ≤ k) rfl rfl (k66_mkM _ _ _ _ (Kd.R_lower (Kd.R_mono (Kd.R_bound hz) (fun k hk => hk.2.1)) hb.size)) (fun k hk => ⟨trivial, fun e => by have := Kd.S_lt hr k e.symm; omega⟩) (fun _ _ => trivial) (Kd.S_mono (Kd.S_old hr hbW) (fun k hk => ⟨trivial, by have := hk.2; omega⟩)) (hb.trans (hbW.mono hb.size)) (Nat.le_trans hb.size hbW.size) (by rw [List.length_map]; have := HLEN.out; have := HOK.out.2.1; omega) ?_
        (case hw => rfl)
        intro v1 w14 ho hb14 hg14 hat14
        obtain ⟨Av1, cv1, rfl⟩ := Kd.S_slice ho
        have ho' : Kd.S kWS 66 w14 w.heap.size (fun _ => True) (.slice Av1 (pre.map (sliceX l0) ++ [(⟨x.1, x.2.f0, zs⟩ : WS)]).length cv1) ((pre ++ [x]).map (sliceX l0)) := by rw [HN.out, ← HZS.out]; exact ho
        have hv14 := (hg14.block _ (Nat.lt_of_lt_of_le (blk_lt hv) hbW.size) (Kd.S_ne hr hv (by decide))).trans ((hbW.block _ (blk_lt hv)).trans hv)
        have hc14 := (hg14.block _ (Nat.lt_of_lt_of_le (blk_lt hc) hbW.size) (Kd.S_ne hr hc (by decide))).trans ((hbW.block _ (blk_lt hc)).trans hc)
        have hs14 := (hg14.block _ (Nat.lt_of_lt_of_le (blk_lt hsrc) hbW.size) (Kd.S_ne hr hsrc (by decide))).trans ((hbW.block _ (blk_lt hsrc)).trans hsrc)
        obtain ⟨ad2, A2', c2', ead, hcw, _, _⟩ := C_at_row HR0.out x.1.toNat (by omega)
        cases ead
        have hcell14 := (pw_cell_below hb14 hcw).trans (hcell.symm.trans (pw_cell_below hb hcw)).symm
        refine hK.out _ _ ⟨(blk_cell hv14 0).trans rfl, (blk_cell hc14 0).trans rfl, (blk_cell hc14 1).trans rfl, (blk_cell hs14 0).trans rfl, hcell14⟩ (fun hHeld4 => ?_)
        clear hK K
        refine norm_ (a' := ?_) ?_ ?_
        rotate_left
        · show Act.put _ (some 45) _ = _
          simp only [Act.put, List.setIfInBounds_toArray, List.set_cons_zero, List.set_cons_succ, i64_w, i32_w]
          rfl
        refine last_ (i := 20) (N := none) #[true, true, true, true, true, true, true, true, true, true, true, true, true, true, true, true, true, true, true, true, true] rfl rfl (by kernel_rfl) (by decide) (fun K hK => ?_)
        have hf14 := blk_frozen hv14 0
        have hvc14 : w14.cell? ⟨w2.heap.size, 0, none⟩ = some v := (blk_cell hv14 0).trans rfl
        rw [if_pos (by rfl)]
        unfold Oper.wp
        go_simp
        refine hK.out _ _ ?_
        refine done_ (by kernel_rfl) ?_
        have hko : KeepsOthers W w14 := by
          refine ⟨Nat.le_trans hbW.size hg14.size, fun k oo hk hcc => ?_⟩
          have h1 := (hbW.block _ (blk_lt hk)).trans hk
          refine (hg14.block k (blk_lt h1) fun e => ?_).trans h1
          obtain ⟨cells, h2⟩ := Kd.S_typed hr k e.symm
          rw [hk] at h2; injection h2 with h2; subst h2; cases hcc
        have hlen1 : (pre.map (sliceX l0) ++ [(⟨x.1, x.2.f0, zs⟩ : WS)]).length = pre.length + 1 := by simp
        rw [hlen1] at ho'
        have hko2 := hko.trans (KeepsOthers.setCell w14 ⟨w2.heap.size, 0, none⟩ (.slice Av1 (pre.length + 1) cv1))
        refine ⟨hko2.from _, ⟨hko2.size, fun _ _ _ _ _ h => by simp at h⟩, blk_far hs14 (p := ⟨w2.heap.size, 0, none⟩) (show w.heap.size ≠ w2.heap.size by omega) _, .slice Av1 (pre.length + 1) cv1, by simpa using blk_set hv14 0 (.slice Av1 (pre.length + 1) cv1), Kd.S_set ho' hv14 (fun q hq => by simp [show kWS.E = [59] from rfl] at hq; rcases hq with rfl | rfl <;> decide) 0 _, hb14.grown (grownBy_set1 w14 _ 0 _) hb14.size (fun k e => by cases e; omega)⟩
      · rintro D xs W hD hS ⟨hsrc, v, hv, hr, hb⟩ hK
        have hv0 : W.cell? ⟨w2.heap.size, 0, none⟩ = some v := (blk_cell hv 0).trans rfl
        gi_wp2
        refine ⟨by simp, .inl ⟨_, _, rfl, run_takeDeferred hK, ?_⟩⟩
        have hD' : w.heap.size ≤ D := by omega
        rw [hS] at hr
        exact ⟨.tuple #[v, .int .i64 0], results_tmp2 (t := 4) (u := 5) rfl _ _ _, v, rfl, S_grown' (T := []) hr (grownBy_putObj' W D _) (fun _ _ => by simp) (fun r e => by cases e; exact ⟨_, hK, .inl rfl⟩), hb.grown (grownBy_putObj' W D _) hb.size (fun k e => by cases e; exact hD')⟩
    · rw [if_neg hf] at h
      have q1 : (fitsX l0 l1 == 0) = false := by simpa using hf
      have q2 : (fitsX l0 l1 != 0) = true := by simpa using hf
      have q3 : decide (fitsX l0 l1 = 0) = false := by simpa using hf
      cases h
      generalize fitsX l0 l1 = fx at hfits q1 q2 q3
      clear hf hr0 hr1 hok hs
      go_enter Tryz.func8, Tryz.ntmps8
      go_wp2_with (first | (go_at_call 24; refine (hchk _ (below_alloc (Below.refl _ _) _)).mono ?_; rintro e w1 ⟨rfl, h1⟩; have hbx : w1.cell? ⟨w.heap.size, 0, none⟩ = some (.slice A0 l0.length c0) := (h1.cell (p := ⟨w.heap.size, 0, none⟩) (by simp)).trans (by simp); have n1 := Aside0.mk (below_then (below_alloc (Below.refl _ _) _) (by simp) h1); clear h1) | (go_at_call 25; refine (hfits _ n1.out).mono ?_; rintro e w2 ⟨rfl, h2⟩; have n2 := Aside0.mk (below_then n1.out n1.out.size h2); clear h2))
      go_ret2
      exact ⟨_, rfl, Kd.S_nil _ _ _ _ _, n2.out⟩
  · rw [if_neg hs] at h
    have q1 : (sizesErr (lens l0) == 0) = false := by simpa using hs
    have q2 : (sizesErr (lens l0) != 0) = true := by simpa using hs
    have q3 : decide (sizesErr (lens l0) = 0) = false := by simpa using hs
    cases h
    generalize sizesErr (lens l0) = sx at hchk q1 q2 q3
    clear hr0 hr1 hok hs
    go_enter Tryz.func8, Tryz.ntmps8
    go_wp2_with (go_at_call 24; refine (hchk _ (below_alloc (Below.refl _ _) _)).mono ?_; rintro e w1 ⟨rfl, h1⟩; have hbx : w1.cell? ⟨w.heap.size, 0, none⟩ = some (.slice A0 l0.length c0) := (h1.cell (p := ⟨w.heap.size, 0, none⟩) (by simp)).trans (by simp); have n1 := Aside0.mk (below_then (below_alloc (Below.refl _ _) _) (by simp) h1); clear h1)
    go_ret2
    exact ⟨_, rfl, Kd.S_nil _ _ _ _ _, n1.out⟩
end Go.Proofs.YtdplnbmioioniaaGreat.Pq
end
section
namespace Go.Proofs.YtdplnbmioioniaaGreat.Pq
open Go.RowKit Go.Proofs.YtdplnbmioioniaaGreatW.PrintWords Go.Proofs.YtdplnbmioioniaaGreatW.PrintLast Go.Proofs.YtdplnbmioioniaaGreatW.PrintMore
attribute [local go_sem] max2_int min2_int max_two min_two max_three min_three max_four min_four
set_option linter.unusedVariables false
set_option linter.unusedSimpArgs false
theorem eqA59 (d : Nat) (w : World) (x0 y0 : Int) (x1 y1 : Int) (x2 y2 : Int) (x3 y3 : Int) (x4 y4 : Int) (x5 y5 : Int) (x6 y6 : Int) (x7 y7 : Int) :
    (Op.equalIn (d + 2) 59 (.agg #[.int .u8 x0, .int .u8 x1, .int .u8 x2, .int .u8 x3, .int .u8 x4, .int .u8 x5, .int .u8 x6, .int .u8 x7]) (.agg #[.int .u8 y0, .int .u8 y1, .int .u8 y2, .int .u8 y3, .int .u8 y4, .int .u8 y5, .int .u8 y6, .int .u8 y7])).run Tryz.prog w = .ok (x0 == y0 && (x1 == y1 && (x2 == y2 && (x3 == y3 && (x4 == y4 && (x5 == y5 && (x6 == y6 && (x7 == y7)))))))) w := by
  have hu : Tryz.prog.underlying 59 = some (.array 8 5) := by kernel_rfl
  have h5 : Tryz.prog.underlying 5 = some (.int .u8) := by kernel_rfl
  have hs : (sizeOf 5).run Tryz.prog w = .ok 1 w := by kernel_rfl
  have he : ∀ a b : Int, (Op.equalIn (d + 1) 5 (.int .u8 a) (.int .u8 b)).run Tryz.prog w = .ok (a == b) w := fun a b => by simp [Op.equalIn, run_underlying h5]
  have ha : (isAgg 5).run Tryz.prog w = .ok false w := by kernel_rfl
  have hp : ∀ (xs : Array Value) (i : Nat) (a : Int), xs[i]? = some (.int .u8 a) → (part 5 xs i).run Tryz.prog w = .ok (.int .u8 a) w := fun xs i a h => by simp [part, ha, h]
  rw [Op.equalIn]
  simp [run_underlying hu, hs, Std.Legacy.Range.forIn_eq_forIn_range', Std.Legacy.Range.size, List.range', hp, he]
  by_cases c0 : x0 = y0 <;> by_cases c1 : x1 = y1 <;> by_cases c2 : x2 = y2 <;> by_cases c3 : x3 = y3 <;> simp only [c0, c1, c2, c3, if_true, if_false, beq_self_eq_true, beq_iff_eq, Bool.true_and] <;> (try simp [c0, c1, c2, c3])
  all_goals (by_cases c4 : x4 = y4 <;> by_cases c5 : x5 = y5 <;> by_cases c6 : x6 = y6 <;> by_cases c7 : x7 = y7 <;> simp [c4, c5, c6, c7])
end Go.Proofs.YtdplnbmioioniaaGreat.Pq
end
section
namespace Go.Proofs.YtdplnbmioioniaaGreat.Pq
open Go.RowKit Go.Shelf Go.Proofs.YtdplnbmioioniaaGreatW.PrintWords Go.Proofs.YtdplnbmioioniaaGreatW.PrintLast Go.Proofs.YtdplnbmioioniaaGreatW.PrintMore
set_option linter.unusedVariables false
set_option linter.unusedSimpArgs false
set_option maxHeartbeats 2000000
set_option maxRecDepth 100000
abbrev zRow (n : Int) : Vol := List.replicate n.toNat z59
theorem image_New_1.calls (n : Int) (w : World) (h0 : 0 ≤ n) (h1 : n ≤ 4096) : Calls Tryz.prog 85 #[.int .i64 n] w (RetR kSS 59 (zRow n) w) := by
  go_enter Tryz.func85, Tryz.ntmps85
  go_wp2_with ((with_reducible refine gate_dst (N := 4) rfl ?_); refine Kd.R_make kSS (w0 := w) w.heap.size 59 rfl (N := 4) rfl 56 _ _ rfl n rfl rfl Tryz.underlying56 (.agg #[.int .u8 0, .int .u8 0, .int .u8 0, .int .u8 0, .int .u8 0, .int .u8 0, .int .u8 0, .int .u8 0]) 8 infoSS rfl (by decide) (by decide) z59 (ok := fun _ => True) (okp := fun _ => True) (k59_mkM _ _ _ z59) (fun _ hk => hk) trivial (by omega) (by omega) (Below.refl _ _) (Nat.le_refl _) ?_; intro v1 w1 ho hb hg hat; have n1 := Aside0.mk ho; have n2 := Aside0.mk hb; clear ho hb hg hat)
  go_ret
  exact ⟨_, rfl, n1.out, n2.out⟩
theorem image_mapped_new.calls (A : Option Addr) (c : Nat) (xs : List Int) (w : World) (hr : Kd.C (Kd.int .i64) w A xs.length xs) (hc : xs.length ≤ c) (hs : xs.length ≤ 1048576) (hv : ∀ i, i < xs.length → 0 ≤ xs.getD i 0 ∧ xs.getD i 0 ≤ 4096) :
    Calls Tryz.prog 84 #[.slice A xs.length c, .func (.func 85) #[] #[]] w fun e w' => ∃ v, e = .returned v ∧ Kd.S kImg 56 w' w.heap.size (fun _ => True) v (xs.map zRow) ∧ Below w.heap.size w w' := by
  have hmk := make_cap (P := Tryz.prog) 22 56 (.slice none 0 0) 24 1 Tryz.underlying22 infoLS (by decide) xs.length (by omega)
  have hmax := Kd.C_max hr
  have HS := Aside0.mk hs
  clear hs
  go_enter Tryz.func84, Tryz.ntmps84
  go_wp2
  go_loopg [5, 13] xs.length (fun gg s5 s13 wr => ∃ kk : Nat, kk ≤ xs.length ∧ xs.length - kk ≤ gg ∧ s13 = .int .i64 kk ∧ Aside0 (Below w.heap.size w wr) ∧ Aside0 (Kd.S kImg 56 wr w.heap.size (fun _ => True) s5 ((xs.take kk).map zRow)))
  case atStart => exact ⟨0, Nat.zero_le _, by omega, rfl, ⟨below_alloc (Below.refl _ _) _⟩, ⟨⟨fun _ => 0, R_made (Kd.tag (fun _ => 0) kImg) w w _ _ _ (Nat.le_refl _) (by have := HS.out; unfold maxLen; omega) (by simp [size_madeCells, Kd.tag, Kd.slice])⟩⟩⟩
  case round =>
    clear hmk
    obtain ⟨kk, hkk, hg, rfl, BW, HO⟩ := hrel
    by_cases hlt : kk < xs.length
    · obtain ⟨ad, rfl, hcell0⟩ := C_at_int hr kk hlt
      have hcell := pw_cell_below BW.out hcell0
      have hsn := Aside0.mk (show (xs.take (kk + 1)).map zRow = (xs.take kk).map zRow ++ [zRow (xs.getD kk 0)] by rw [take_snoc xs 0 kk hlt, List.map_append]; rfl)
      have hln := Aside0.mk (show ((xs.take kk).map zRow).length ≤ 1048576 by have := HS.out; simp; omega)
      have hcall := image_New_1.calls (xs.getD kk 0) wr (hv kk hlt).1 (hv kk hlt).2
      clear hr hcell0 hv
      generalize zRow (xs.getD kk 0) = y at hcall hsn
      generalize xs.getD kk 0 = n at hcell hcall
      generalize (xs.take kk).map zRow = out at HO hsn hln
      go_wp2_with (first | (go_at_call 85; refine hcall.mono ?_; rintro e w1 ⟨v, rfl, h1, h2⟩; obtain ⟨Av, cv, rfl, hcv, hCv⟩ := Kd.R_reads h1; have n1 := Aside0.mk h1; have n2 := Aside0.mk h2; clear h1 h2 hCv) | ((with_reducible refine gate_builtin (b := .append) (xs := #[.tmp 17, .tmp 21]) rfl ?_); at_builtin; refine Kd.S_append kImg (w0 := w) w.heap.size rfl (.tmp 17) (.tmp 21) 22 56 (.slice none 0 0) 24 rfl Tryz.underlying22 infoLS rfl (by decide) (by decide) _ out y [.slice Av y.length cv] (fun _ => True) (fun k => wr.heap.size ≤ k) rfl rfl ⟨_, rfl, Kd.R_lower (Kd.R_mono (Kd.R_bound n1.out) (fun k hk => hk.2.1)) BW.out.size⟩ (fun k hk => ⟨trivial, fun e => by have := Kd.S_lt HO.out k e.symm; omega⟩) (fun _ _ => trivial) (Kd.S_mono (Kd.S_old HO.out n2.out) (fun k hk => ⟨trivial, by have := hk.2; omega⟩)) (below_then BW.out BW.out.size n2.out) (by have := BW.out.size; have := n2.out.size; omega) (by have := hln.out; omega) ?_; intro v1 w2 ho hb hgr hat; have n3 := Aside0.mk ho; have n4 := Aside0.mk hb; clear ho hb hgr hat))
      go_roundg (xs.length - (kk + 1))
      case measure => omega
      case rel => exact ⟨kk + 1, by omega, by omega, by go_num, n4, ⟨by rw [hsn.out]; exact n3.out⟩⟩
    · have hk : kk = xs.length := by omega
      subst hk
      go_wp2
      go_ret
      exact ⟨_, rfl, by have h := HO.out; rw [List.take_length] at h; exact h, BW.out⟩
def newX (l : List Int) : Img × Int := if sizesErr l = 0 then (l.map zRow, 0) else ([], sizesErr l)
theorem sizes_mem {l : List Int} (h : sizesErr l = 0) : 1 ≤ l.length ∧ l.length ≤ 8 ∧ ∀ n ∈ l, 1 ≤ n ∧ n ≤ 4096 := by
  unfold sizesErr at h
  split at h
  · cases h
  · rename_i hb
    split at h
    · cases h
    · rename_i hc
      refine ⟨by omega, by omega, fun n hn => ?_⟩
      have : badSize n = false := by
        cases hq : badSize n with
        | false => rfl
        | true => exact absurd (List.any_eq_true.2 ⟨n, hn, hq⟩) hc
      unfold badSize at this
      simp only [Bool.or_eq_false_iff, decide_eq_false_iff_not] at this
      omega
def image_New.f (l0 : List Int) : Option (Img × Int) := some (newX l0)
theorem image_New.calls (A0 : Option Addr) (c0 : Nat) (l0 : List Int) (r1 : List (List SS)) (r2 : Int) (w : World) (hr0 : Kd.C (Kd.int .i64) w A0 l0.length l0) (hc0 : l0.length ≤ c0) (h : image_New.f l0 = some (r1, r2)) :
    Calls Tryz.prog 61 #[.slice A0 l0.length c0] w fun e w' => ∃ v0_ : Value, e = .returned (.tuple #[v0_, .int .i64 r2]) ∧ Kd.S (Kd.slice 59 kSS) 56 w' w.heap.size (fun _ => True) v0_ r1 ∧ Below w.heap.size w w' := by
  unfold image_New.f newX at h
  have hchk := image_checkSizes.calls A0 c0 l0 w hr0 hc0
  by_cases hs : sizesErr l0 = 0
  · rw [if_pos hs] at h
    rw [hs] at hchk
    obtain ⟨s1, s2, s3⟩ := sizes_mem hs
    have hmap := fun (W : World) (hW : Below w.heap.size w W) => image_mapped_new.calls A0 c0 l0 W (C_step hr0 hW) hc0 (by omega) (fun i hi => by have := s3 (l0.getD i 0) (by rw [List.getD_eq_getElem?_getD, List.getElem?_eq_getElem hi]; exact List.getElem_mem hi); omega)
    cases h
    clear hs hr0 s1 s2 s3
    go_enter Tryz.func61, Tryz.ntmps61
    go_wp2_with (first | (go_at_call 52; refine hchk.mono ?_; rintro e w1 ⟨rfl, h1⟩; have n1 := Aside0.mk h1; clear h1) | (go_at_call 84; refine (hmap _ n1.out).mono ?_; rintro e w2 ⟨v, rfl, h2, h3⟩; have n2 := Aside0.mk (Kd.S_lower h2 n1.out.size); have n3 := Aside0.mk (below_then n1.out n1.out.size h3); clear h2 h3))
    go_ret2
    exact ⟨_, rfl, n2.out, n3.out⟩
  · rw [if_neg hs] at h
    have q1 : (sizesErr l0 == 0) = false := by simpa using hs
    have q2 : (sizesErr l0 != 0) = true := by simpa using hs
    have q3 : decide (sizesErr l0 = 0) = false := by simpa using hs
    cases h
    generalize sizesErr l0 = fx at hchk q1 q2 q3
    clear hs hr0
    go_enter Tryz.func61, Tryz.ntmps61
    go_wp2_with (go_at_call 52; refine hchk.mono ?_; rintro e w1 ⟨rfl, h1⟩; have n1 := Aside0.mk h1; clear h1)
    go_ret2
    exact ⟨_, rfl, Kd.S_nil _ _ _ _ _, n1.out⟩
end Go.Proofs.YtdplnbmioioniaaGreat.Pq
end
section
namespace Go.Proofs.YtdplnbmioioniaaGreat.Pq
open Go.RowKit Go.Proofs.YtdplnbmioioniaaGreatW.PrintWords Go.Proofs.YtdplnbmioioniaaGreatW.PrintLast Go.Proofs.YtdplnbmioioniaaGreatW.PrintMore
set_option linter.unusedVariables false
set_option linter.unusedSimpArgs false
def fitsC (im : Img) (w : WS) : Int :=
  if w.f0 < 0 ∨ (im.length : Int) ≤ w.f0 then 7 else if (w.f2.length : Int) = 0 then 1 else if w.f1 < 0 then 2 else if w.f1 > ((im.getD w.f0.toNat []).length : Int) - (w.f2.length : Int) then 2 else 0
theorem fitsC_zero {im : Img} {w : WS} (h : fitsC im w = 0) : 0 ≤ w.f0 ∧ w.f0 < im.length ∧ 0 < w.f2.length ∧ 0 ≤ w.f1 ∧ w.f1 + w.f2.length ≤ (im.getD w.f0.toNat []).length := by
  unfold fitsC at h
  split at h
  · cases h
  · split at h
    · cases h
    · split at h
      · cases h
      · split at h
        · cases h
        · omega
theorem lens_getD (im : Img) (v : Nat) (h : v < im.length) : (lens im).getD v 0 = ((im.getD v []).length : Int) := by
  unfold lens
  rw [List.getD_eq_getElem?_getD, List.getElem?_map, List.getD_eq_getElem?_getD, List.getElem?_eq_getElem h]; rfl
def okW (im : Img) (l : List WS) : Prop := im.length ≤ 1048576 ∧ l.length ≤ 1048576 ∧ ∀ w ∈ l, w.f2.length ≤ 1048576
instance (im : Img) (l : List WS) : Decidable (okW im l) := inferInstanceAs (Decidable (_ ∧ _ ∧ _))
theorem ev_fits (im : Img) (w : WS) (hs : ∀ v, v < im.length → (im.getD v []).length ≤ 4096) (hd : w.f2.length ≤ 1048576) : Ev (fun k => image_fits.f k im w.f0 w.f1 w.f2) (fitsC im w) := by
  unfold fitsC
  by_cases c : w.f0 < 0 ∨ (im.length : Int) ≤ w.f0
  · rw [if_pos c]
    refine Ev.congr (f := fun k => image_fits.j0 k im true w.f0 w.f1 w.f2) (fun k => ?_) (Ev.step (f := fun _ => some 7) (fun k => by rw [image_fits.j0, if_pos rfl]) (Ev.now 7))
    unfold image_fits.f
    by_cases c2 : w.f0 < 0
    · rw [if_pos c2]
    · rw [if_neg c2, decide_eq_true (by omega)]
  · rw [if_neg c]
    refine Ev.congr (f := fun k => image_fits.j0 k im false w.f0 w.f1 w.f2) (fun k => by unfold image_fits.f; rw [if_neg (by omega), decide_eq_false (by omega)]) ?_
    have hrd : rd_L2 im w.f0 = im.getD w.f0.toNat [] := rfl
    have hv := hs w.f0.toNat (by omega)
    by_cases d : (w.f2.length : Int) = 0
    · rw [if_pos d]
      exact Ev.step (f := fun _ => some 1) (fun k => by rw [image_fits.j0, if_neg (by simp), if_pos d]) (Ev.now 1)
    · rw [if_neg d]
      by_cases e : w.f1 < 0
      · rw [if_pos e]
        exact Ev.step (f := fun _ => some 2) (fun k => by rw [image_fits.j0, if_neg (by simp), if_neg d, if_pos e]) (Ev.now 2)
      · rw [if_neg e]
        refine Ev.step (f := fun _ => some _) (fun k => ?_) (Ev.now _)
        rw [image_fits.j0, if_neg (by simp), if_neg d, if_neg e, if_pos (by omega), if_pos (by omega), hrd, w64 (by omega) (by omega)]
        split <;> rfl
end Go.Proofs.YtdplnbmioioniaaGreat.Pq
end
section
namespace Go.Proofs.YtdplnbmioioniaaGreat.Pq
open Go.RowKit Go.Shelf Go.Proofs.YtdplnbmioioniaaGreatW.PrintWords Go.Proofs.YtdplnbmioioniaaGreatW.PrintLast Go.Proofs.YtdplnbmioioniaaGreatW.PrintMore
set_option linter.unusedVariables false
set_option linter.unusedSimpArgs false
set_option maxHeartbeats 2000000
set_option maxRecDepth 100000
def fitsF (im : Img) (w : WS) : Int := if sizesErr (lens im) = 0 then fitsC im w else sizesErr (lens im)
def image_Fits.f (l0 : List (List SS)) (a1_0 a1_1 : Int) (l1_2 : List SS) : Option Int := if l0.length ≤ 1048576 ∧ l1_2.length ≤ 1048576 then some (fitsF l0 ⟨a1_0, a1_1, l1_2⟩) else none
theorem image_Fits.calls (A0 : Option Addr) (c0 : Nat) (l0 : List (List SS)) (a1_0 : Int) (a1_1 : Int) (A1_2 : Option Addr) (c1_2 : Nat) (l1_2 : List SS) (r : Int) (w : World) (hr0 : Kd.C (Kd.slice 59 kSS) w A0 l0.length l0) (hc0 : l0.length ≤ c0) (hr1_2 : Kd.C kSS w A1_2 l1_2.length l1_2) (hc1_2 : l1_2.length ≤ c1_2) (h : image_Fits.f l0 a1_0 a1_1 l1_2 = some r) :
    Calls Tryz.prog 89 #[.slice A0 l0.length c0, .agg #[.int .i64 a1_0, .int .i64 a1_1, .slice A1_2 l1_2.length c1_2]] w fun e w' => e = .returned (.int .i64 r) ∧ Below w.heap.size w w' := by
  unfold image_Fits.f at h
  by_cases hnk : ¬ (l0.length ≤ 1048576 ∧ l1_2.length ≤ 1048576)
  · rw [if_neg hnk] at h; cases h
  have hok := Decidable.not_not.1 hnk
  rw [if_pos hok] at h
  clear hnk
  have hchk := fun (W : World) (hW : Below w.heap.size w W) => image_Check.calls A0 c0 l0 _ W (C_step hr0 hW) hc0 (show image_Check.f l0 = some (sizesErr (lens l0)) by unfold image_Check.f; rw [if_pos hok.1])
  unfold fitsF at h
  by_cases hs : sizesErr (lens l0) = 0
  · rw [if_pos hs] at h
    rw [hs] at hchk
    obtain ⟨k, hk⟩ := (ev_fits l0 ⟨a1_0, a1_1, l1_2⟩ (sizes_le hs) hok.2).rounds
    have hfit := fun (W : World) (hW : Below w.heap.size w W) => image_fits.calls k A0 c0 l0 a1_0 a1_1 A1_2 c1_2 l1_2 _ W (C_step hr0 hW) hc0 (C_step hr1_2 hW) hc1_2 hk
    cases h
    clear hs hr0 hr1_2 hok hk
    generalize fitsC l0 ⟨a1_0, a1_1, l1_2⟩ = fx at hfit
    go_enter Tryz.func89, Tryz.ntmps89
    go_wp2_with (first | (go_at_call 24; refine (hchk _ (below_alloc (Below.refl _ _) _)).mono ?_; rintro e w1 ⟨rfl, h1⟩; have hbk : w1.heap[w.heap.size]? = some (.cells #[.int .i64 a1_0, .int .i64 a1_1, .slice A1_2 l1_2.length c1_2] 66 (0, 0)) := (h1.block _ (by simp)).trans (heap_alloc_new w _); have hb0 : w1.cell? ⟨w.heap.size, 0, none⟩ = some (.int .i64 a1_0) := (blk_cell hbk 0).trans rfl; have hb1 : w1.cell? ⟨w.heap.size, 1, none⟩ = some (.int .i64 a1_1) := (blk_cell hbk 1).trans rfl; have hb2 : w1.cell? ⟨w.heap.size, 2, none⟩ = some (.slice A1_2 l1_2.length c1_2) := (blk_cell hbk 2).trans rfl; have n1 := Aside0.mk (below_then (below_alloc (Below.refl _ _) _) (by simp) h1); clear h1 hbk) | (go_at_call 40; refine (hfit _ n1.out).mono ?_; rintro e w2 ⟨rfl, h2⟩; have n2 := Aside0.mk (below_then n1.out n1.out.size h2); clear h2))
    go_ret
    exact ⟨rfl, n2.out⟩
  · rw [if_neg hs] at h
    have q1 : (sizesErr (lens l0) == 0) = false := by simpa using hs
    have q2 : (sizesErr (lens l0) != 0) = true := by simpa using hs
    have q3 : decide (sizesErr (lens l0) = 0) = false := by simpa using hs
    cases h
    generalize sizesErr (lens l0) = fx at hchk q1 q2 q3
    clear hs hr0 hr1_2 hok
    go_enter Tryz.func89, Tryz.ntmps89
    go_wp2_with (go_at_call 24; refine (hchk _ (below_alloc (Below.refl _ _) _)).mono ?_; rintro e w1 ⟨rfl, h1⟩; have n1 := Aside0.mk (below_then (below_alloc (Below.refl _ _) _) (by simp) h1); clear h1)
    go_ret
    exact ⟨rfl, n1.out⟩
end Go.Proofs.YtdplnbmioioniaaGreat.Pq
end
section
namespace Go.Proofs.YtdplnbmioioniaaGreat.Pq
open Go.RowKit Go.Shelf Go.Proofs.YtdplnbmioioniaaGreatW.PrintWords Go.Proofs.YtdplnbmioioniaaGreatW.PrintLast Go.Proofs.YtdplnbmioioniaaGreatW.PrintMore
set_option linter.unusedVariables false
set_option linter.unusedSimpArgs false
set_option maxHeartbeats 800000
set_option maxRecDepth 100000
theorem C_at_wr {w : World} {A : Option Addr} {n : Nat} {xs : List WS} (h : Kd.C kWS w A n xs) (i : Nat) (hi : i < n) :
    ∃ ad AD cD, A = some ad ∧ w.cell? (ad.add (i * 3)) = some (.int .i64 (xs.getD i z66).f0) ∧ w.cell? ⟨(ad.add (i * 3)).block, (ad.add (i * 3)).off + 1, none⟩ = some (.int .i64 (xs.getD i z66).f1) ∧ w.cell? ⟨(ad.add (i * 3)).block, (ad.add (i * 3)).off + 2, none⟩ = some (.slice AD (xs.getD i z66).f2.length cD) ∧ (xs.getD i z66).f2.length ≤ cD ∧ Kd.C kSS w AD (xs.getD i z66).f2.length (xs.getD i z66).f2 := by
  have hr : rd_T66 xs (i : Int) = xs.getD i z66 := by unfold rd_T66; rw [Int.toNat_natCast]
  obtain ⟨ad, AD, cD, h1, h2, h3, h4, h5, h6⟩ := at_T66 h (i : Int) (by omega) (by omega)
  rw [hr, Int.toNat_natCast] at h2 h3 h4
  rw [hr] at h5 h6
  exact ⟨ad, AD, cD, h1, h2, h3, h4, h5, h6⟩
end Go.Proofs.YtdplnbmioioniaaGreat.Pq
end
section
namespace Go.Proofs.YtdplnbmioioniaaGreat.Pq
open Go.RowKit Go.Shelf Go.Proofs.YtdplnbmioioniaaGreatW.PrintWords Go.Proofs.YtdplnbmioioniaaGreatW.PrintLast Go.Proofs.YtdplnbmioioniaaGreatW.PrintMore
set_option linter.unusedVariables false
set_option linter.unusedSimpArgs false
set_option maxHeartbeats 2000000
set_option maxRecDepth 100000
def inB (n lo hi : Int) : Bool := decide (lo ≤ n) && decide (n ≤ hi)
theorem xcyc_in.calls (n lo hi : Int) (w : World) : Calls Tryz.prog 62 #[.int .i64 n, .int .i64 lo, .int .i64 hi] w (Ret (.bool (inB n lo hi)) w) := by
  unfold inB
  by_cases h : lo ≤ n
  · have h1 : decide (lo ≤ n) = true := by simpa using h
    rw [h1, Bool.true_and]
    have HQ := Aside0.mk (rfl : decide (n ≤ hi) = decide (n ≤ hi))
    go_enter Tryz.func62, Tryz.ntmps62
    go_wp2
    go_ret
    exact ⟨rfl, Below.refl _ _⟩
  · have h1 : decide (lo ≤ n) = false := by simpa using h
    rw [h1, Bool.false_and]
    go_enter Tryz.func62, Tryz.ntmps62
    go_wp2
    go_ret
    exact ⟨rfl, Below.refl _ _⟩
def badPos (n : Int) : Bool := !inB n 0 1073741824
theorem cycle_positions_1.calls (n : Int) (w : World) : Calls Tryz.prog 86 #[.int .i64 n] w (Ret (.bool (badPos n)) w) := by
  have hin := xcyc_in.calls n 0 1073741824
  unfold badPos
  generalize inB n 0 1073741824 = q at hin
  go_enter Tryz.func86, Tryz.ntmps86
  go_wp2_with (go_at_call 62; refine (hin _).mono ?_; rintro e w1 ⟨rfl, h1⟩; have n1 := Aside0.mk h1; clear h1)
  go_ret
  exact ⟨rfl, n1.out⟩
def posErr (l : List Int) (least : Int) : Int := if inB (l.length : Int) least 8 = true then (if l.any badPos then 2 else 0) else 6
def cycle_positions.f (l0 : List Int) (a1 : Int) : Option Int := some (posErr l0 a1)
theorem cycle_positions.calls (A0 : Option Addr) (c0 : Nat) (l0 : List Int) (a1 : Int) (r : Int) (w : World) (hr0 : Kd.C (Kd.int .i64) w A0 l0.length l0) (hc0 : l0.length ≤ c0) (h : cycle_positions.f l0 a1 = some r) :
    Calls Tryz.prog 63 #[.slice A0 l0.length c0, .int .i64 a1] w fun e w' => e = .returned (.int .i64 r) ∧ Below w.heap.size w w' := by
  unfold cycle_positions.f posErr at h
  simp only [Option.some.injEq] at h
  have hmax := Kd.C_max hr0
  have hin := xcyc_in.calls (l0.length : Int) a1 8
  have hcon := fun (W : World) (hW : Below w.heap.size w W) => slices_ContainsFunc_int.calls 86 #[] badPos A0 c0 l0 W (enters_of Tryz.func86 (by kernel_rfl) rfl) (C_step hr0 hW) hc0 (fun x W' _ => cycle_positions_1.calls x W')
  clear hr0
  generalize inB (l0.length : Int) a1 8 = q at hin h
  generalize l0.any badPos = p at hcon h
  cases q with
  | false =>
    rw [if_neg (by simp)] at h
    subst h
    clear hcon
    go_enter Tryz.func63, Tryz.ntmps63
    go_wp2_with (go_at_call 62; refine (hin _).mono ?_; rintro e w1 ⟨rfl, h1⟩; have n1 := Aside0.mk h1; clear h1)
    go_ret
    exact ⟨rfl, n1.out⟩
  | true =>
    rw [if_pos rfl] at h
    cases p with
    | false =>
      rw [if_neg (by simp)] at h
      subst h
      go_enter Tryz.func63, Tryz.ntmps63
      go_wp2_with (first | (go_at_call 62; refine (hin _).mono ?_; rintro e w1 ⟨rfl, h1⟩; have n1 := Aside0.mk h1; clear h1) | (go_at_call 78; refine (hcon _ n1.out).mono ?_; rintro e w2 ⟨rfl, h2⟩; have n2 := Aside0.mk (below_then n1.out n1.out.size h2); clear h2))
      go_ret
      exact ⟨rfl, n2.out⟩
    | true =>
      rw [if_pos rfl] at h
      subst h
      go_enter Tryz.func63, Tryz.ntmps63
      go_wp2_with (first | (go_at_call 62; refine (hin _).mono ?_; rintro e w1 ⟨rfl, h1⟩; have n1 := Aside0.mk h1; clear h1) | (go_at_call 78; refine (hcon _ n1.out).mono ?_; rintro e w2 ⟨rfl, h2⟩; have n2 := Aside0.mk (below_then n1.out n1.out.size h2); clear h2))
      go_ret
      exact ⟨rfl, n2.out⟩
def ordX (p x : WS) : Bool := decide (x.f0 < p.f0) || (decide (x.f0 = p.f0) && decide (x.f1 ≤ p.f1 + (p.f2.length : Int)))
def coalG (fc : WS → Int) : Option WS → List WS → Int
  | _, [] => 0
  | none, x :: r => if fc x = 0 then coalG fc (some x) r else fc x
  | some p, x :: r => if fc x = 0 then (if ordX p x = true then 3 else coalG fc (some x) r) else fc x
def prevW (l : List WS) : Nat → Option WS
  | 0 => none
  | k + 1 => some (l.getD k z66)
theorem coalG_drop0 (fc : WS → Int) (l : List WS) (h : 0 < l.length) : coalG fc (prevW l 0) (l.drop 0) = if fc (l.getD 0 z66) = 0 then coalG fc (prevW l 1) (l.drop 1) else fc (l.getD 0 z66) := by
  cases l with
  | nil => simp at h
  | cons x r => rfl
theorem coalG_drop (fc : WS → Int) (l : List WS) (k : Nat) (h : k + 1 < l.length) : coalG fc (prevW l (k + 1)) (l.drop (k + 1)) = if fc (l.getD (k + 1) z66) = 0 then (if ordX (l.getD k z66) (l.getD (k + 1) z66) = true then 3 else coalG fc (prevW l (k + 2)) (l.drop (k + 2))) else fc (l.getD (k + 1) z66) := by
  rw [List.drop_eq_getElem_cons h, prevW, coalG, prevW, List.getD_eq_getElem?_getD (l := l) (i := k + 1), List.getElem?_eq_getElem h]; rfl
theorem after_box {wr w1 : World} {a b c : Value} {t : TypeId} (h1 : Below (wr.alloc (.cells #[a, b, c] t)).heap.size (wr.alloc (.cells #[a, b, c] t)) w1) :
    Below wr.heap.size wr w1 ∧ w1.cell? ⟨wr.heap.size, 0, none⟩ = some a ∧ w1.cell? ⟨wr.heap.size, 1, none⟩ = some b ∧ wr.heap.size < w1.heap.size := by
  have hbw := below_then (below_alloc (Below.refl wr.heap.size wr) (.cells #[a, b, c] t)) (by simp) h1
  have hbk : w1.heap[wr.heap.size]? = some (.cells #[a, b, c] t (0, 0)) := (h1.block _ (by simp)).trans (heap_alloc_new wr _)
  exact ⟨hbw, (blk_cell hbk 0).trans rfl, (blk_cell hbk 1).trans rfl, blk_lt hbk⟩
theorem coalesce_check.calls (g : Nat) (cb : Array Value) (fc : WS → Int) (A : Option Addr) (c : Nat) (l : List WS) (w : World)
    (eg : ∀ args w, (callFunc g args).run Tryz.prog w = .ok (.enter g args) w)
    (hr : Kd.C kWS w A l.length l) (hc : l.length ≤ c)
    (hb : ∀ x ∈ l, fc x = 0 → 0 ≤ x.f1 ∧ x.f1 + (x.f2.length : Int) ≤ 4096)
    (hf : ∀ (x : WS) (AD : Option Addr) (cD : Nat) (W : World), x ∈ l → Below w.heap.size w W → Kd.C kSS W AD x.f2.length x.f2 → x.f2.length ≤ cD → Calls Tryz.prog g (#[.agg #[.int .i64 x.f0, .int .i64 x.f1, .slice AD x.f2.length cD]] ++ cb) W (Ret (.int .i64 (fc x)) W)) :
    Calls Tryz.prog 87 #[.slice A l.length c, .func (.func g) #[] cb] w (Ret (.int .i64 (coalG fc none l)) w) := by
  have hmax := Kd.C_max hr
  go_enter Tryz.func87, Tryz.ntmps87
  go_wp2
  go_loopg [11] l.length (fun gg s11 wr => ∃ kk : Nat, kk ≤ l.length ∧ l.length - kk ≤ gg ∧ s11 = .int .i64 kk ∧ Aside0 (Below w.heap.size w wr) ∧ Aside0 (coalG fc (prevW l kk) (l.drop kk) = coalG fc none l) ∧ Aside0 (∀ j, kk = j + 1 → fc (l.getD j z66) = 0))
  case atStart => exact ⟨0, Nat.zero_le _, by omega, rfl, ⟨Below.refl _ w⟩, ⟨rfl⟩, ⟨fun j h => by omega⟩⟩
  case round =>
    obtain ⟨kk, hkk, hgg, rfl, BW, HE, HP⟩ := hrel
    by_cases hlt : kk < l.length
    · obtain ⟨ad, AD, cD, rfl, hw0, hw1, hw2, hcD, hCD⟩ := C_at_wr (C_step hr BW.out) kk hlt
      have hxm : l.getD kk z66 ∈ l := by rw [List.getD_eq_getElem?_getD, List.getElem?_eq_getElem hlt]; exact List.getElem_mem hlt
      have hcall := hf (l.getD kk z66) AD cD (wr.alloc (.cells #[.int .i64 (l.getD kk z66).f0, .int .i64 (l.getD kk z66).f1, .slice AD (l.getD kk z66).f2.length cD] 66)) hxm (below_alloc BW.out _) (Kd.C_alloc hCD _) hcD
      clear hCD
      by_cases hk0 : kk = 0
      · have hd := coalG_drop0 fc l (by omega)
        have HE0 := HE.out
        rw [hk0] at HE0
        rw [HE0] at hd
        have k1 : ((kk : Int) == 0) = true := by simp [hk0]
        have k2 : decide ((kk : Int) = 0) = true := by simp [hk0]
        rw [show l.getD 0 z66 = l.getD kk z66 by rw [hk0]] at hd
        have HD := Aside0.mk hd
        have HQ0 := Aside0.mk (fun (h : fc (l.getD kk z66) = 0) (j : Nat) (e : kk + 1 = j + 1) => (show fc (l.getD j z66) = 0 by have e0 : j = kk := (by omega); subst e0; exact h))
        clear hd hxm hr hf HE0
        replace hk0 := Aside0.mk hk0
        generalize l.getD kk z66 = x at hw0 hw1 hw2 hcD hcall HD HQ0
        by_cases q : fc x = 0
        · rw [q] at hcall
          have HQ := Aside0.mk (HQ0.out q)
          have HD' := Aside0.mk (show coalG fc (prevW l (kk + 1)) (l.drop (kk + 1)) = coalG fc none l by have := HD.out; rw [if_pos q] at this; rw [hk0.out]; exact this.symm)
          clear q HD HQ0
          go_wp2_with (go_at_fn g; refine hcall.mono ?_; rintro e w1 ⟨rfl, h1⟩; have n1 := Aside0.mk h1; clear h1)
          go_roundg (l.length - (kk + 1))
          case measure => omega
          case rel => exact ⟨kk + 1, by omega, by omega, by go_num, ⟨below_then (below_alloc BW.out _) (by have := BW.out.size; simp; omega) n1.out⟩, HD', HQ⟩
        · have HD' := Aside0.mk (show coalG fc none l = fc x by have := HD.out; rw [if_neg q] at this; exact this)
          have q1 : (fc x == 0) = false := by simpa using q
          have q2 : (fc x != 0) = true := by simpa using q
          have q3 : decide (fc x = 0) = false := by simpa using q
          clear q HD HQ0
          obtain ⟨fx, hfx⟩ : ∃ fx, fx = fc x := ⟨_, rfl⟩
          rw [← hfx] at hcall q1 q2 q3 HD'
          clear hfx
          go_wp2_with (go_at_fn g; refine hcall.mono ?_; rintro e w1 ⟨rfl, h1⟩; have n1 := Aside0.mk h1; clear h1)
          go_ret
          exact ⟨by rw [HD'.out]; rfl, below_then (below_alloc BW.out _) (by have := BW.out.size; simp; omega) n1.out⟩
      · have hk : kk = (kk - 1) + 1 := by omega
        have k1 : ((kk : Int) == 0) = false := by simp [hk0]
        have k2 : decide ((kk : Int) = 0) = false := by simp [hk0]
        have hd := coalG_drop fc l (kk - 1) (by omega)
        have HE0 := HE.out
        rw [show coalG fc (prevW l kk) (l.drop kk) = coalG fc (prevW l (kk - 1 + 1)) (l.drop (kk - 1 + 1)) by rw [← hk]] at HE0
        rw [HE0] at hd
        rw [show l.getD (kk - 1 + 1) z66 = l.getD kk z66 by rw [← hk]] at hd
        have HD := Aside0.mk hd
        have HQ0 := Aside0.mk (fun (h : fc (l.getD kk z66) = 0) (j : Nat) (e : kk + 1 = j + 1) => (show fc (l.getD j z66) = 0 by have e0 : j = kk := (by omega); subst e0; exact h))
        obtain ⟨ad', AP, cP, had, hp0, hp1, hp2, hcP, hCP⟩ := C_at_wr (C_step hr BW.out) (kk - 1) (by omega)
        cases had
        have hpb := hb (l.getD (kk - 1) z66) (by rw [List.getD_eq_getElem?_getD, List.getElem?_eq_getElem (by omega : kk - 1 < l.length)]; exact List.getElem_mem _) (HP.out (kk - 1) hk)
        have hixw : wrap64 ((kk : Int) - 1) = (kk : Int) - 1 := w64 (by omega) (by omega)
        have hkl : kk - 1 < l.length := by omega
        have hbd : 1 ≤ (kk : Int) ∧ (kk : Int) - 1 < (l.length : Int) := ⟨by omega, by omega⟩
        have hb1' : 1 ≤ (kk : Int) := hbd.1
        have hb2' : (kk : Int) - 1 < (l.length : Int) := hbd.2
        have hkm : kk - 1 + 2 = kk + 1 := by omega
        clear hd hxm hr hf hCP HP HE0
        replace hk0 := Aside0.mk hk0
        replace hk := Aside0.mk hk
        replace hkm := Aside0.mk hkm
        generalize l.getD kk z66 = x at hw0 hw1 hw2 hcD hcall HD HQ0
        generalize l.getD (kk - 1) z66 = p at hp0 hp1 hp2 hcP HD hpb
        have hpw : wrap64 (p.f1 + (p.f2.length : Int)) = p.f1 + (p.f2.length : Int) := w64 (by omega) (by omega)
        by_cases q : fc x = 0
        · rw [q] at hcall
          have HQ := Aside0.mk (HQ0.out q)
          have HD1 := HD.out
          rw [if_pos q] at HD1
          clear q HD HQ0
          by_cases t1 : x.f0 < p.f0
          · have d1 : decide (x.f0 < p.f0) = true := by simpa using t1
            have HD' := Aside0.mk (show coalG fc none l = 3 by rw [HD1, if_pos (by unfold ordX; rw [d1]; rfl)])
            clear HD1
            go_wp2_with (go_at_fn g; refine hcall.mono ?_; rintro e w1 ⟨rfl, h1⟩; obtain ⟨hbw, hb0, hb1, hlt1⟩ := after_box h1; have hz0 := pw_cell_below hbw hp0; have hz1 := pw_cell_below hbw hp1; have hz2 := pw_cell_below hbw hp2; have hne1 := Nat.ne_of_lt hlt1; have n1 := Aside0.mk hbw; clear h1 hbw)
            go_ret
            exact ⟨by rw [HD'.out]; rfl, below_alloc (below_then BW.out BW.out.size n1.out) _⟩
          · have d1 : decide (x.f0 < p.f0) = false := by simpa using t1
            by_cases t2 : x.f0 = p.f0
            · have d2 : decide (x.f0 = p.f0) = true := by simpa using t2
              have d2' : (x.f0 == p.f0) = true := by simpa using t2
              clear t2
              by_cases t3 : x.f1 ≤ p.f1 + (p.f2.length : Int)
              · have d3 : decide (x.f1 ≤ p.f1 + (p.f2.length : Int)) = true := by simpa using t3
                have HD' := Aside0.mk (show coalG fc none l = 3 by rw [HD1, if_pos (by unfold ordX; rw [d1, d2, d3]; rfl)])
                clear HD1
                go_wp2_with (go_at_fn g; refine hcall.mono ?_; rintro e w1 ⟨rfl, h1⟩; obtain ⟨hbw, hb0, hb1, hlt1⟩ := after_box h1; have hz0 := pw_cell_below hbw hp0; have hz1 := pw_cell_below hbw hp1; have hz2 := pw_cell_below hbw hp2; have hne1 := Nat.ne_of_lt hlt1; have n1 := Aside0.mk hbw; clear h1 hbw)
                go_ret
                exact ⟨by rw [HD'.out]; rfl, below_alloc (below_then BW.out BW.out.size n1.out) _⟩
              · have d3 : decide (x.f1 ≤ p.f1 + (p.f2.length : Int)) = false := by simpa using t3
                have HD' := Aside0.mk (show coalG fc (prevW l (kk + 1)) (l.drop (kk + 1)) = coalG fc none l by rw [← hkm.out, HD1, if_neg (by unfold ordX; rw [d1, d2, d3]; simp)])
                clear HD1
                go_wp2_with (go_at_fn g; refine hcall.mono ?_; rintro e w1 ⟨rfl, h1⟩; obtain ⟨hbw, hb0, hb1, hlt1⟩ := after_box h1; have hz0 := pw_cell_below hbw hp0; have hz1 := pw_cell_below hbw hp1; have hz2 := pw_cell_below hbw hp2; have hne1 := Nat.ne_of_lt hlt1; have n1 := Aside0.mk hbw; clear h1 hbw)
                go_roundg (l.length - (kk + 1))
                case measure => omega
                case rel => exact ⟨kk + 1, by omega, by omega, by go_num, ⟨below_alloc (below_then BW.out BW.out.size n1.out) _⟩, HD', HQ⟩
            · have d2 : decide (x.f0 = p.f0) = false := by simpa using t2
              have d2' : (x.f0 == p.f0) = false := by simpa using t2
              clear t2
              have HD' := Aside0.mk (show coalG fc (prevW l (kk + 1)) (l.drop (kk + 1)) = coalG fc none l by rw [← hkm.out, HD1, if_neg (by unfold ordX; rw [d1, d2]; simp)])
              clear HD1
              go_wp2_with (go_at_fn g; refine hcall.mono ?_; rintro e w1 ⟨rfl, h1⟩; obtain ⟨hbw, hb0, hb1, hlt1⟩ := after_box h1; have hz0 := pw_cell_below hbw hp0; have hz1 := pw_cell_below hbw hp1; have hz2 := pw_cell_below hbw hp2; have hne1 := Nat.ne_of_lt hlt1; have n1 := Aside0.mk hbw; clear h1 hbw)
              go_roundg (l.length - (kk + 1))
              case measure => omega
              case rel => exact ⟨kk + 1, by omega, by omega, by go_num, ⟨below_alloc (below_then BW.out BW.out.size n1.out) _⟩, HD', HQ⟩
        · have HD' := Aside0.mk (show coalG fc none l = fc x by have := HD.out; rw [if_neg q] at this; exact this)
          have q1 : (fc x == 0) = false := by simpa using q
          have q2 : (fc x != 0) = true := by simpa using q
          have q3 : decide (fc x = 0) = false := by simpa using q
          clear q HD HQ0
          obtain ⟨fx, hfx⟩ : ∃ fx, fx = fc x := ⟨_, rfl⟩
          rw [← hfx] at hcall q1 q2 q3 HD'
          clear hfx
          go_wp2_with (go_at_fn g; refine hcall.mono ?_; rintro e w1 ⟨rfl, h1⟩; have n1 := Aside0.mk h1; clear h1)
          go_ret
          exact ⟨by rw [HD'.out]; rfl, below_then (below_alloc BW.out _) (by have := BW.out.size; simp; omega) n1.out⟩
    · have hk : kk = l.length := by omega
      have h := HE.out
      rw [hk, List.drop_length] at h
      have h0 : coalG fc none l = 0 := by rw [← h]; cases prevW l l.length <;> rfl
      have H0 := Aside0.mk h0
      clear HE HP hr hf h h0
      subst hk
      go_wp2
      go_ret
      exact ⟨by rw [H0.out]; rfl, BW.out⟩
end Go.Proofs.YtdplnbmioioniaaGreat.Pq
end
section
namespace Go.Proofs.YtdplnbmioioniaaGreat.Pq
open Go.RowKit Go.Shelf Go.Proofs.YtdplnbmioioniaaGreatW.PrintWords Go.Proofs.YtdplnbmioioniaaGreatW.PrintLast Go.Proofs.YtdplnbmioioniaaGreatW.PrintMore
set_option linter.unusedVariables false
set_option linter.unusedSimpArgs false
set_option maxHeartbeats 2000000
set_option maxRecDepth 100000
theorem coalesce_Check_1.calls (x : WS) (AD : Option Addr) (cD : Nat) (W : World) (Bi : Nat) (AI : Option Addr) (cI : Nat) (im : Img)
    (hb : W.cell? ⟨Bi, 0, none⟩ = some (.slice AI im.length cI)) (him : Kd.C kImg W AI im.length im) (hcI : im.length ≤ cI) (hD : Kd.C kSS W AD x.f2.length x.f2) (hcD : x.f2.length ≤ cD) (h1 : im.length ≤ 1048576) (h2 : x.f2.length ≤ 1048576) :
    Calls Tryz.prog 88 #[.agg #[.int .i64 x.f0, .int .i64 x.f1, .slice AD x.f2.length cD], .pointer (some ⟨Bi, 0, none⟩)] W (Ret (.int .i64 (fitsF im x)) W) := by
  have hfit := image_Fits.calls AI cI im x.f0 x.f1 AD cD x.f2 (fitsF im x) (W.alloc (.cells #[.int .i64 x.f0, .int .i64 x.f1, .slice AD x.f2.length cD] 66)) (Kd.C_alloc him _) hcI (Kd.C_alloc hD _) hcD (by unfold image_Fits.f; rw [if_pos ⟨h1, h2⟩])
  have hlt := World.block_lt_of_cell? _ _ hb
  have hlt' : Bi < W.heap.size := hlt
  have hne := Nat.ne_of_lt hlt'
  have hb2 : (W.alloc (.cells #[.int .i64 x.f0, .int .i64 x.f1, .slice AD x.f2.length cD] 66)).cell? ⟨Bi, 0, none⟩ = some (.slice AI im.length cI) := ((below_alloc (Below.refl W.heap.size W) _).cell hlt).trans hb
  clear him hD h1 h2 hlt
  generalize fitsF im x = fx at hfit
  go_enter Tryz.func88, Tryz.ntmps88
  go_wp2_with (go_at_call 89; refine hfit.mono ?_; rintro e w1 ⟨rfl, h1⟩; have n1 := Aside0.mk (below_then (below_alloc (Below.refl W.heap.size W) (.cells #[.int .i64 x.f0, .int .i64 x.f1, .slice AD x.f2.length cD] 66)) (by simp) h1); clear h1)
  go_ret
  exact ⟨rfl, n1.out⟩
theorem lens_zero (sz : List Int) (h : ∀ n ∈ sz, 1 ≤ n ∧ n ≤ 4096) : lens (sz.map zRow) = sz := by
  unfold lens
  rw [List.map_map]
  have : ∀ n ∈ sz, ((fun v : Vol => (v.length : Int)) ∘ zRow) n = n := fun n hn => by
    have := h n hn
    show ((List.replicate n.toNat z59).length : Int) = n
    rw [List.length_replicate]; omega
  rw [List.map_congr_left this, List.map_id']
def coalX (l : List WS) (sz : List Int) : Int := if sizesErr sz = 0 then coalG (fitsF (sz.map zRow)) none l else sizesErr sz
def coalesce_Check.f (l0 : List WS) (l1 : List Int) : Option Int := if ∀ w ∈ l0, w.f2.length ≤ 1048576 then some (coalX l0 l1) else none
theorem coalesce_Check.calls (A0 : Option Addr) (c0 : Nat) (l0 : List WS) (A1 : Option Addr) (c1 : Nat) (l1 : List Int) (r : Int) (w : World) (hr0 : Kd.C kWS w A0 l0.length l0) (hc0 : l0.length ≤ c0) (hr1 : Kd.C (Kd.int .i64) w A1 l1.length l1) (hc1 : l1.length ≤ c1) (h : coalesce_Check.f l0 l1 = some r) :
    Calls Tryz.prog 64 #[.slice A0 l0.length c0, .slice A1 l1.length c1] w fun e w' => e = .returned (.int .i64 r) ∧ Below w.heap.size w w' := by
  unfold coalesce_Check.f at h
  by_cases hnk : ¬ (∀ w ∈ l0, w.f2.length ≤ 1048576)
  · rw [if_neg hnk] at h; cases h
  have hok := Decidable.not_not.1 hnk
  rw [if_pos hok] at h
  clear hnk
  unfold coalX at h
  have hnew := image_New.calls A1 c1 l1 (newX l1).1 (newX l1).2 w hr1 hc1 (by unfold image_New.f; rfl)
  unfold newX at hnew
  by_cases hs : sizesErr l1 = 0
  · rw [if_pos hs] at h hnew
    dsimp only at hnew
    obtain ⟨s1, s2, s3⟩ := sizes_mem hs
    have hlz := lens_zero l1 s3
    have hlen : (l1.map zRow).length ≤ 1048576 := by rw [List.length_map]; omega
    have hsz : sizesErr (lens (l1.map zRow)) = 0 := by rw [hlz]; exact hs
    have hchk := fun (W : World) (AI : Option Addr) (cI Bi : Nat) (hW : Below w.heap.size w W) (hbx : W.cell? ⟨Bi, 0, none⟩ = some (.slice AI (l1.map zRow).length cI)) (hCI : Kd.C kImg W AI (l1.map zRow).length (l1.map zRow)) (hcI : (l1.map zRow).length ≤ cI) =>
      coalesce_check.calls 88 #[.pointer (some ⟨Bi, 0, none⟩)] (fitsF (l1.map zRow)) A0 c0 l0 W (enters_of Tryz.func88 (by kernel_rfl) rfl) (C_step hr0 hW) hc0
        (fun x _ hx => by
          unfold fitsF at hx
          rw [if_pos hsz] at hx
          obtain ⟨a0, a1, a2, a3, a4⟩ := fitsC_zero hx
          have := sizes_le hsz x.f0.toNat (by omega)
          exact ⟨a3, by omega⟩)
        (fun x AD cD W2 hxm hW2 hD hcD => coalesce_Check_1.calls x AD cD W2 Bi AI cI (l1.map zRow) ((hW2.cell (World.block_lt_of_cell? _ _ hbx)).trans hbx) (C_step hCI hW2) hcI hD hcD hlen (hok x hxm))
    have HL := Aside0.mk hlen
    simp only [Option.some.injEq] at h
    clear hs hr0 hr1 hok s1 s2 s3 hlz hsz hlen
    generalize l1.map zRow = im at hnew hchk HL h
    rw [h] at hchk
    clear h
    go_enter Tryz.func64, Tryz.ntmps64
    go_wp2_with (first | (go_at_call 61; refine hnew.mono ?_; rintro e w1 ⟨v, rfl, h1, h2⟩; obtain ⟨AI, cI, rfl, hcI, hCI⟩ := Kd.S_reads h1; have n1 := Aside0.mk hCI; have n2 := Aside0.mk h2; have n0 := Aside0.mk hcI; clear h1 h2 hCI hcI) | (go_at_call 87; have hcell : (w1.alloc (.cells #[.slice AI im.length cI] 23)).cell? ⟨w1.heap.size, 0, none⟩ = some (.slice AI im.length cI) := (blk_cell (heap_alloc_new w1 _) 0).trans rfl; refine (hchk _ AI cI w1.heap.size (below_alloc n2.out _) hcell (Kd.C_alloc n1.out _) n0.out).mono ?_; rintro e w2 ⟨rfl, h3⟩; have n3 := Aside0.mk (below_then (below_alloc n2.out _) (by have := n2.out.size; simp; omega) h3); clear h3))
    go_ret
    exact ⟨rfl, n3.out⟩
  · rw [if_neg hs] at h hnew
    dsimp only at hnew
    have q1 : (sizesErr l1 == 0) = false := by simpa using hs
    have q2 : (sizesErr l1 != 0) = true := by simpa using hs
    have q3 : decide (sizesErr l1 = 0) = false := by simpa using hs
    simp only [Option.some.injEq] at h
    subst h
    clear hs hr0 hr1 hok
    generalize sizesErr l1 = fx at hnew q1 q2 q3
    go_enter Tryz.func64, Tryz.ntmps64
    go_wp2_with (go_at_call 61; refine hnew.mono ?_; rintro e w1 ⟨v, rfl, h1, h2⟩; obtain ⟨AI, cI, rfl⟩ := Kd.S_slice h1; have n2 := Aside0.mk h2; clear h1 h2)
    go_ret
    exact ⟨rfl, below_alloc n2.out _⟩
end Go.Proofs.YtdplnbmioioniaaGreat.Pq
end
section
namespace Go.Proofs.YtdplnbmioioniaaGreat.Pq
open Go.RowKit Go.Proofs.YtdplnbmioioniaaGreatW.PrintWords Go.Proofs.YtdplnbmioioniaaGreatW.PrintLast Go.Proofs.YtdplnbmioioniaaGreatW.PrintMore
attribute [local go_sem] max2_int min2_int max_two min_two max_three min_three max_four min_four
set_option linter.unusedVariables false
set_option linter.unusedSimpArgs false
attribute [local go_sem high] eqA59
def cycle_in.f (a0 : Int) (a1 : Int) (a2 : Int) : Option (Bool) := if a0 ≥ a1 then (some (decide (a0 ≤ a2))) else (some false)
set_option maxHeartbeats 8000000 in
set_option maxRecDepth 100000 in
theorem cycle_in.calls (a0 : Int) (a1 : Int) (a2 : Int) (r : Bool) (w : World) (h : cycle_in.f a0 a1 a2 = some r) :
    Calls Tryz.prog 62 #[.int .i64 a0, .int .i64 a1, .int .i64 a2] w fun e w' => e = .returned (.bool r) ∧ Drawn0 w w' := by
  have H : (if a0 ≥ a1 then (some (decide (a0 ≤ a2))) else (some false)) = some r := h
  clear h
  by_cases c4 : a0 ≥ a1
  · rw [if_pos c4] at H
    have c4b0 : decide (a1 ≤ a0) = true := decide_eq_true c4
    clear c4
    obtain rfl := Option.some.inj H
    go_enter Tryz.func62, Tryz.ntmps62
    go_wp2
    go_ret
    exact ⟨by first | rfl | (simp; done) | (simp [*]; done), by repeat (first | exact Drawn0.refl _ | apply Drawn0.step)⟩
  · rw [if_neg c4] at H
    have c4b0 : decide (a1 ≤ a0) = false := decide_eq_false c4
    clear c4
    obtain rfl := Option.some.inj H
    go_enter Tryz.func62, Tryz.ntmps62
    go_wp2
    go_ret
    exact ⟨by first | rfl | (simp; done) | (simp [*]; done), by repeat (first | exact Drawn0.refl _ | apply Drawn0.step)⟩
def cycle_Check.j0 : Nat → List Int → Bool → Int → Int → Int → List Int → List (S66) → Option (Int)
  | 0, _, _, _, _, _, _, _ => none
  | k + 1, x1, x16, x133000, x133001, x133002, x133003, x133004 => if x16 = true then (some 2) else ((cycle_in.f x133002 0 1073741824).bind fun t137 => (if t137 = true then ((cycle_positions.f x133003 0).bind fun t138 => (if t138 = 0 then ((coalesce_Check.f x133004 x1).bind fun t139 => (some t139)) else (some t138))) else (some 24)))
def cycle_Check.f (k : Nat) (a0_0 : Int) (a0_1 : Int) (a0_2 : Int) (l0_3 : List Int) (l0_4 : List (S66)) (l1 : List Int) : Option (Int) := (image_New.f l1).bind fun bt133 => (if bt133.2 = 0 then (if a0_0 < 0 then (cycle_Check.j0 k l1 true a0_0 a0_1 a0_2 l0_3 l0_4) else (if a0_1 ≤ a0_0 then (cycle_Check.j0 k l1 true a0_0 a0_1 a0_2 l0_3 l0_4) else (cycle_Check.j0 k l1 (decide (a0_1 > 1073741824)) a0_0 a0_1 a0_2 l0_3 l0_4))) else (some bt133.2))
theorem cycle_Check.mono_l : ∀ k, (∀ y0 y1 y2 y3 y4 y5 y6, LeO (cycle_Check.j0 k y0 y1 y2 y3 y4 y5 y6) (cycle_Check.j0 (k + 1) y0 y1 y2 y3 y4 y5 y6))
  | 0 => fun _ _ _ _ _ _ _ r h => by simp [cycle_Check.j0] at h
  | k + 1 => by
    have ih0 := cycle_Check.mono_l k
    · intro y0 y1 y2 y3 y4 y5 y6
      unfold cycle_Check.j0
      repeat' first
      | (with_reducible exact ih0 _ _ _ _ _ _ _)
      | (with_reducible exact LeO.refl _)
      | (with_reducible exact LeO.none _)
      | (with_reducible refine LeO.ite ?_ ?_)
      | (with_reducible refine LeO.bind ?_ (fun _ => ?_))
      | exact ih0 _ _ _ _ _ _ _
      | exact LeO.none _
      | refine LeO.ite ?_ ?_
      | refine LeO.bind ?_ (fun _ => ?_)
theorem cycle_Check.mono : ∀ a0 a1 a2 a3 a4 a5 k, LeO (cycle_Check.f k a0 a1 a2 a3 a4 a5) (cycle_Check.f (k + 1) a0 a1 a2 a3 a4 a5) := by
  intro a0 a1 a2 a3 a4 a5 k
  have ih0 := cycle_Check.mono_l k
  unfold cycle_Check.f
  repeat' first
      | (with_reducible exact ih0 _ _ _ _ _ _ _)
      | (with_reducible exact LeO.refl _)
      | (with_reducible exact LeO.none _)
      | (with_reducible refine LeO.ite ?_ ?_)
      | (with_reducible refine LeO.bind ?_ (fun _ => ?_))
      | exact ih0 _ _ _ _ _ _ _
      | exact LeO.none _
      | refine LeO.ite ?_ ?_
      | refine LeO.bind ?_ (fun _ => ?_)
set_option maxHeartbeats 8000000 in
set_option maxRecDepth 100000 in
theorem cycle_Check.calls (k : Nat) (a0_0 : Int) (a0_1 : Int) (a0_2 : Int) (A0_3 : Option Addr) (c0_3 : Nat) (l0_3 : List Int) (A0_4 : Option Addr) (c0_4 : Nat) (l0_4 : List (S66)) (A1 : Option Addr) (c1 : Nat) (l1 : List Int) (r : Int) (w : World) (hr0_3 : Kd.C (Kd.int .i64) w A0_3 l0_3.length l0_3) (hc0_3 : l0_3.length ≤ c0_3) (hr0_4 : Kd.C k66 w A0_4 l0_4.length l0_4) (hc0_4 : l0_4.length ≤ c0_4) (hr1 : Kd.C (Kd.int .i64) w A1 l1.length l1) (hc1 : l1.length ≤ c1) (h : cycle_Check.f k a0_0 a0_1 a0_2 l0_3 l0_4 l1 = some r) :
    Calls Tryz.prog 33 #[.agg #[.int .i64 a0_0, .int .i64 a0_1, .int .i64 a0_2, .slice A0_3 l0_3.length c0_3, .slice A0_4 l0_4.length c0_4], .slice A1 l1.length c1] w fun e w' => e = .returned (.int .i64 r) ∧ Below w.heap.size w w' := by
  have hu38 := Tryz.underlying38
  have HR0_3 := Aside0.mk hr0_3
  have HC0_3 := Aside0.mk hc0_3
  clear hr0_3 hc0_3
  have HR0_4 := Aside0.mk hr0_4
  have HC0_4 := Aside0.mk hc0_4
  clear hr0_4 hc0_4
  have HR1 := Aside0.mk hr1
  have HC1 := Aside0.mk hc1
  clear hr1 hc1
  have HB := Aside0.mk (Below.refl w.heap.size w)
  have H : ((image_New.f l1).bind fun bt133 => (if bt133.2 = 0 then (if a0_0 < 0 then (cycle_Check.j0 k l1 true a0_0 a0_1 a0_2 l0_3 l0_4) else (if a0_1 ≤ a0_0 then (cycle_Check.j0 k l1 true a0_0 a0_1 a0_2 l0_3 l0_4) else (cycle_Check.j0 k l1 (decide (a0_1 > 1073741824)) a0_0 a0_1 a0_2 l0_3 l0_4))) else (some bt133.2))) = some r := h
  clear h
  replace H := Option.bind_eq_some_iff.mp H
  obtain ⟨⟨t133, t134⟩, A30, H⟩ := H
  replace H : (if t134 = 0 then (if a0_0 < 0 then (cycle_Check.j0 k l1 true a0_0 a0_1 a0_2 l0_3 l0_4) else (if a0_1 ≤ a0_0 then (cycle_Check.j0 k l1 true a0_0 a0_1 a0_2 l0_3 l0_4) else (cycle_Check.j0 k l1 (decide (a0_1 > 1073741824)) a0_0 a0_1 a0_2 l0_3 l0_4))) else (some t134)) = some r := H
  have A3 := Aside0.mk A30
  clear A30
  by_cases c4 : t134 = 0
  · rw [if_pos c4] at H
    have c4b0 : (t134 == 0) = true := beq_iff_eq.mpr c4
    have c4b1 : (t134 != 0) = false := bne_eq_false_iff_eq.mpr c4
    clear c4
    have HC5 := Aside0.mk H
    clear H
    go_enter Tryz.func33, Tryz.ntmps33
    go_upto_region 4 with (first | ((with_reducible refine gate_dst (N := 2) rfl ?_); refine box_event ?hg (N := 2) ?hd (cs := #[.int .i64 a0_0, .int .i64 a0_1, .int .i64 a0_2, .slice A0_3 l0_3.length c0_3, .slice A0_4 l0_4.length c0_4]) (t := 38) ?hr ?_; (case hd => rfl); (case hg => rfl); (case hr => first | (go_simp; done) | (go_simp; rfl)); intro gb132 hg w6 hbox hb; have BK132 := Aside0.mk (hbox); have GW132 := Aside0.mk (zg hg HB); have GE132 := Aside0.mk (zg hg HB); replace HB := Aside0.mk (below_step (zb HB) hb); clear hb hbox hg) | ((with_reducible refine gate_callee (f := 61) rfl ?_); refine zG (some 10) Tryz.func61 #[.slice A1 l1.length c1] ?_; (with_reducible refine (image_New.calls _ _ l1 t133 t134 _ ?side1 ?side2 A3.out).mono ?_); (case side1 => exact zc HR1 HB); (case side2 => exact HC1.out); rintro e w7 ⟨v135, rfl, ho0, hb⟩; refine ⟨_, rfl, ?_⟩; have HO136 := Aside0.mk (Kd.S_lower ho0 (below_size (zb HB))); replace BK132 := Aside0.mk (blk_below (zk BK132) hb); replace HB := Aside0.mk (below_step (zb HB) hb); clear hb ho0))
    (try simp only [Act.put, List.setIfInBounds_toArray, List.set_cons_zero, List.set_cons_succ])
    go_cut [16] (fun v16 wc => ∃ (kq : Nat) (x16_4 : Bool), v16 = .bool x16_4 ∧ Aside0 (cycle_Check.j0 kq l1 x16_4 a0_0 a0_1 a0_2 l0_3 l0_4 = some r) ∧ Aside0 (kq ≤ k) ∧ Aside0 (wc.heap[gb132]? = some (.cells #[.int .i64 a0_0, .int .i64 a0_1, .int .i64 a0_2, (.slice A0_3 l0_3.length c0_3), (.slice A0_4 l0_4.length c0_4)] 38 (0, 0))) ∧ Aside0 (Below w.heap.size w wc))
    case first =>
      have H := HC5.out
      clear HC5
      by_cases c8 : a0_0 < 0
      · rw [if_pos c8] at H
        have c8b0 : decide (a0_0 < 0) = true := decide_eq_true c8
        clear c8
        (first | rw [c8b0] | (simp only [i64_w, i32_w]; rw [c8b0]) | skip)
        have H' := Aside0.mk H
        clear H
        obtain ⟨⟨hcz9_0, hcz9_1, hcz9_2, hcz9_3, hcz9_4⟩, hfz9_0, hfz9_1, hfz9_2, hfz9_3, hfz9_4⟩ := zc5 BK132
        go_wp2
        go_meet
        case rel => exact ⟨_, (true), (by first | rfl | (simp; done) | (simp [*]; done)), H', ⟨by first | omega | exact Nat.le_refl _⟩, ⟨by (with_reducible repeat (first | refine blk_drewN ?_ _ | refine blk_drew ?_ | refine blk_alloc ?_ _)); exact BK132.out⟩, ⟨zb HB⟩⟩
      · rw [if_neg c8] at H
        have c8b0 : decide (a0_0 < 0) = false := decide_eq_false c8
        clear c8
        (first | rw [c8b0] | (simp only [i64_w, i32_w]; rw [c8b0]) | skip)
        by_cases c10 : a0_1 ≤ a0_0
        · rw [if_pos c10] at H
          have c10b0 : decide (a0_1 ≤ a0_0) = true := decide_eq_true c10
          clear c10
          have H' := Aside0.mk H
          clear H
          obtain ⟨⟨hcz11_0, hcz11_1, hcz11_2, hcz11_3, hcz11_4⟩, hfz11_0, hfz11_1, hfz11_2, hfz11_3, hfz11_4⟩ := zc5 BK132
          go_wp2
          go_meet
          case rel => exact ⟨_, (true), (by first | rfl | (simp; done) | (simp [*]; done)), H', ⟨by first | omega | exact Nat.le_refl _⟩, ⟨by (with_reducible repeat (first | refine blk_drewN ?_ _ | refine blk_drew ?_ | refine blk_alloc ?_ _)); exact BK132.out⟩, ⟨zb HB⟩⟩
        · rw [if_neg c10] at H
          have c10b0 : decide (a0_1 ≤ a0_0) = false := decide_eq_false c10
          clear c10
          have H' := Aside0.mk H
          clear H
          obtain ⟨⟨hcz12_0, hcz12_1, hcz12_2, hcz12_3, hcz12_4⟩, hfz12_0, hfz12_1, hfz12_2, hfz12_3, hfz12_4⟩ := zc5 BK132
          go_wp2
          go_meet
          case rel => exact ⟨_, (decide (a0_1 > 1073741824)), (by first | rfl | (simp; done) | (simp [*]; done)), H', ⟨by first | omega | exact Nat.le_refl _⟩, ⟨by (with_reducible repeat (first | refine blk_drewN ?_ _ | refine blk_drew ?_ | refine blk_alloc ?_ _)); exact BK132.out⟩, ⟨zb HB⟩⟩
    case rest =>
      clear HC5
      try clear c1
      try clear p2
      try clear c3
      try clear c4
      try clear c4b0
      try clear c4b1
      try clear c6
      try clear c8
      try clear c8b0
      try clear c10
      try clear c10b0
      try clear hcz11_0
      try clear hcz11_1
      try clear hcz11_2
      try clear hcz11_3
      try clear hcz11_4
      try clear hcz12_0
      try clear hcz12_1
      try clear hcz12_2
      try clear hcz12_3
      try clear hcz12_4
      try clear hcz9_0
      try clear hcz9_1
      try clear hcz9_2
      try clear hcz9_3
      try clear hcz9_4
      try clear hfz11_0
      try clear hfz11_1
      try clear hfz11_2
      try clear hfz11_3
      try clear hfz11_4
      try clear hfz12_0
      try clear hfz12_1
      try clear hfz12_2
      try clear hfz12_3
      try clear hfz12_4
      try clear hfz9_0
      try clear hfz9_1
      try clear hfz9_2
      try clear hfz9_3
      try clear hfz9_4
      obtain ⟨kq, x16_4, rfl, HA, HJ4, BK132, HB⟩ := hcut
      cases kq with
      | zero => exact absurd HA.out (by simp [cycle_Check.j0])
      | succ kj4 =>
        have H := HA.out
        clear HA
        simp only [cycle_Check.j0] at H
        by_cases c13 : x16_4 = true
        · subst c13
          have H1 : (some 2) = some r := by rw [if_pos rfl] at H; exact H
          clear H
          have H := H1
          clear H1
          obtain rfl := Option.some.inj H
          go_wp2
          go_ret
          exact ⟨by first | rfl | (simp [errW_none, errW_some] <;> rfl) | (simp [*, errW_none, errW_some] <;> rfl), zb HB⟩
        · replace c13 := Bool.eq_false_iff.mpr c13
          subst c13
          have H1 : ((cycle_in.f a0_2 0 1073741824).bind fun t137 => (if t137 = true then ((cycle_positions.f l0_3 0).bind fun t138 => (if t138 = 0 then ((coalesce_Check.f l0_4 l1).bind fun t139 => (some t139)) else (some t138))) else (some 24))) = some r := by rw [if_neg (show ¬ (false = true) by decide)] at H; exact H
          clear H
          have H := H1
          clear H1
          replace H := Option.bind_eq_some_iff.mp H
          obtain ⟨t137, A140, H⟩ := H
          replace H : (if t137 = true then ((cycle_positions.f l0_3 0).bind fun t138 => (if t138 = 0 then ((coalesce_Check.f l0_4 l1).bind fun t139 => (some t139)) else (some t138))) else (some 24)) = some r := H
          have A14 := Aside0.mk A140
          clear A140
          by_cases c15 : t137 = true
          · subst c15
            have H1 : ((cycle_positions.f l0_3 0).bind fun t138 => (if t138 = 0 then ((coalesce_Check.f l0_4 l1).bind fun t139 => (some t139)) else (some t138))) = some r := by rw [if_pos rfl] at H; exact H
            clear H
            have H := H1
            clear H1
            replace H := Option.bind_eq_some_iff.mp H
            obtain ⟨t138, A160, H⟩ := H
            replace H : (if t138 = 0 then ((coalesce_Check.f l0_4 l1).bind fun t139 => (some t139)) else (some t138)) = some r := H
            have A16 := Aside0.mk A160
            clear A160
            by_cases c17 : t138 = 0
            · rw [if_pos c17] at H
              have c17b0 : (t138 == 0) = true := beq_iff_eq.mpr c17
              have c17b1 : (t138 != 0) = false := bne_eq_false_iff_eq.mpr c17
              clear c17
              replace H := Option.bind_eq_some_iff.mp H
              obtain ⟨t139, A180, H⟩ := H
              replace H : (some t139) = some r := H
              have A18 := Aside0.mk A180
              clear A180
              obtain rfl := Option.some.inj H
              obtain ⟨⟨hcz19_0, hcz19_1, hcz19_2, hcz19_3, hcz19_4⟩, hfz19_0, hfz19_1, hfz19_2, hfz19_3, hfz19_4⟩ := zc5 BK132
              go_wp2_with (first | ((with_reducible refine gate_callee (f := 62) rfl ?_); refine zG (some 35) Tryz.func62 #[.int .i64 a0_2, .int .i64 0, .int .i64 1073741824] ?_; (with_reducible refine (cycle_in.calls a0_2 0 1073741824 true _ A14.out).mono ?_); rintro e w' ⟨rfl, ⟨nd, rfl⟩⟩; refine ⟨_, rfl, ?_⟩) | ((with_reducible refine gate_callee (f := 63) rfl ?_); refine zG (some 39) Tryz.func63 #[.slice A0_3 l0_3.length c0_3, .int .i64 0] ?_; (with_reducible refine (cycle_positions.calls _ _ l0_3 0 t138 _ ?side1 ?side2 A16.out).mono ?_); (case side1 => repeat (first | exact (zc HR0_3 HB) | (with_reducible refine Kd.C_alloc ?_ _) | (with_reducible refine Kd.C_drewN ?_ _) | (with_reducible refine Kd.C_drew ?_))); (case side2 => exact HC0_3.out); rintro e w20 ⟨rfl, hb⟩; refine ⟨_, rfl, ?_⟩; replace BK132 := Aside0.mk (blk_below (zk BK132) hb); replace HB := Aside0.mk (below_step (zb HB) hb); clear hb; obtain ⟨⟨hcz21_0, hcz21_1, hcz21_2, hcz21_3, hcz21_4⟩, hfz21_0, hfz21_1, hfz21_2, hfz21_3, hfz21_4⟩ := zc5 BK132) | ((with_reducible refine gate_callee (f := 64) rfl ?_); refine zG (some 46) Tryz.func64 #[.slice A0_4 l0_4.length c0_4, .slice A1 l1.length c1] ?_; (with_reducible refine (coalesce_Check.calls _ _ l0_4 _ _ l1 t139 _ ?side1 ?side2 ?side3 ?side4 A18.out).mono ?_); (case side1 => exact zc HR0_4 HB); (case side2 => exact HC0_4.out); (case side3 => exact zc HR1 HB); (case side4 => exact HC1.out); rintro e w22 ⟨rfl, hb⟩; refine ⟨_, rfl, ?_⟩; replace BK132 := Aside0.mk (blk_below (zk BK132) hb); replace HB := Aside0.mk (below_step (zb HB) hb); clear hb))
              go_ret
              exact ⟨by first | rfl | (simp [errW_none, errW_some] <;> rfl) | (simp [*, errW_none, errW_some] <;> rfl), zb HB⟩
            · rw [if_neg c17] at H
              have c17b0 : (t138 == 0) = false := beq_eq_false_iff_ne.mpr c17
              have c17b1 : (t138 != 0) = true := bne_iff_ne.mpr c17
              obtain rfl := Option.some.inj H
              obtain ⟨⟨hcz23_0, hcz23_1, hcz23_2, hcz23_3, hcz23_4⟩, hfz23_0, hfz23_1, hfz23_2, hfz23_3, hfz23_4⟩ := zc5 BK132
              go_wp2_with (first | ((with_reducible refine gate_callee (f := 62) rfl ?_); refine zG (some 35) Tryz.func62 #[.int .i64 a0_2, .int .i64 0, .int .i64 1073741824] ?_; (with_reducible refine (cycle_in.calls a0_2 0 1073741824 true _ A14.out).mono ?_); rintro e w' ⟨rfl, ⟨nd, rfl⟩⟩; refine ⟨_, rfl, ?_⟩) | ((with_reducible refine gate_callee (f := 63) rfl ?_); refine zG (some 39) Tryz.func63 #[.slice A0_3 l0_3.length c0_3, .int .i64 0] ?_; (with_reducible refine (cycle_positions.calls _ _ l0_3 0 t138 _ ?side1 ?side2 A16.out).mono ?_); (case side1 => repeat (first | exact (zc HR0_3 HB) | (with_reducible refine Kd.C_alloc ?_ _) | (with_reducible refine Kd.C_drewN ?_ _) | (with_reducible refine Kd.C_drew ?_))); (case side2 => exact HC0_3.out); rintro e w24 ⟨rfl, hb⟩; refine ⟨_, rfl, ?_⟩; replace BK132 := Aside0.mk (blk_below (zk BK132) hb); replace HB := Aside0.mk (below_step (zb HB) hb); clear hb))
              go_ret
              exact ⟨by first | rfl | (simp [errW_none, errW_some] <;> rfl) | (simp [*, errW_none, errW_some] <;> rfl), zb HB⟩
          · replace c15 := Bool.eq_false_iff.mpr c15
            subst c15
            have H1 : (some 24) = some r := by rw [if_neg (show ¬ (false = true) by decide)] at H; exact H
            clear H
            have H := H1
            clear H1
            obtain rfl := Option.some.inj H
            obtain ⟨⟨hcz25_0, hcz25_1, hcz25_2, hcz25_3, hcz25_4⟩, hfz25_0, hfz25_1, hfz25_2, hfz25_3, hfz25_4⟩ := zc5 BK132
            go_wp2_with (first | ((with_reducible refine gate_callee (f := 62) rfl ?_); refine zG (some 35) Tryz.func62 #[.int .i64 a0_2, .int .i64 0, .int .i64 1073741824] ?_; (with_reducible refine (cycle_in.calls a0_2 0 1073741824 false _ A14.out).mono ?_); rintro e w' ⟨rfl, ⟨nd, rfl⟩⟩; refine ⟨_, rfl, ?_⟩))
            go_ret
            exact ⟨by first | rfl | (simp [errW_none, errW_some] <;> rfl) | (simp [*, errW_none, errW_some] <;> rfl), zb HB⟩
  · rw [if_neg c4] at H
    have c4b0 : (t134 == 0) = false := beq_eq_false_iff_ne.mpr c4
    have c4b1 : (t134 != 0) = true := bne_iff_ne.mpr c4
    obtain rfl := Option.some.inj H
    go_enter Tryz.func33, Tryz.ntmps33
    go_wp2_with (first | ((with_reducible refine gate_dst (N := 2) rfl ?_); refine box_event ?hg (N := 2) ?hd (cs := #[.int .i64 a0_0, .int .i64 a0_1, .int .i64 a0_2, .slice A0_3 l0_3.length c0_3, .slice A0_4 l0_4.length c0_4]) (t := 38) ?hr ?_; (case hd => rfl); (case hg => rfl); (case hr => first | (go_simp; done) | (go_simp; rfl)); intro gb132 hg w26 hbox hb; have BK132 := Aside0.mk (hbox); have GW132 := Aside0.mk (zg hg HB); have GE132 := Aside0.mk (zg hg HB); replace HB := Aside0.mk (below_step (zb HB) hb); clear hb hbox hg) | ((with_reducible refine gate_callee (f := 61) rfl ?_); refine zG (some 10) Tryz.func61 #[.slice A1 l1.length c1] ?_; (with_reducible refine (image_New.calls _ _ l1 t133 t134 _ ?side1 ?side2 A3.out).mono ?_); (case side1 => exact zc HR1 HB); (case side2 => exact HC1.out); rintro e w27 ⟨v135, rfl, ho0, hb⟩; refine ⟨_, rfl, ?_⟩; have HO136 := Aside0.mk (Kd.S_lower ho0 (below_size (zb HB))); replace BK132 := Aside0.mk (blk_below (zk BK132) hb); replace HB := Aside0.mk (below_step (zb HB) hb); clear hb ho0))
    go_ret
    exact ⟨by first | rfl | (simp [errW_none, errW_some] <;> rfl) | (simp [*, errW_none, errW_some] <;> rfl), zb HB⟩
def standbyref07_FitsSizes.j0 : Nat → List Int → Bool → Int → Int → List (S59) → Option (Int)
  | 0, _, _, _, _, _ => none
  | k + 1, x0, x14, x141000, x141001, x141002 => if x14 = true then (some 7) else (if (x141002.length : Int) = 0 then (some 1) else (if x141001 < 0 then (some 2) else (if 0 ≤ x141000 then (if x141000 < (x0.length : Int) then (if x141001 ≥ (rd x0 x141000) then (some 2) else (if (x141002.length : Int) > (wrap64 ((rd x0 x141000) - x141001)) then (some 2) else (some 0))) else (none)) else (none))))
def standbyref07_FitsSizes.f (k : Nat) (l0 : List Int) (a1_0 : Int) (a1_1 : Int) (l1_2 : List (S59)) : Option (Int) := if a1_0 < 0 then (standbyref07_FitsSizes.j0 k l0 true a1_0 a1_1 l1_2) else (standbyref07_FitsSizes.j0 k l0 (decide (a1_0 ≥ (l0.length : Int))) a1_0 a1_1 l1_2)
set_option maxHeartbeats 8000000 in
set_option maxRecDepth 100000 in
theorem standbyref07_FitsSizes.calls (k : Nat) (A0 : Option Addr) (c0 : Nat) (l0 : List Int) (a1_0 : Int) (a1_1 : Int) (A1_2 : Option Addr) (c1_2 : Nat) (l1_2 : List (S59)) (r : Int) (w : World) (hr0 : Kd.C (Kd.int .i64) w A0 l0.length l0) (hc0 : l0.length ≤ c0) (hr1_2 : Kd.C k59 w A1_2 l1_2.length l1_2) (hc1_2 : l1_2.length ≤ c1_2) (h : standbyref07_FitsSizes.f k l0 a1_0 a1_1 l1_2 = some r) :
    Calls Tryz.prog 90 #[.slice A0 l0.length c0, .agg #[.int .i64 a1_0, .int .i64 a1_1, .slice A1_2 l1_2.length c1_2]] w fun e w' => e = .returned (.int .i64 r) ∧ Below w.heap.size w w' := by
  have hu66 := Tryz.underlying66
  have HR0 := Aside0.mk hr0
  have HC0 := Aside0.mk hc0
  clear hr0 hc0
  have HR1_2 := Aside0.mk hr1_2
  have HC1_2 := Aside0.mk hc1_2
  clear hr1_2 hc1_2
  have HB := Aside0.mk (Below.refl w.heap.size w)
  have H : (if a1_0 < 0 then (standbyref07_FitsSizes.j0 k l0 true a1_0 a1_1 l1_2) else (standbyref07_FitsSizes.j0 k l0 (decide (a1_0 ≥ (l0.length : Int))) a1_0 a1_1 l1_2)) = some r := h
  clear h
  have HC3 := Aside0.mk H
  clear H
  go_enter Tryz.func90, Tryz.ntmps90
  go_upto_region 1 with (first | ((with_reducible refine gate_dst (N := 3) rfl ?_); (try (refine gate_guard (by rfl) ?_; dsimp only)); refine box_event ?hg (N := 3) ?hd (cs := #[.int .i64 a1_0, .int .i64 a1_1, .slice A1_2 l1_2.length c1_2]) (t := 66) ?hr ?_; (case hd => rfl); (case hg => rfl); (case hr => first | (go_simp; done) | (go_simp; rfl)); intro gb140 hg w4 hbox hb; have BK140 := Aside0.mk (hbox); have GW140 := Aside0.mk (zg hg HB); have GE140 := Aside0.mk (zg hg HB); replace HB := Aside0.mk (below_step (zb HB) hb); clear hb hbox hg))
  repeat (go_quiet (first | ((with_reducible refine gate_dst (N := 3) rfl ?_); (try (refine gate_guard (by rfl) ?_; dsimp only)); refine box_event ?hg (N := 3) ?hd (cs := #[.int .i64 a1_0, .int .i64 a1_1, .slice A1_2 l1_2.length c1_2]) (t := 66) ?hr ?_; (case hd => rfl); (case hg => rfl); (case hr => first | (go_simp; done) | (go_simp; rfl)); intro gb140 hg w4 hbox hb; have BK140 := Aside0.mk (hbox); have GW140 := Aside0.mk (zg hg HB); have GE140 := Aside0.mk (zg hg HB); replace HB := Aside0.mk (below_step (zb HB) hb); clear hb hbox hg)); go_upto_region 1 with (first | ((with_reducible refine gate_dst (N := 3) rfl ?_); (try (refine gate_guard (by rfl) ?_; dsimp only)); refine box_event ?hg (N := 3) ?hd (cs := #[.int .i64 a1_0, .int .i64 a1_1, .slice A1_2 l1_2.length c1_2]) (t := 66) ?hr ?_; (case hd => rfl); (case hg => rfl); (case hr => first | (go_simp; done) | (go_simp; rfl)); intro gb140 hg w4 hbox hb; have BK140 := Aside0.mk (hbox); have GW140 := Aside0.mk (zg hg HB); have GE140 := Aside0.mk (zg hg HB); replace HB := Aside0.mk (below_step (zb HB) hb); clear hb hbox hg)))
  (try simp only [Act.put, List.setIfInBounds_toArray, List.set_cons_zero, List.set_cons_succ])
  go_cut [14] (fun v14 wc => ∃ (kq : Nat) (x14_2 : Bool), v14 = .bool x14_2 ∧ Aside0 (standbyref07_FitsSizes.j0 kq l0 x14_2 a1_0 a1_1 l1_2 = some r) ∧ Aside0 (kq ≤ k) ∧ Aside0 (wc.heap[gb140]? = some (.cells #[.int .i64 a1_0, .int .i64 a1_1, (.slice A1_2 l1_2.length c1_2)] 66 (0, 0))) ∧ Aside0 (Below w.heap.size w wc))
  case first =>
    have H := HC3.out
    clear HC3
    by_cases c5 : a1_0 < 0
    · rw [if_pos c5] at H
      have c5b0 : decide (a1_0 < 0) = true := decide_eq_true c5
      clear c5
      (first | rw [c5b0] | (simp only [i64_w, i32_w]; rw [c5b0]) | skip)
      have H' := Aside0.mk H
      clear H
      obtain ⟨⟨hcz6_0, hcz6_1, hcz6_2⟩, hfz6_0, hfz6_1, hfz6_2⟩ := zc3 BK140
      go_wp2
      repeat (go_quiet (fail); try go_wp2)
      go_meet
      case rel => exact ⟨_, (true), (by first | rfl | (simp; done) | (simp [*]; done)), H', ⟨by first | omega | exact Nat.le_refl _⟩, ⟨by (with_reducible repeat (first | refine blk_drewN ?_ _ | refine blk_drew ?_ | refine blk_alloc ?_ _)); exact BK140.out⟩, ⟨zb HB⟩⟩
    · rw [if_neg c5] at H
      have c5b0 : decide (a1_0 < 0) = false := decide_eq_false c5
      clear c5
      (first | rw [c5b0] | (simp only [i64_w, i32_w]; rw [c5b0]) | skip)
      have H' := Aside0.mk H
      clear H
      obtain ⟨⟨hcz7_0, hcz7_1, hcz7_2⟩, hfz7_0, hfz7_1, hfz7_2⟩ := zc3 BK140
      go_wp2
      repeat (go_quiet (fail); try go_wp2)
      go_meet
      case rel => exact ⟨_, (decide (a1_0 ≥ (l0.length : Int))), (by first | rfl | (simp; done) | (simp [*]; done)), H', ⟨by first | omega | exact Nat.le_refl _⟩, ⟨by (with_reducible repeat (first | refine blk_drewN ?_ _ | refine blk_drew ?_ | refine blk_alloc ?_ _)); exact BK140.out⟩, ⟨zb HB⟩⟩
  case rest =>
    clear HC3
    try clear c1
    try clear p2
    try clear c5
    try clear c5b0
    try clear hcz6_0
    try clear hcz6_1
    try clear hcz6_2
    try clear hcz7_0
    try clear hcz7_1
    try clear hcz7_2
    try clear hfz6_0
    try clear hfz6_1
    try clear hfz6_2
    try clear hfz7_0
    try clear hfz7_1
    try clear hfz7_2
    obtain ⟨kq, x14_2, rfl, HA, HJ2, BK140, HB⟩ := hcut
    cases kq with
    | zero => exact absurd HA.out (by simp [standbyref07_FitsSizes.j0])
    | succ kj2 =>
      have H := HA.out
      clear HA
      simp only [standbyref07_FitsSizes.j0] at H
      by_cases c8 : x14_2 = true
      · subst c8
        have H1 : (some 7) = some r := by rw [if_pos rfl] at H; exact H
        clear H
        have H := H1
        clear H1
        obtain rfl := Option.some.inj H
        go_wp2
        repeat (go_quiet (fail); try go_wp2)
        go_ret
        exact ⟨by first | rfl | (simp [errW_none, errW_some] <;> rfl) | (simp [*, errW_none, errW_some] <;> rfl), zb HB⟩
      · replace c8 := Bool.eq_false_iff.mpr c8
        subst c8
        have H1 : (if (l1_2.length : Int) = 0 then (some 1) else (if a1_1 < 0 then (some 2) else (if 0 ≤ a1_0 then (if a1_0 < (l0.length : Int) then (if a1_1 ≥ (rd l0 a1_0) then (some 2) else (if (l1_2.length : Int) > (wrap64 ((rd l0 a1_0) - a1_1)) then (some 2) else (some 0))) else (none)) else (none)))) = some r := by rw [if_neg (show ¬ (false = true) by decide)] at H; exact H
        clear H
        have H := H1
        clear H1
        by_cases c9 : (l1_2.length : Int) = 0
        · rw [if_pos c9] at H
          have c9b0 : ((l1_2.length : Int) == 0) = true := beq_iff_eq.mpr c9
          have c9b1 : ((l1_2.length : Int) != 0) = false := bne_eq_false_iff_eq.mpr c9
          clear c9
          obtain rfl := Option.some.inj H
          obtain ⟨⟨hcz10_0, hcz10_1, hcz10_2⟩, hfz10_0, hfz10_1, hfz10_2⟩ := zc3 BK140
          go_wp2
          repeat (go_quiet (fail); try go_wp2)
          go_ret
          exact ⟨by first | rfl | (simp [errW_none, errW_some] <;> rfl) | (simp [*, errW_none, errW_some] <;> rfl), zb HB⟩
        · rw [if_neg c9] at H
          have c9b0 : ((l1_2.length : Int) == 0) = false := beq_eq_false_iff_ne.mpr c9
          have c9b1 : ((l1_2.length : Int) != 0) = true := bne_iff_ne.mpr c9
          have c9b2 : ¬ (l1_2 = []) := fun h_ => c9 (by rw [h_]; rfl)
          by_cases c11 : a1_1 < 0
          · rw [if_pos c11] at H
            have c11b0 : decide (a1_1 < 0) = true := decide_eq_true c11
            clear c11
            obtain rfl := Option.some.inj H
            obtain ⟨⟨hcz12_0, hcz12_1, hcz12_2⟩, hfz12_0, hfz12_1, hfz12_2⟩ := zc3 BK140
            go_wp2
            repeat (go_quiet (fail); try go_wp2)
            go_ret
            exact ⟨by first | rfl | (simp [errW_none, errW_some] <;> rfl) | (simp [*, errW_none, errW_some] <;> rfl), zb HB⟩
          · rw [if_neg c11] at H
            have c11b0 : decide (a1_1 < 0) = false := decide_eq_false c11
            clear c11
            by_cases c13 : 0 ≤ a1_0
            · rw [if_pos c13] at H
              have c13b0 : decide (0 ≤ a1_0) = true := decide_eq_true c13
              clear c13
              by_cases c14 : a1_0 < (l0.length : Int)
              · rw [if_pos c14] at H
                have c14b0 : decide (a1_0 < (l0.length : Int)) = true := decide_eq_true c14
                clear c14
                by_cases c15 : a1_1 ≥ (rd l0 a1_0)
                · rw [if_pos c15] at H
                  have c15b0 : decide ((rd l0 a1_0) ≤ a1_1) = true := decide_eq_true c15
                  clear c15
                  obtain rfl := Option.some.inj H
                  obtain ⟨⟨hcz16_0, hcz16_1, hcz16_2⟩, hfz16_0, hfz16_1, hfz16_2⟩ := zc3 BK140
                  have p141 : 0 ≤ (a1_0 : Int) := of_decide_eq_true (by first | (with_reducible assumption) | assumption)
                  have q141 : a1_0 < (l0.length : Int) := of_decide_eq_true (by first | (with_reducible assumption) | assumption)
                  obtain ⟨ad141, e141, hx141_0⟩ := Kd.at_int HR0.out a1_0 p141 q141
                  cases e141
                  replace hx141_0 := (HB.out.cell (World.block_lt_of_cell? w _ hx141_0)).trans hx141_0
                  replace p141 := eq_true p141
                  replace q141 := eq_true q141
                  go_wp2
                  repeat (go_quiet (fail); try go_wp2)
                  go_ret
                  exact ⟨by first | rfl | (simp [errW_none, errW_some] <;> rfl) | (simp [*, errW_none, errW_some] <;> rfl), zb HB⟩
                · rw [if_neg c15] at H
                  have c15b0 : decide ((rd l0 a1_0) ≤ a1_1) = false := decide_eq_false c15
                  clear c15
                  by_cases c17 : (l1_2.length : Int) > (wrap64 ((rd l0 a1_0) - a1_1))
                  · rw [if_pos c17] at H
                    have c17b0 : decide ((wrap64 ((rd l0 a1_0) - a1_1)) < (l1_2.length : Int)) = true := decide_eq_true c17
                    clear c17
                    obtain rfl := Option.some.inj H
                    obtain ⟨⟨hcz18_0, hcz18_1, hcz18_2⟩, hfz18_0, hfz18_1, hfz18_2⟩ := zc3 BK140
                    have p141 : 0 ≤ (a1_0 : Int) := of_decide_eq_true (by first | (with_reducible assumption) | assumption)
                    have q141 : a1_0 < (l0.length : Int) := of_decide_eq_true (by first | (with_reducible assumption) | assumption)
                    obtain ⟨ad141, e141, hx141_0⟩ := Kd.at_int HR0.out a1_0 p141 q141
                    cases e141
                    replace hx141_0 := (HB.out.cell (World.block_lt_of_cell? w _ hx141_0)).trans hx141_0
                    replace p141 := eq_true p141
                    replace q141 := eq_true q141
                    have p142 : 0 ≤ (a1_0 : Int) := of_decide_eq_true (by first | (with_reducible assumption) | assumption)
                    have q142 : a1_0 < (l0.length : Int) := of_decide_eq_true (by first | (with_reducible assumption) | assumption)
                    obtain ⟨ad142, e142, hx142_0⟩ := Kd.at_int HR0.out a1_0 p142 q142
                    obtain rfl : ad141 = ad142 := (by injection e142)
                    replace hx142_0 := (HB.out.cell (World.block_lt_of_cell? w _ hx142_0)).trans hx142_0
                    replace p142 := eq_true p142
                    replace q142 := eq_true q142
                    go_wp2
                    repeat (go_quiet (fail); try go_wp2)
                    go_ret
                    exact ⟨by first | rfl | (simp [errW_none, errW_some] <;> rfl) | (simp [*, errW_none, errW_some] <;> rfl), zb HB⟩
                  · rw [if_neg c17] at H
                    have c17b0 : decide ((wrap64 ((rd l0 a1_0) - a1_1)) < (l1_2.length : Int)) = false := decide_eq_false c17
                    clear c17
                    obtain rfl := Option.some.inj H
                    obtain ⟨⟨hcz19_0, hcz19_1, hcz19_2⟩, hfz19_0, hfz19_1, hfz19_2⟩ := zc3 BK140
                    have p141 : 0 ≤ (a1_0 : Int) := of_decide_eq_true (by first | (with_reducible assumption) | assumption)
                    have q141 : a1_0 < (l0.length : Int) := of_decide_eq_true (by first | (with_reducible assumption) | assumption)
                    obtain ⟨ad141, e141, hx141_0⟩ := Kd.at_int HR0.out a1_0 p141 q141
                    cases e141
                    replace hx141_0 := (HB.out.cell (World.block_lt_of_cell? w _ hx141_0)).trans hx141_0
                    replace p141 := eq_true p141
                    replace q141 := eq_true q141
                    have p142 : 0 ≤ (a1_0 : Int) := of_decide_eq_true (by first | (with_reducible assumption) | assumption)
                    have q142 : a1_0 < (l0.length : Int) := of_decide_eq_true (by first | (with_reducible assumption) | assumption)
                    obtain ⟨ad142, e142, hx142_0⟩ := Kd.at_int HR0.out a1_0 p142 q142
                    obtain rfl : ad141 = ad142 := (by injection e142)
                    replace hx142_0 := (HB.out.cell (World.block_lt_of_cell? w _ hx142_0)).trans hx142_0
                    replace p142 := eq_true p142
                    replace q142 := eq_true q142
                    go_wp2
                    repeat (go_quiet (fail); try go_wp2)
                    go_ret
                    exact ⟨by first | rfl | (simp [errW_none, errW_some] <;> rfl) | (simp [*, errW_none, errW_some] <;> rfl), zb HB⟩
              · rw [if_neg c14] at H
                exact absurd H (by simp)
            · rw [if_neg c13] at H
              exact absurd H (by simp)
def standbyref07_Few.l0 : Nat → List (List (S59)) → Int → Option (Bool)
  | 0, _, _ => none
  | k + 1, x0, x3 => if x3 < (x0.length : Int) then (if 0 ≤ x3 then (if ((rd_L2 x0 x3).length : Int) > 24 then (some false) else (standbyref07_Few.l0 k x0 (wrap64 (x3 + 1)))) else (none)) else (some true)
def standbyref07_Few.f (k : Nat) (l0 : List (List (S59))) : Option (Bool) := if (l0.length : Int) > 9 then (some false) else (standbyref07_Few.l0 k l0 0)
set_option maxHeartbeats 8000000 in
set_option maxRecDepth 100000 in
theorem standbyref07_Few.calls (k : Nat) (A0 : Option Addr) (c0 : Nat) (l0 : List (List (S59))) (r : Bool) (w : World) (hr0 : Kd.C (Kd.slice 59 k59) w A0 l0.length l0) (hc0 : l0.length ≤ c0) (h : standbyref07_Few.f k l0 = some r) :
    Calls Tryz.prog 5 #[.slice A0 l0.length c0] w fun e w' => e = .returned (.bool r) ∧ Drawn0 w w' := by
  have HR0 := Aside0.mk hr0
  have HC0 := Aside0.mk hc0
  clear hr0 hc0
  have H : (if (l0.length : Int) > 9 then (some false) else (standbyref07_Few.l0 k l0 0)) = some r := h
  clear h
  by_cases c2 : (l0.length : Int) > 9
  · rw [if_pos c2] at H
    have c2b0 : decide (9 < (l0.length : Int)) = true := decide_eq_true c2
    have c2b1 : decide (9 < l0.length) = true := decide_eq_true (by omega)
    clear c2
    obtain rfl := Option.some.inj H
    go_enter Tryz.func5, Tryz.ntmps5
    go_wp2
    go_ret
    exact ⟨by first | rfl | (simp; done) | (simp [*]; done), by repeat (first | exact Drawn0.refl _ | apply Drawn0.step)⟩
  · rw [if_neg c2] at H
    have c2b0 : decide (9 < (l0.length : Int)) = false := decide_eq_false c2
    have c2b1 : decide (9 < l0.length) = false := decide_eq_false (by omega)
    clear c2
    have H' := Aside0.mk H
    clear H
    go_enter Tryz.func5, Tryz.ntmps5
    go_wp2
    go_loopg [3] k (fun kq v3 w' => ∃ (x3_1 : Int), v3 = .int .i64 x3_1 ∧ Aside0 (standbyref07_Few.l0 kq l0 x3_1 = some r) ∧ Aside0 (kq ≤ k) ∧ Drawn0 w w')
    case atStart => exact ⟨(0), (by first | rfl | (simp; done) | (simp [*]; done)), H', ⟨Nat.le_refl _⟩, by repeat (first | exact Drawn0.refl _ | apply Drawn0.step)⟩
    case round =>
      clear H'
      try clear c2
      try clear c2b0
      try clear c2b1
      try clear p2
      obtain ⟨x3_1, rfl, HA, HK1, ⟨m1, rfl⟩⟩ := hrel
      cases gk with
      | zero => exact absurd HA.out (by simp [standbyref07_Few.l0])
      | succ k1 =>
        have H := HA.out
        clear HA
        simp only [standbyref07_Few.l0] at H
        by_cases c3 : x3_1 < (l0.length : Int)
        · rw [if_pos c3] at H
          have c3b0 : decide (x3_1 < (l0.length : Int)) = true := decide_eq_true c3
          clear c3
          by_cases c4 : 0 ≤ x3_1
          · rw [if_pos c4] at H
            have c4b0 : decide (0 ≤ x3_1) = true := decide_eq_true c4
            clear c4
            by_cases c5 : ((rd_L2 l0 x3_1).length : Int) > 24
            · rw [if_pos c5] at H
              have c5b0 : decide (24 < ((rd_L2 l0 x3_1).length : Int)) = true := decide_eq_true c5
              have c5b1 : decide (24 < (rd_L2 l0 x3_1).length) = true := decide_eq_true (by omega)
              clear c5
              obtain rfl := Option.some.inj H
              have p143 : 0 ≤ (x3_1 : Int) := of_decide_eq_true (by first | (with_reducible assumption) | assumption)
              have q143 : x3_1 < (l0.length : Int) := of_decide_eq_true (by first | (with_reducible assumption) | assumption)
              obtain ⟨ad143, A143_0, c143_0, e143, hx143_0, hl143_0, hi143_0⟩ := at_L2 HR0.out x3_1 p143 q143
              cases e143
              have HR143_0 := Aside0.mk hi143_0
              have HC143_0 := Aside0.mk hl143_0
              clear hi143_0 hl143_0
              replace p143 := eq_true p143
              replace q143 := eq_true q143
              go_wp2
              go_ret
              exact ⟨by first | rfl | (simp; done) | (simp [*]; done), by repeat (first | exact Drawn0.refl _ | apply Drawn0.step)⟩
            · rw [if_neg c5] at H
              have c5b0 : decide (24 < ((rd_L2 l0 x3_1).length : Int)) = false := decide_eq_false c5
              have c5b1 : decide (24 < (rd_L2 l0 x3_1).length) = false := decide_eq_false (by omega)
              clear c5
              have H' := Aside0.mk H
              clear H
              have p143 : 0 ≤ (x3_1 : Int) := of_decide_eq_true (by first | (with_reducible assumption) | assumption)
              have q143 : x3_1 < (l0.length : Int) := of_decide_eq_true (by first | (with_reducible assumption) | assumption)
              obtain ⟨ad143, A143_0, c143_0, e143, hx143_0, hl143_0, hi143_0⟩ := at_L2 HR0.out x3_1 p143 q143
              cases e143
              have HR143_0 := Aside0.mk hi143_0
              have HC143_0 := Aside0.mk hl143_0
              clear hi143_0 hl143_0
              replace p143 := eq_true p143
              replace q143 := eq_true q143
              go_wp2
              go_roundg k1
              case measure => have := HK1.out; omega
              case rel => exact ⟨(wrap64 (x3_1 + 1)), (by first | rfl | (simp; done) | (simp [*]; done)), H', ⟨by have := HK1.out; omega⟩, by repeat (first | exact Drawn0.refl _ | apply Drawn0.step)⟩
          · rw [if_neg c4] at H
            exact absurd H (by simp)
        · rw [if_neg c3] at H
          have c3b0 : decide (x3_1 < (l0.length : Int)) = false := decide_eq_false c3
          clear c3
          obtain rfl := Option.some.inj H
          go_wp2
          go_ret
          exact ⟨by first | rfl | (simp; done) | (simp [*]; done), by repeat (first | exact Drawn0.refl _ | apply Drawn0.step)⟩
def standbyref03_SameSectors.l0 : Nat → List (S59) → List (S59) → Int → Option (Bool)
  | 0, _, _, _ => none
  | k + 1, x0, x1, x5 => if x5 < (x0.length : Int) then (if 0 ≤ x5 then (if x5 < (x1.length : Int) then (if (!(((rd_T59 x0 x5).f0) == ((rd_T59 x1 x5).f0)) || (!(((rd_T59 x0 x5).f1) == ((rd_T59 x1 x5).f1)) || (!(((rd_T59 x0 x5).f2) == ((rd_T59 x1 x5).f2)) || (!(((rd_T59 x0 x5).f3) == ((rd_T59 x1 x5).f3)) || (!(((rd_T59 x0 x5).f4) == ((rd_T59 x1 x5).f4)) || (!(((rd_T59 x0 x5).f5) == ((rd_T59 x1 x5).f5)) || (!(((rd_T59 x0 x5).f6) == ((rd_T59 x1 x5).f6)) || (!(((rd_T59 x0 x5).f7) == ((rd_T59 x1 x5).f7)))))))))) = true then (some false) else (standbyref03_SameSectors.l0 k x0 x1 (wrap64 (x5 + 1)))) else (none)) else (none)) else (some true)
def standbyref03_SameSectors.f (k : Nat) (l0 : List (S59)) (l1 : List (S59)) : Option (Bool) := if (l0.length : Int) = (l1.length : Int) then (standbyref03_SameSectors.l0 k l0 l1 0) else (some false)
set_option maxHeartbeats 8000000 in
set_option maxRecDepth 100000 in
theorem standbyref03_SameSectors.calls (k : Nat) (A0 : Option Addr) (c0 : Nat) (l0 : List (S59)) (A1 : Option Addr) (c1 : Nat) (l1 : List (S59)) (r : Bool) (w : World) (hr0 : Kd.C k59 w A0 l0.length l0) (hc0 : l0.length ≤ c0) (hr1 : Kd.C k59 w A1 l1.length l1) (hc1 : l1.length ≤ c1) (h : standbyref03_SameSectors.f k l0 l1 = some r) :
    Calls Tryz.prog 67 #[.slice A0 l0.length c0, .slice A1 l1.length c1] w fun e w' => e = .returned (.bool r) ∧ Drawn0 w w' := by
  have hu59 := Tryz.underlying59
  have HR0 := Aside0.mk hr0
  have HC0 := Aside0.mk hc0
  clear hr0 hc0
  have HR1 := Aside0.mk hr1
  have HC1 := Aside0.mk hc1
  clear hr1 hc1
  have H : (if (l0.length : Int) = (l1.length : Int) then (standbyref03_SameSectors.l0 k l0 l1 0) else (some false)) = some r := h
  clear h
  by_cases c3 : (l0.length : Int) = (l1.length : Int)
  · rw [if_pos c3] at H
    have c3b0 : ((l0.length : Int) == (l1.length : Int)) = true := beq_iff_eq.mpr c3
    have c3b1 : ((l0.length : Int) != (l1.length : Int)) = false := bne_eq_false_iff_eq.mpr c3
    have c3b2 : (l0.length == l1.length) = true := by first | simpa using c3 | (simp at c3 ⊢; omega)
    clear c3
    have H' := Aside0.mk H
    clear H
    go_enter Tryz.func67, Tryz.ntmps67
    go_wp2
    repeat (go_quiet (fail); try go_wp2)
    go_loopg [5] k (fun kq v5 w' => ∃ (x5_1 : Int), v5 = .int .i64 x5_1 ∧ Aside0 (standbyref03_SameSectors.l0 kq l0 l1 x5_1 = some r) ∧ Aside0 (kq ≤ k) ∧ Drawn0 w w')
    case atStart => exact ⟨(0), (by first | rfl | (simp; done) | (simp [*]; done)), H', ⟨Nat.le_refl _⟩, by repeat (first | exact Drawn0.refl _ | apply Drawn0.step)⟩
    case round =>
      clear H'
      try clear c1
      try clear p2
      try clear c3
      try clear c3b0
      try clear c3b1
      try clear c3b2
      obtain ⟨x5_1, rfl, HA, HK1, ⟨m1, rfl⟩⟩ := hrel
      cases gk with
      | zero => exact absurd HA.out (by simp [standbyref03_SameSectors.l0])
      | succ k1 =>
        have H := HA.out
        clear HA
        simp only [standbyref03_SameSectors.l0] at H
        by_cases c4 : x5_1 < (l0.length : Int)
        · rw [if_pos c4] at H
          have c4b0 : decide (x5_1 < (l0.length : Int)) = true := decide_eq_true c4
          clear c4
          by_cases c5 : 0 ≤ x5_1
          · rw [if_pos c5] at H
            have c5b0 : decide (0 ≤ x5_1) = true := decide_eq_true c5
            clear c5
            by_cases c6 : x5_1 < (l1.length : Int)
            · rw [if_pos c6] at H
              have c6b0 : decide (x5_1 < (l1.length : Int)) = true := decide_eq_true c6
              clear c6
              by_cases c7 : (!(((rd_T59 l0 x5_1).f0) == ((rd_T59 l1 x5_1).f0)) || (!(((rd_T59 l0 x5_1).f1) == ((rd_T59 l1 x5_1).f1)) || (!(((rd_T59 l0 x5_1).f2) == ((rd_T59 l1 x5_1).f2)) || (!(((rd_T59 l0 x5_1).f3) == ((rd_T59 l1 x5_1).f3)) || (!(((rd_T59 l0 x5_1).f4) == ((rd_T59 l1 x5_1).f4)) || (!(((rd_T59 l0 x5_1).f5) == ((rd_T59 l1 x5_1).f5)) || (!(((rd_T59 l0 x5_1).f6) == ((rd_T59 l1 x5_1).f6)) || (!(((rd_T59 l0 x5_1).f7) == ((rd_T59 l1 x5_1).f7)))))))))) = true
              · rw [if_pos c7] at H
                have c7b0 : (!(((rd_T59 l0 x5_1).f0) == ((rd_T59 l1 x5_1).f0)) || (!(((rd_T59 l0 x5_1).f1) == ((rd_T59 l1 x5_1).f1)) || (!(((rd_T59 l0 x5_1).f2) == ((rd_T59 l1 x5_1).f2)) || (!(((rd_T59 l0 x5_1).f3) == ((rd_T59 l1 x5_1).f3)) || (!(((rd_T59 l0 x5_1).f4) == ((rd_T59 l1 x5_1).f4)) || (!(((rd_T59 l0 x5_1).f5) == ((rd_T59 l1 x5_1).f5)) || (!(((rd_T59 l0 x5_1).f6) == ((rd_T59 l1 x5_1).f6)) || (!(((rd_T59 l0 x5_1).f7) == ((rd_T59 l1 x5_1).f7)))))))))) = true := c7
                clear c7
                obtain rfl := Option.some.inj H
                have p144 : 0 ≤ (x5_1 : Int) := of_decide_eq_true (by first | (with_reducible assumption) | assumption)
                have q144 : x5_1 < (l0.length : Int) := of_decide_eq_true (by first | (with_reducible assumption) | assumption)
                obtain ⟨ad144, e144, hx144_0, hx144_1, hx144_2, hx144_3, hx144_4, hx144_5, hx144_6, hx144_7⟩ := at_T59 HR0.out x5_1 p144 q144
                cases e144
                replace p144 := eq_true p144
                replace q144 := eq_true q144
                have p145 : 0 ≤ (x5_1 : Int) := of_decide_eq_true (by first | (with_reducible assumption) | assumption)
                have q145 : x5_1 < (l1.length : Int) := of_decide_eq_true (by first | (with_reducible assumption) | assumption)
                obtain ⟨ad145, e145, hx145_0, hx145_1, hx145_2, hx145_3, hx145_4, hx145_5, hx145_6, hx145_7⟩ := at_T59 HR1.out x5_1 p145 q145
                cases e145
                replace p145 := eq_true p145
                replace q145 := eq_true q145
                go_wp2
                repeat (go_quiet (fail); try go_wp2)
                go_ret
                exact ⟨by first | rfl | (simp; done) | (simp [*]; done), by repeat (first | exact Drawn0.refl _ | apply Drawn0.step)⟩
              · rw [if_neg c7] at H
                have c7b0 : (!(((rd_T59 l0 x5_1).f0) == ((rd_T59 l1 x5_1).f0)) || (!(((rd_T59 l0 x5_1).f1) == ((rd_T59 l1 x5_1).f1)) || (!(((rd_T59 l0 x5_1).f2) == ((rd_T59 l1 x5_1).f2)) || (!(((rd_T59 l0 x5_1).f3) == ((rd_T59 l1 x5_1).f3)) || (!(((rd_T59 l0 x5_1).f4) == ((rd_T59 l1 x5_1).f4)) || (!(((rd_T59 l0 x5_1).f5) == ((rd_T59 l1 x5_1).f5)) || (!(((rd_T59 l0 x5_1).f6) == ((rd_T59 l1 x5_1).f6)) || (!(((rd_T59 l0 x5_1).f7) == ((rd_T59 l1 x5_1).f7)))))))))) = false := by simpa using c7
                clear c7
                have H' := Aside0.mk H
                clear H
                have p144 : 0 ≤ (x5_1 : Int) := of_decide_eq_true (by first | (with_reducible assumption) | assumption)
                have q144 : x5_1 < (l0.length : Int) := of_decide_eq_true (by first | (with_reducible assumption) | assumption)
                obtain ⟨ad144, e144, hx144_0, hx144_1, hx144_2, hx144_3, hx144_4, hx144_5, hx144_6, hx144_7⟩ := at_T59 HR0.out x5_1 p144 q144
                cases e144
                replace p144 := eq_true p144
                replace q144 := eq_true q144
                have p145 : 0 ≤ (x5_1 : Int) := of_decide_eq_true (by first | (with_reducible assumption) | assumption)
                have q145 : x5_1 < (l1.length : Int) := of_decide_eq_true (by first | (with_reducible assumption) | assumption)
                obtain ⟨ad145, e145, hx145_0, hx145_1, hx145_2, hx145_3, hx145_4, hx145_5, hx145_6, hx145_7⟩ := at_T59 HR1.out x5_1 p145 q145
                cases e145
                replace p145 := eq_true p145
                replace q145 := eq_true q145
                go_wp2
                repeat (go_quiet (fail); try go_wp2)
                go_roundg k1
                case measure => have := HK1.out; omega
                case rel => exact ⟨(wrap64 (x5_1 + 1)), (by first | rfl | (simp; done) | (simp [*]; done)), H', ⟨by have := HK1.out; omega⟩, by repeat (first | exact Drawn0.refl _ | apply Drawn0.step)⟩
            · rw [if_neg c6] at H
              exact absurd H (by simp)
          · rw [if_neg c5] at H
            exact absurd H (by simp)
        · rw [if_neg c4] at H
          have c4b0 : decide (x5_1 < (l0.length : Int)) = false := decide_eq_false c4
          clear c4
          obtain rfl := Option.some.inj H
          go_wp2
          repeat (go_quiet (fail); try go_wp2)
          go_ret
          exact ⟨by first | rfl | (simp; done) | (simp [*]; done), by repeat (first | exact Drawn0.refl _ | apply Drawn0.step)⟩
  · rw [if_neg c3] at H
    have c3b0 : ((l0.length : Int) == (l1.length : Int)) = false := beq_eq_false_iff_ne.mpr c3
    have c3b1 : ((l0.length : Int) != (l1.length : Int)) = true := bne_iff_ne.mpr c3
    have c3b2 : (l0.length == l1.length) = false := by first | simpa using c3 | (simp at c3 ⊢; omega)
    obtain rfl := Option.some.inj H
    go_enter Tryz.func67, Tryz.ntmps67
    go_wp2
    repeat (go_quiet (fail); try go_wp2)
    go_ret
    exact ⟨by first | rfl | (simp; done) | (simp [*]; done), by repeat (first | exact Drawn0.refl _ | apply Drawn0.step)⟩
end Go.Proofs.YtdplnbmioioniaaGreat.Pq
end
