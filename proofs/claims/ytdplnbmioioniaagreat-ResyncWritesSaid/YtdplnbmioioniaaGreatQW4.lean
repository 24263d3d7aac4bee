import Derived.Test.YtdplnbmioioniaaGreatQW3
section
namespace Go.Proofs.YtdplnbmioioniaaGreat.Pq
open Go.RowKit Go.Proofs.YtdplnbmioioniaaGreatW.PrintWords Go.Proofs.YtdplnbmioioniaaGreatW.PrintLast Go.Proofs.YtdplnbmioioniaaGreatW.PrintMore
attribute [local go_sem] max2_int min2_int max_two min_two max_three min_three max_four min_four
set_option linter.unusedVariables false
set_option linter.unusedSimpArgs false
def standbyref03_SameWrites.l0 : Nat → List (S66) → List (S66) → Int → Option (Bool)
  | 0, _, _, _ => none
  | k + 1, x0, x1, x5 => if x5 < (x0.length : Int) then (if 0 ≤ x5 then (if x5 < (x1.length : Int) then (if ((rd_T66 x0 x5).f0) = ((rd_T66 x1 x5).f0) then (if ((rd_T66 x0 x5).f1) = ((rd_T66 x1 x5).f1) then ((standbyref03_SameSectors.f k ((rd_T66 x0 x5).f2) ((rd_T66 x1 x5).f2)).bind fun t152 => (if t152 = true then (standbyref03_SameWrites.l0 k x0 x1 (wrap64 (x5 + 1))) else (some false))) else (some false)) else (some false)) else (none)) else (none)) else (some true)
def standbyref03_SameWrites.f (k : Nat) (l0 : List (S66)) (l1 : List (S66)) : Option (Bool) := if (l0.length : Int) = (l1.length : Int) then (standbyref03_SameWrites.l0 k l0 l1 0) else (some false)
def standbyref03_SameWrites.T6 : Bool × List (List Nat × List Nat) := (true, [([], []), ([], []), ([0, 1], [0, 1]), ([2], [2]), ([3], [3]), ([], []), ([], []), ([5, 6], [5, 6]), ([7], [7]), ([8], [8]), ([4, 9], [4, 9]), ([10], [10]), ([11], [11]), ([11], [11]), ([12, 13, 11], [11, 12, 13]), ([14, 11], [11, 14]), ([15, 11], [11, 15]), ([11], [11]), ([11], [11]), ([17, 18, 11], [11, 17, 18]), ([19, 11], [11, 19]), ([20, 11], [11, 20]), ([16, 21, 11], [11, 16, 21]), ([11, 22], [11, 22]), ([23, 11], [23]), ([24], [24]), ([24], [24]), ([25, 26, 24], [24, 25, 26]), ([27, 24], [24, 27]), ([28, 24], [24, 28]), ([24], [24]), ([24], [24]), ([30, 31, 24], [24, 30, 31]), ([32, 24], [24, 32]), ([33, 24], [24, 33]), ([29, 34, 24, 24], [24, 29, 34]), ([35, 24], [24, 35]), ([24, 36], [24, 36])])
def standbyref03_SameWrites.B6 : List Nat := [0, 0, 3, 7, 15, 0, 0, 96, 224, 480, 1023, 2047, 4095, 4095, 16383, 32767, 65535, 4095, 4095, 397311, 921599, 1970175, 4194303, 8388607, 16777215, 33554431, 33554431, 134217727, 268435455, 536870911, 33554431, 33554431, 3254779903, 7549747199, 16139681791, 34359738367, 68719476735, 137438953471]
theorem standbyref03_SameWrites.tab6 : rtab .any (opsOf Tryz.f36 6) = standbyref03_SameWrites.T6 := by kernel_rfl
theorem standbyref03_SameWrites.bits6 : waitsOk standbyref03_SameWrites.T6.2 standbyref03_SameWrites.B6 = true := by kernel_rfl
set_option maxHeartbeats 8000000 in
set_option maxRecDepth 100000 in
theorem standbyref03_SameWrites.calls (k : Nat) (A0 : Option Addr) (c0 : Nat) (l0 : List (S66)) (A1 : Option Addr) (c1 : Nat) (l1 : List (S66)) (r : Bool) (w : World) (hr0 : Kd.C k66 w A0 l0.length l0) (hc0 : l0.length ≤ c0) (hr1 : Kd.C k66 w A1 l1.length l1) (hc1 : l1.length ≤ c1) (h : standbyref03_SameWrites.f k l0 l1 = some r) :
    Calls Tryz.prog 36 #[.slice A0 l0.length c0, .slice A1 l1.length c1] w fun e w' => e = .returned (.bool r) ∧ Below w.heap.size w w' := by
  have HR0 := Aside0.mk hr0
  have HC0 := Aside0.mk hc0
  clear hr0 hc0
  have HR1 := Aside0.mk hr1
  have HC1 := Aside0.mk hc1
  clear hr1 hc1
  have HB := Aside0.mk (Below.refl w.heap.size w)
  have H : (if (l0.length : Int) = (l1.length : Int) then (standbyref03_SameWrites.l0 k l0 l1 0) else (some false)) = some r := h
  clear h
  by_cases c3 : (l0.length : Int) = (l1.length : Int)
  · rw [if_pos c3] at H
    have c3b0 : ((l0.length : Int) == (l1.length : Int)) = true := beq_iff_eq.mpr c3
    have c3b1 : ((l0.length : Int) != (l1.length : Int)) = false := bne_eq_false_iff_eq.mpr c3
    have c3b2 : (l0.length == l1.length) = true := by first | simpa using c3 | (simp at c3 ⊢; omega)
    clear c3
    have H' := Aside0.mk H
    clear H
    go_enter Tryz.func36, Tryz.ntmps36
    go_wp2
    go_loopg [5] k (fun kq v5 w' => ∃ (x5_1 : Int), v5 = .int .i64 x5_1 ∧ Aside0 (standbyref03_SameWrites.l0 kq l0 l1 x5_1 = some r) ∧ Aside0 (kq ≤ k) ∧ Aside0 (Below w.heap.size w w'))
    case atStart => exact ⟨(0), (by first | rfl | (simp; done) | (simp [*]; done)), H', ⟨Nat.le_refl _⟩, ⟨zb HB⟩⟩
    case round =>
      clear H'
      try clear c1
      try clear p2
      try clear c3
      try clear c3b0
      try clear c3b1
      try clear c3b2
      obtain ⟨x5_1, rfl, HA, HK1, HB⟩ := hrel
      cases gk with
      | zero => exact absurd HA.out (by simp [standbyref03_SameWrites.l0])
      | succ k1 =>
        have H := HA.out
        clear HA
        simp only [standbyref03_SameWrites.l0] at H
        by_cases c4 : x5_1 < (l0.length : Int)
        · rw [if_pos c4] at H
          have c4b0 : decide (x5_1 < (l0.length : Int)) = true := decide_eq_true c4
          clear c4
          by_cases c5 : 0 ≤ x5_1
          · rw [if_pos c5] at H
            have c5b0 : decide (0 ≤ x5_1) = true := decide_eq_true c5
            clear c5
            by_cases c6 : x5_1 < (l1.length : Int)
            · rw [if_pos c6] at H
              have c6b0 : decide (x5_1 < (l1.length : Int)) = true := decide_eq_true c6
              clear c6
              by_cases c7 : ((rd_T66 l0 x5_1).f0) = ((rd_T66 l1 x5_1).f0)
              · rw [if_pos c7] at H
                have c7b0 : (((rd_T66 l0 x5_1).f0) == ((rd_T66 l1 x5_1).f0)) = true := beq_iff_eq.mpr c7
                have c7b1 : (((rd_T66 l0 x5_1).f0) != ((rd_T66 l1 x5_1).f0)) = false := bne_eq_false_iff_eq.mpr c7
                clear c7
                by_cases c8 : ((rd_T66 l0 x5_1).f1) = ((rd_T66 l1 x5_1).f1)
                · rw [if_pos c8] at H
                  have c8b0 : (((rd_T66 l0 x5_1).f1) == ((rd_T66 l1 x5_1).f1)) = true := beq_iff_eq.mpr c8
                  have c8b1 : (((rd_T66 l0 x5_1).f1) != ((rd_T66 l1 x5_1).f1)) = false := bne_eq_false_iff_eq.mpr c8
                  clear c8
                  replace H := Option.bind_eq_some_iff.mp H
                  obtain ⟨t152, A90, H⟩ := H
                  replace H : (if t152 = true then (standbyref03_SameWrites.l0 k1 l0 l1 (wrap64 (x5_1 + 1))) else (some false)) = some r := H
                  have A9 := Aside0.mk A90
                  clear A90
                  by_cases c10 : t152 = true
                  · subst c10
                    have H1 : (standbyref03_SameWrites.l0 k1 l0 l1 (wrap64 (x5_1 + 1))) = some r := by rw [if_pos rfl] at H; exact H
                    clear H
                    have H := H1
                    clear H1
                    have H' := Aside0.mk H
                    clear H
                    try go_wp2
                    replace HB := Aside0.mk (below_drew1 HB.out)
                    have p146 : 0 ≤ (x5_1 : Int) := of_decide_eq_true (by first | (with_reducible assumption) | assumption)
                    have q146 : x5_1 < (l0.length : Int) := of_decide_eq_true (by first | (with_reducible assumption) | assumption)
                    obtain ⟨ad146, A146_2, c146_2, e146, hx146_0, hx146_1, hx146_2, hl146_2, hi146_2⟩ := at_T66 HR0.out x5_1 p146 q146
                    have hw146_2 := hx146_2
                    have hw146_1 := hx146_1
                    have hw146_0 := hx146_0
                    cases e146
                    replace hx146_0 := (HB.out.cell (World.block_lt_of_cell? w _ hx146_0)).trans hx146_0
                    replace hx146_1 := (HB.out.cell (World.block_lt_of_cell? w _ hx146_1)).trans hx146_1
                    replace hx146_2 := (HB.out.cell (World.block_lt_of_cell? w _ hx146_2)).trans hx146_2
                    have HR146_2 := Aside0.mk hi146_2
                    have HC146_2 := Aside0.mk hl146_2
                    clear hi146_2 hl146_2
                    replace p146 := eq_true p146
                    replace q146 := eq_true q146
                    have p147 : 0 ≤ (x5_1 : Int) := of_decide_eq_true (by first | (with_reducible assumption) | assumption)
                    have q147 : x5_1 < (l1.length : Int) := of_decide_eq_true (by first | (with_reducible assumption) | assumption)
                    obtain ⟨ad147, A147_2, c147_2, e147, hx147_0, hx147_1, hx147_2, hl147_2, hi147_2⟩ := at_T66 HR1.out x5_1 p147 q147
                    have hw147_2 := hx147_2
                    have hw147_1 := hx147_1
                    have hw147_0 := hx147_0
                    cases e147
                    replace hx147_0 := (HB.out.cell (World.block_lt_of_cell? w _ hx147_0)).trans hx147_0
                    replace hx147_1 := (HB.out.cell (World.block_lt_of_cell? w _ hx147_1)).trans hx147_1
                    replace hx147_2 := (HB.out.cell (World.block_lt_of_cell? w _ hx147_2)).trans hx147_2
                    have HR147_2 := Aside0.mk hi147_2
                    have HC147_2 := Aside0.mk hl147_2
                    clear hi147_2 hl147_2
                    replace p147 := eq_true p147
                    replace q147 := eq_true q147
                    have p148 : 0 ≤ (x5_1 : Int) := of_decide_eq_true (by first | (with_reducible assumption) | assumption)
                    have q148 : x5_1 < (l0.length : Int) := of_decide_eq_true (by first | (with_reducible assumption) | assumption)
                    obtain ⟨ad148, A148_2, c148_2, e148, hx148_0, hx148_1, hx148_2, hl148_2, hi148_2⟩ := at_T66 HR0.out x5_1 p148 q148
                    have hw148_2 := hx148_2
                    have hw148_1 := hx148_1
                    have hw148_0 := hx148_0
                    obtain rfl : ad146 = ad148 := (by injection e148)
                    replace hx148_0 := (HB.out.cell (World.block_lt_of_cell? w _ hx148_0)).trans hx148_0
                    replace hx148_1 := (HB.out.cell (World.block_lt_of_cell? w _ hx148_1)).trans hx148_1
                    replace hx148_2 := (HB.out.cell (World.block_lt_of_cell? w _ hx148_2)).trans hx148_2
                    have HR148_2 := Aside0.mk hi148_2
                    have HC148_2 := Aside0.mk hl148_2
                    clear hi148_2 hl148_2
                    replace p148 := eq_true p148
                    replace q148 := eq_true q148
                    have ea_ := Option.some.inj (hx146_2.symm.trans hx148_2)
                    injection ea_ with ea_ en_ ec_
                    subst ea_
                    subst ec_
                    clear en_
                    have p149 : 0 ≤ (x5_1 : Int) := of_decide_eq_true (by first | (with_reducible assumption) | assumption)
                    have q149 : x5_1 < (l1.length : Int) := of_decide_eq_true (by first | (with_reducible assumption) | assumption)
                    obtain ⟨ad149, A149_2, c149_2, e149, hx149_0, hx149_1, hx149_2, hl149_2, hi149_2⟩ := at_T66 HR1.out x5_1 p149 q149
                    have hw149_2 := hx149_2
                    have hw149_1 := hx149_1
                    have hw149_0 := hx149_0
                    obtain rfl : ad147 = ad149 := (by injection e149)
                    replace hx149_0 := (HB.out.cell (World.block_lt_of_cell? w _ hx149_0)).trans hx149_0
                    replace hx149_1 := (HB.out.cell (World.block_lt_of_cell? w _ hx149_1)).trans hx149_1
                    replace hx149_2 := (HB.out.cell (World.block_lt_of_cell? w _ hx149_2)).trans hx149_2
                    have HR149_2 := Aside0.mk hi149_2
                    have HC149_2 := Aside0.mk hl149_2
                    clear hi149_2 hl149_2
                    replace p149 := eq_true p149
                    replace q149 := eq_true q149
                    have ea_ := Option.some.inj (hx147_2.symm.trans hx149_2)
                    injection ea_ with ea_ en_ ec_
                    subst ea_
                    subst ec_
                    clear en_
                    have p150 : 0 ≤ (x5_1 : Int) := of_decide_eq_true (by first | (with_reducible assumption) | assumption)
                    have q150 : x5_1 < (l0.length : Int) := of_decide_eq_true (by first | (with_reducible assumption) | assumption)
                    obtain ⟨ad150, A150_2, c150_2, e150, hx150_0, hx150_1, hx150_2, hl150_2, hi150_2⟩ := at_T66 HR0.out x5_1 p150 q150
                    have hw150_2 := hx150_2
                    have hw150_1 := hx150_1
                    have hw150_0 := hx150_0
                    obtain rfl : ad146 = ad150 := (by injection e150)
                    replace hx150_0 := (HB.out.cell (World.block_lt_of_cell? w _ hx150_0)).trans hx150_0
                    replace hx150_1 := (HB.out.cell (World.block_lt_of_cell? w _ hx150_1)).trans hx150_1
                    replace hx150_2 := (HB.out.cell (World.block_lt_of_cell? w _ hx150_2)).trans hx150_2
                    have HR150_2 := Aside0.mk hi150_2
                    have HC150_2 := Aside0.mk hl150_2
                    clear hi150_2 hl150_2
                    replace p150 := eq_true p150
                    replace q150 := eq_true q150
                    have ea_ := Option.some.inj (hx146_2.symm.trans hx150_2)
                    injection ea_ with ea_ en_ ec_
                    subst ea_
                    subst ec_
                    clear en_
                    have p151 : 0 ≤ (x5_1 : Int) := of_decide_eq_true (by first | (with_reducible assumption) | assumption)
                    have q151 : x5_1 < (l1.length : Int) := of_decide_eq_true (by first | (with_reducible assumption) | assumption)
                    obtain ⟨ad151, A151_2, c151_2, e151, hx151_0, hx151_1, hx151_2, hl151_2, hi151_2⟩ := at_T66 HR1.out x5_1 p151 q151
                    have hw151_2 := hx151_2
                    have hw151_1 := hx151_1
                    have hw151_0 := hx151_0
                    obtain rfl : ad147 = ad151 := (by injection e151)
                    replace hx151_0 := (HB.out.cell (World.block_lt_of_cell? w _ hx151_0)).trans hx151_0
                    replace hx151_1 := (HB.out.cell (World.block_lt_of_cell? w _ hx151_1)).trans hx151_1
                    replace hx151_2 := (HB.out.cell (World.block_lt_of_cell? w _ hx151_2)).trans hx151_2
                    have HR151_2 := Aside0.mk hi151_2
                    have HC151_2 := Aside0.mk hl151_2
                    clear hi151_2 hl151_2
                    replace p151 := eq_true p151
                    replace q151 := eq_true q151
                    have ea_ := Option.some.inj (hx147_2.symm.trans hx151_2)
                    injection ea_ with ea_ en_ ec_
                    subst ea_
                    subst ec_
                    clear en_
                    refine start_ (n := 38) (S := fun w' => w'.cell? (ad146.add ((x5_1).toNat * 3)) = some (.int .i64 ((rd_T66 l0 x5_1).f0)) ∧ w'.cell? ⟨(ad146.add ((x5_1).toNat * 3)).block, (ad146.add ((x5_1).toNat * 3)).off + 1, none⟩ = some (.int .i64 ((rd_T66 l0 x5_1).f1)) ∧ w'.cell? ⟨(ad146.add ((x5_1).toNat * 3)).block, (ad146.add ((x5_1).toNat * 3)).off + 2, none⟩ = some (.slice A146_2 ((rd_T66 l0 x5_1).f2).length c146_2) ∧ w'.cell? (ad147.add ((x5_1).toNat * 3)) = some (.int .i64 ((rd_T66 l1 x5_1).f0)) ∧ w'.cell? ⟨(ad147.add ((x5_1).toNat * 3)).block, (ad147.add ((x5_1).toNat * 3)).off + 1, none⟩ = some (.int .i64 ((rd_T66 l1 x5_1).f1)) ∧ w'.cell? ⟨(ad147.add ((x5_1).toNat * 3)).block, (ad147.add ((x5_1).toNat * 3)).off + 2, none⟩ = some (.slice A147_2 ((rd_T66 l1 x5_1).f2).length c147_2) ∧ w'.cell? (ad146.add ((x5_1).toNat * 3)) = some (.int .i64 ((rd_T66 l0 x5_1).f0)) ∧ w'.cell? ⟨(ad146.add ((x5_1).toNat * 3)).block, (ad146.add ((x5_1).toNat * 3)).off + 1, none⟩ = some (.int .i64 ((rd_T66 l0 x5_1).f1)) ∧ w'.cell? ⟨(ad146.add ((x5_1).toNat * 3)).block, (ad146.add ((x5_1).toNat * 3)).off + 2, none⟩ = some (.slice A146_2 ((rd_T66 l0 x5_1).f2).length c146_2) ∧ w'.cell? (ad147.add ((x5_1).toNat * 3)) = some (.int .i64 ((rd_T66 l1 x5_1).f0)) ∧ w'.cell? ⟨(ad147.add ((x5_1).toNat * 3)).block, (ad147.add ((x5_1).toNat * 3)).off + 1, none⟩ = some (.int .i64 ((rd_T66 l1 x5_1).f1)) ∧ w'.cell? ⟨(ad147.add ((x5_1).toNat * 3)).block, (ad147.add ((x5_1).toNat * 3)).off + 2, none⟩ = some (.slice A147_2 ((rd_T66 l1 x5_1).f2).length c147_2) ∧ w'.cell? (ad146.add ((x5_1).toNat * 3)) = some (.int .i64 ((rd_T66 l0 x5_1).f0)) ∧ w'.cell? ⟨(ad146.add ((x5_1).toNat * 3)).block, (ad146.add ((x5_1).toNat * 3)).off + 1, none⟩ = some (.int .i64 ((rd_T66 l0 x5_1).f1)) ∧ w'.cell? ⟨(ad146.add ((x5_1).toNat * 3)).block, (ad146.add ((x5_1).toNat * 3)).off + 2, none⟩ = some (.slice A146_2 ((rd_T66 l0 x5_1).f2).length c146_2) ∧ w'.cell? (ad147.add ((x5_1).toNat * 3)) = some (.int .i64 ((rd_T66 l1 x5_1).f0)) ∧ w'.cell? ⟨(ad147.add ((x5_1).toNat * 3)).block, (ad147.add ((x5_1).toNat * 3)).off + 1, none⟩ = some (.int .i64 ((rd_T66 l1 x5_1).f1)) ∧ w'.cell? ⟨(ad147.add ((x5_1).toNat * 3)).block, (ad147.add ((x5_1).toNat * 3)).off + 2, none⟩ = some (.slice A147_2 ((rd_T66 l1 x5_1).f2).length c147_2)) (ds := []) #[false, false, false, false, false, false, false, false, false, false, false, false, false, false, false, false, false, false, false, false, false, false, false, false, false, false, false, false, false, false, false, false, false, false, false, false, false, false] (by kernel_rfl) rfl rfl ⟨((HB.out.cell (World.block_lt_of_cell? w _ hw146_0)).trans hw146_0), ((HB.out.cell (World.block_lt_of_cell? w _ hw146_1)).trans hw146_1), ((HB.out.cell (World.block_lt_of_cell? w _ hw146_2)).trans hw146_2), ((HB.out.cell (World.block_lt_of_cell? w _ hw147_0)).trans hw147_0), ((HB.out.cell (World.block_lt_of_cell? w _ hw147_1)).trans hw147_1), ((HB.out.cell (World.block_lt_of_cell? w _ hw147_2)).trans hw147_2), ((HB.out.cell (World.block_lt_of_cell? w _ hw148_0)).trans hw148_0), ((HB.out.cell (World.block_lt_of_cell? w _ hw148_1)).trans hw148_1), ((HB.out.cell (World.block_lt_of_cell? w _ hw148_2)).trans hw148_2), ((HB.out.cell (World.block_lt_of_cell? w _ hw149_0)).trans hw149_0), ((HB.out.cell (World.block_lt_of_cell? w _ hw149_1)).trans hw149_1), ((HB.out.cell (World.block_lt_of_cell? w _ hw149_2)).trans hw149_2), ((HB.out.cell (World.block_lt_of_cell? w _ hw150_0)).trans hw150_0), ((HB.out.cell (World.block_lt_of_cell? w _ hw150_1)).trans hw150_1), ((HB.out.cell (World.block_lt_of_cell? w _ hw150_2)).trans hw150_2), ((HB.out.cell (World.block_lt_of_cell? w _ hw151_0)).trans hw151_0), ((HB.out.cell (World.block_lt_of_cell? w _ hw151_1)).trans hw151_1), ((HB.out.cell (World.block_lt_of_cell? w _ hw151_2)).trans hw151_2)⟩ (fun hHeld => ?_); refine with_tabW standbyref03_SameWrites.tab6 standbyref03_SameWrites.bits6 (fun HT_ HW_ => ?_)
                    generalize wr.drew = w11 at HB HR146_2 HR147_2 HR148_2 HR149_2 HR150_2 HR151_2 hx146_0 hx146_1 hx146_2 hx147_0 hx147_1 hx147_2 hx148_0 hx148_1 hx148_2 hx149_0 hx149_1 hx149_2 hx150_0 hx150_1 hx150_2 hx151_0 hx151_1 hx151_2 hHeld ⊢
                    refine zp 0 17 HT_.out ?_
                    refine zp 1 18 HT_.out ?_
                    refine zp 2 19 HT_.out ?_
                    refine zp 3 20 HT_.out ?_
                    refine zp 5 22 HT_.out ?_
                    refine zp 6 23 HT_.out ?_
                    refine zp 7 24 HT_.out ?_
                    refine zp 8 25 HT_.out ?_
                    refine take_ (i := 4) (N := some 21) (v := ?_) (a' := ?_) #[true, true, true, true, true, true, true, true, true, false, false, false, false, false, false, false, false, false, false, false, false, false, false, false, false, false, false, false, false, false, false, false, false, false, false, false, false, false] rfl rfl (take_ofW HT_.out HW_.out (by kernel_rfl)) (fun _ _ _ h => h) (Or.inl ⟨by rfl, ?_⟩) hHeld ?_ ?_
                    rotate_left
                    · rintro w' ⟨s0, s1, s2, s3, s4, s5, s6, s7, s8, s9, s10, s11, s12, s13, s14, s15, s16, s17⟩
                      go_simp
                      with_reducible rfl
                    rotate_left
                    · simp only [Act.put, List.setIfInBounds_toArray, List.set_cons_zero, List.set_cons_succ, i64_w, i32_w]
                      rfl
                    refine take_ (i := 9) (N := some 26) (v := ?_) (a' := ?_) #[true, true, true, true, true, true, true, true, true, true, false, false, false, false, false, false, false, false, false, false, false, false, false, false, false, false, false, false, false, false, false, false, false, false, false, false, false, false] rfl rfl (take_ofW HT_.out HW_.out (by kernel_rfl)) (fun _ _ _ h => h) (Or.inl ⟨by rfl, ?_⟩) hHeld ?_ ?_
                    rotate_left
                    · rintro w' ⟨s0, s1, s2, s3, s4, s5, s6, s7, s8, s9, s10, s11, s12, s13, s14, s15, s16, s17⟩
                      go_simp
                      with_reducible rfl
                    rotate_left
                    · simp only [Act.put, List.setIfInBounds_toArray, List.set_cons_zero, List.set_cons_succ, i64_w, i32_w]
                      rfl
                    refine zp 10 27 HT_.out ?_
                    refine zp 11 28 HT_.out ?_
                    refine zp 12 29 HT_.out ?_
                    refine zp 13 30 HT_.out ?_
                    refine zp 14 31 HT_.out ?_
                    refine zp 15 32 HT_.out ?_
                    refine zp 17 34 HT_.out ?_
                    refine zp 18 35 HT_.out ?_
                    refine zp 19 36 HT_.out ?_
                    refine zp 20 37 HT_.out ?_
                    refine take_ (i := 16) (N := some 33) (v := ?_) (a' := ?_) #[true, true, true, true, true, true, true, true, true, true, true, true, true, true, true, true, true, true, true, true, true, false, false, false, false, false, false, false, false, false, false, false, false, false, false, false, false, false] rfl rfl (take_ofW HT_.out HW_.out (by kernel_rfl)) (fun _ _ _ h => h) (Or.inl ⟨by rfl, ?_⟩) hHeld ?_ ?_
                    rotate_left
                    · rintro w' ⟨s0, s1, s2, s3, s4, s5, s6, s7, s8, s9, s10, s11, s12, s13, s14, s15, s16, s17⟩
                      go_simp
                      with_reducible rfl
                    rotate_left
                    · simp only [Act.put, List.setIfInBounds_toArray, List.set_cons_zero, List.set_cons_succ, i64_w, i32_w]
                      rfl
                    refine take_ (i := 21) (N := some 38) (v := ?_) (a' := ?_) #[true, true, true, true, true, true, true, true, true, true, true, true, true, true, true, true, true, true, true, true, true, true, false, false, false, false, false, false, false, false, false, false, false, false, false, false, false, false] rfl rfl (take_ofW HT_.out HW_.out (by kernel_rfl)) (fun _ _ _ h => h) (Or.inl ⟨by rfl, ?_⟩) hHeld ?_ ?_
                    rotate_left
                    · rintro w' ⟨s0, s1, s2, s3, s4, s5, s6, s7, s8, s9, s10, s11, s12, s13, s14, s15, s16, s17⟩
                      go_simp
                      with_reducible rfl
                    rotate_left
                    · simp only [Act.put, List.setIfInBounds_toArray, List.set_cons_zero, List.set_cons_succ, i64_w, i32_w]
                      rfl
                    refine zp 22 39 HT_.out ?_
                    refine zp 23 40 HT_.out ?_
                    refine zp 24 41 HT_.out ?_
                    refine zp 25 42 HT_.out ?_
                    refine zp 26 43 HT_.out ?_
                    refine zp 27 44 HT_.out ?_
                    refine zp 28 45 HT_.out ?_
                    refine zp 30 47 HT_.out ?_
                    refine zp 31 48 HT_.out ?_
                    refine zp 32 49 HT_.out ?_
                    refine zp 33 50 HT_.out ?_
                    refine take_ (i := 29) (N := some 46) (v := ?_) (a' := ?_) #[true, true, true, true, true, true, true, true, true, true, true, true, true, true, true, true, true, true, true, true, true, true, true, true, true, true, true, true, true, true, true, true, true, true, false, false, false, false] rfl rfl (take_ofW HT_.out HW_.out (by kernel_rfl)) (fun _ _ _ h => h) (Or.inl ⟨by rfl, ?_⟩) hHeld ?_ ?_
                    rotate_left
                    · rintro w' ⟨s0, s1, s2, s3, s4, s5, s6, s7, s8, s9, s10, s11, s12, s13, s14, s15, s16, s17⟩
                      go_simp
                      with_reducible rfl
                    rotate_left
                    · simp only [Act.put, List.setIfInBounds_toArray, List.set_cons_zero, List.set_cons_succ, i64_w, i32_w]
                      rfl
                    refine take_ (i := 34) (N := some 51) (v := ?_) (a' := ?_) #[true, true, true, true, true, true, true, true, true, true, true, true, true, true, true, true, true, true, true, true, true, true, true, true, true, true, true, true, true, true, true, true, true, true, true, false, false, false] rfl rfl (take_ofW HT_.out HW_.out (by kernel_rfl)) (fun _ _ _ h => h) (Or.inl ⟨by rfl, ?_⟩) hHeld ?_ ?_
                    rotate_left
                    · rintro w' ⟨s0, s1, s2, s3, s4, s5, s6, s7, s8, s9, s10, s11, s12, s13, s14, s15, s16, s17⟩
                      go_simp
                      with_reducible rfl
                    rotate_left
                    · simp only [Act.put, List.setIfInBounds_toArray, List.set_cons_zero, List.set_cons_succ, i64_w, i32_w]
                      rfl
                    refine one_ (i := 35) (N := some 52) #[true, true, true, true, true, true, true, true, true, true, true, true, true, true, true, true, true, true, true, true, true, true, true, true, true, true, true, true, true, true, true, true, true, true, true, true, false, false] rfl rfl (one_of HT_.out (by kernel_rfl)) (by decide) (fun K hK => ?_)
                    refine goes_ Tryz.func67 (by kernel_rfl) rfl #[.slice A146_2 ((rd_T66 l0 x5_1).f2).length c146_2, .slice A147_2 ((rd_T66 l1 x5_1).f2).length c147_2] (by rfl) rfl rfl (by (try simp only [List.map_toArray, List.map_cons, List.map_nil]); first | done | rfl | (simp only [List.length_drop, List.length_take]; rfl)) ?_
                    with_reducible refine (standbyref03_SameSectors.calls k1 _ _ ((rd_T66 l0 x5_1).f2) _ _ ((rd_T66 l1 x5_1).f2) true _ ?side1 ?side2 ?side3 ?side4 A9.out).mono ?_
                    (case side1 => exact zc HR150_2 HB)
                    (case side2 => exact HC150_2.out)
                    (case side3 => exact zc HR151_2 HB)
                    (case side4 => exact HC151_2.out)
                    rintro e w' ⟨rfl, ⟨nd, rfl⟩⟩
                    refine ⟨_, rfl, ?_⟩
                    refine hK.out _ _ ⟨((HB.out.cell (World.block_lt_of_cell? w _ hw146_0)).trans hw146_0), ((HB.out.cell (World.block_lt_of_cell? w _ hw146_1)).trans hw146_1), ((HB.out.cell (World.block_lt_of_cell? w _ hw146_2)).trans hw146_2), ((HB.out.cell (World.block_lt_of_cell? w _ hw147_0)).trans hw147_0), ((HB.out.cell (World.block_lt_of_cell? w _ hw147_1)).trans hw147_1), ((HB.out.cell (World.block_lt_of_cell? w _ hw147_2)).trans hw147_2), ((HB.out.cell (World.block_lt_of_cell? w _ hw148_0)).trans hw148_0), ((HB.out.cell (World.block_lt_of_cell? w _ hw148_1)).trans hw148_1), ((HB.out.cell (World.block_lt_of_cell? w _ hw148_2)).trans hw148_2), ((HB.out.cell (World.block_lt_of_cell? w _ hw149_0)).trans hw149_0), ((HB.out.cell (World.block_lt_of_cell? w _ hw149_1)).trans hw149_1), ((HB.out.cell (World.block_lt_of_cell? w _ hw149_2)).trans hw149_2), ((HB.out.cell (World.block_lt_of_cell? w _ hw150_0)).trans hw150_0), ((HB.out.cell (World.block_lt_of_cell? w _ hw150_1)).trans hw150_1), ((HB.out.cell (World.block_lt_of_cell? w _ hw150_2)).trans hw150_2), ((HB.out.cell (World.block_lt_of_cell? w _ hw151_0)).trans hw151_0), ((HB.out.cell (World.block_lt_of_cell? w _ hw151_1)).trans hw151_1), ((HB.out.cell (World.block_lt_of_cell? w _ hw151_2)).trans hw151_2)⟩ (fun hHeld => ?_)
                    clear hK K
                    refine norm_ (a' := ?_) ?_ ?_
                    rotate_left
                    · show Act.put _ (some 52) _ = _
                      simp only [Act.put, List.setIfInBounds_toArray, List.set_cons_zero, List.set_cons_succ, i64_w, i32_w]
                      rfl
                    refine zp 36 53 HT_.out ?_
                    refine zp 37 54 HT_.out ?_
                    refine done_ (done_of HT_.out (by kernel_rfl)) ?_
                    try go_wp2
                    go_roundg k1
                    case measure => have := HK1.out; omega
                    case rel => exact ⟨(wrap64 (x5_1 + 1)), (by first | rfl | (simp; done) | (simp [*]; done)), H', ⟨by have := HK1.out; omega⟩, ⟨zb HB⟩⟩
                  · replace c10 := Bool.eq_false_iff.mpr c10
                    subst c10
                    have H1 : (some false) = some r := by rw [if_neg (show ¬ (false = true) by decide)] at H; exact H
                    clear H
                    have H := H1
                    clear H1
                    obtain rfl := Option.some.inj H
                    try go_wp2
                    replace HB := Aside0.mk (below_drew1 HB.out)
                    have p146 : 0 ≤ (x5_1 : Int) := of_decide_eq_true (by first | (with_reducible assumption) | assumption)
                    have q146 : x5_1 < (l0.length : Int) := of_decide_eq_true (by first | (with_reducible assumption) | assumption)
                    obtain ⟨ad146, A146_2, c146_2, e146, hx146_0, hx146_1, hx146_2, hl146_2, hi146_2⟩ := at_T66 HR0.out x5_1 p146 q146
                    have hw146_2 := hx146_2
                    have hw146_1 := hx146_1
                    have hw146_0 := hx146_0
                    cases e146
                    replace hx146_0 := (HB.out.cell (World.block_lt_of_cell? w _ hx146_0)).trans hx146_0
                    replace hx146_1 := (HB.out.cell (World.block_lt_of_cell? w _ hx146_1)).trans hx146_1
                    replace hx146_2 := (HB.out.cell (World.block_lt_of_cell? w _ hx146_2)).trans hx146_2
                    have HR146_2 := Aside0.mk hi146_2
                    have HC146_2 := Aside0.mk hl146_2
                    clear hi146_2 hl146_2
                    replace p146 := eq_true p146
                    replace q146 := eq_true q146
                    have p147 : 0 ≤ (x5_1 : Int) := of_decide_eq_true (by first | (with_reducible assumption) | assumption)
                    have q147 : x5_1 < (l1.length : Int) := of_decide_eq_true (by first | (with_reducible assumption) | assumption)
                    obtain ⟨ad147, A147_2, c147_2, e147, hx147_0, hx147_1, hx147_2, hl147_2, hi147_2⟩ := at_T66 HR1.out x5_1 p147 q147
                    have hw147_2 := hx147_2
                    have hw147_1 := hx147_1
                    have hw147_0 := hx147_0
                    cases e147
                    replace hx147_0 := (HB.out.cell (World.block_lt_of_cell? w _ hx147_0)).trans hx147_0
                    replace hx147_1 := (HB.out.cell (World.block_lt_of_cell? w _ hx147_1)).trans hx147_1
                    replace hx147_2 := (HB.out.cell (World.block_lt_of_cell? w _ hx147_2)).trans hx147_2
                    have HR147_2 := Aside0.mk hi147_2
                    have HC147_2 := Aside0.mk hl147_2
                    clear hi147_2 hl147_2
                    replace p147 := eq_true p147
                    replace q147 := eq_true q147
                    have p148 : 0 ≤ (x5_1 : Int) := of_decide_eq_true (by first | (with_reducible assumption) | assumption)
                    have q148 : x5_1 < (l0.length : Int) := of_decide_eq_true (by first | (with_reducible assumption) | assumption)
                    obtain ⟨ad148, A148_2, c148_2, e148, hx148_0, hx148_1, hx148_2, hl148_2, hi148_2⟩ := at_T66 HR0.out x5_1 p148 q148
                    have hw148_2 := hx148_2
                    have hw148_1 := hx148_1
                    have hw148_0 := hx148_0
                    obtain rfl : ad146 = ad148 := (by injection e148)
                    replace hx148_0 := (HB.out.cell (World.block_lt_of_cell? w _ hx148_0)).trans hx148_0
                    replace hx148_1 := (HB.out.cell (World.block_lt_of_cell? w _ hx148_1)).trans hx148_1
                    replace hx148_2 := (HB.out.cell (World.block_lt_of_cell? w _ hx148_2)).trans hx148_2
                    have HR148_2 := Aside0.mk hi148_2
                    have HC148_2 := Aside0.mk hl148_2
                    clear hi148_2 hl148_2
                    replace p148 := eq_true p148
                    replace q148 := eq_true q148
                    have ea_ := Option.some.inj (hx146_2.symm.trans hx148_2)
                    injection ea_ with ea_ en_ ec_
                    subst ea_
                    subst ec_
                    clear en_
                    have p149 : 0 ≤ (x5_1 : Int) := of_decide_eq_true (by first | (with_reducible assumption) | assumption)
                    have q149 : x5_1 < (l1.length : Int) := of_decide_eq_true (by first | (with_reducible assumption) | assumption)
                    obtain ⟨ad149, A149_2, c149_2, e149, hx149_0, hx149_1, hx149_2, hl149_2, hi149_2⟩ := at_T66 HR1.out x5_1 p149 q149
                    have hw149_2 := hx149_2
                    have hw149_1 := hx149_1
                    have hw149_0 := hx149_0
                    obtain rfl : ad147 = ad149 := (by injection e149)
                    replace hx149_0 := (HB.out.cell (World.block_lt_of_cell? w _ hx149_0)).trans hx149_0
                    replace hx149_1 := (HB.out.cell (World.block_lt_of_cell? w _ hx149_1)).trans hx149_1
                    replace hx149_2 := (HB.out.cell (World.block_lt_of_cell? w _ hx149_2)).trans hx149_2
                    have HR149_2 := Aside0.mk hi149_2
                    have HC149_2 := Aside0.mk hl149_2
                    clear hi149_2 hl149_2
                    replace p149 := eq_true p149
                    replace q149 := eq_true q149
                    have ea_ := Option.some.inj (hx147_2.symm.trans hx149_2)
                    injection ea_ with ea_ en_ ec_
                    subst ea_
                    subst ec_
                    clear en_
                    have p150 : 0 ≤ (x5_1 : Int) := of_decide_eq_true (by first | (with_reducible assumption) | assumption)
                    have q150 : x5_1 < (l0.length : Int) := of_decide_eq_true (by first | (with_reducible assumption) | assumption)
                    obtain ⟨ad150, A150_2, c150_2, e150, hx150_0, hx150_1, hx150_2, hl150_2, hi150_2⟩ := at_T66 HR0.out x5_1 p150 q150
                    have hw150_2 := hx150_2
                    have hw150_1 := hx150_1
                    have hw150_0 := hx150_0
                    obtain rfl : ad146 = ad150 := (by injection e150)
                    replace hx150_0 := (HB.out.cell (World.block_lt_of_cell? w _ hx150_0)).trans hx150_0
                    replace hx150_1 := (HB.out.cell (World.block_lt_of_cell? w _ hx150_1)).trans hx150_1
                    replace hx150_2 := (HB.out.cell (World.block_lt_of_cell? w _ hx150_2)).trans hx150_2
                    have HR150_2 := Aside0.mk hi150_2
                    have HC150_2 := Aside0.mk hl150_2
                    clear hi150_2 hl150_2
                    replace p150 := eq_true p150
                    replace q150 := eq_true q150
                    have ea_ := Option.some.inj (hx146_2.symm.trans hx150_2)
                    injection ea_ with ea_ en_ ec_
                    subst ea_
                    subst ec_
                    clear en_
                    have p151 : 0 ≤ (x5_1 : Int) := of_decide_eq_true (by first | (with_reducible assumption) | assumption)
                    have q151 : x5_1 < (l1.length : Int) := of_decide_eq_true (by first | (with_reducible assumption) | assumption)
                    obtain ⟨ad151, A151_2, c151_2, e151, hx151_0, hx151_1, hx151_2, hl151_2, hi151_2⟩ := at_T66 HR1.out x5_1 p151 q151
                    have hw151_2 := hx151_2
                    have hw151_1 := hx151_1
                    have hw151_0 := hx151_0
                    obtain rfl : ad147 = ad151 := (by injection e151)
                    replace hx151_0 := (HB.out.cell (World.block_lt_of_cell? w _ hx151_0)).trans hx151_0
                    replace hx151_1 := (HB.out.cell (World.block_lt_of_cell? w _ hx151_1)).trans hx151_1
                    replace hx151_2 := (HB.out.cell (World.block_lt_of_cell? w _ hx151_2)).trans hx151_2
                    have HR151_2 := Aside0.mk hi151_2
                    have HC151_2 := Aside0.mk hl151_2
                    clear hi151_2 hl151_2
                    replace p151 := eq_true p151
                    replace q151 := eq_true q151
                    have ea_ := Option.some.inj (hx147_2.symm.trans hx151_2)
                    injection ea_ with ea_ en_ ec_
                    subst ea_
                    subst ec_
                    clear en_
                    refine start_ (n := 38) (S := fun w' => w'.cell? (ad146.add ((x5_1).toNat * 3)) = some (.int .i64 ((rd_T66 l0 x5_1).f0)) ∧ w'.cell? ⟨(ad146.add ((x5_1).toNat * 3)).block, (ad146.add ((x5_1).toNat * 3)).off + 1, none⟩ = some (.int .i64 ((rd_T66 l0 x5_1).f1)) ∧ w'.cell? ⟨(ad146.add ((x5_1).toNat * 3)).block, (ad146.add ((x5_1).toNat * 3)).off + 2, none⟩ = some (.slice A146_2 ((rd_T66 l0 x5_1).f2).length c146_2) ∧ w'.cell? (ad147.add ((x5_1).toNat * 3)) = some (.int .i64 ((rd_T66 l1 x5_1).f0)) ∧ w'.cell? ⟨(ad147.add ((x5_1).toNat * 3)).block, (ad147.add ((x5_1).toNat * 3)).off + 1, none⟩ = some (.int .i64 ((rd_T66 l1 x5_1).f1)) ∧ w'.cell? ⟨(ad147.add ((x5_1).toNat * 3)).block, (ad147.add ((x5_1).toNat * 3)).off + 2, none⟩ = some (.slice A147_2 ((rd_T66 l1 x5_1).f2).length c147_2) ∧ w'.cell? (ad146.add ((x5_1).toNat * 3)) = some (.int .i64 ((rd_T66 l0 x5_1).f0)) ∧ w'.cell? ⟨(ad146.add ((x5_1).toNat * 3)).block, (ad146.add ((x5_1).toNat * 3)).off + 1, none⟩ = some (.int .i64 ((rd_T66 l0 x5_1).f1)) ∧ w'.cell? ⟨(ad146.add ((x5_1).toNat * 3)).block, (ad146.add ((x5_1).toNat * 3)).off + 2, none⟩ = some (.slice A146_2 ((rd_T66 l0 x5_1).f2).length c146_2) ∧ w'.cell? (ad147.add ((x5_1).toNat * 3)) = some (.int .i64 ((rd_T66 l1 x5_1).f0)) ∧ w'.cell? ⟨(ad147.add ((x5_1).toNat * 3)).block, (ad147.add ((x5_1).toNat * 3)).off + 1, none⟩ = some (.int .i64 ((rd_T66 l1 x5_1).f1)) ∧ w'.cell? ⟨(ad147.add ((x5_1).toNat * 3)).block, (ad147.add ((x5_1).toNat * 3)).off + 2, none⟩ = some (.slice A147_2 ((rd_T66 l1 x5_1).f2).length c147_2) ∧ w'.cell? (ad146.add ((x5_1).toNat * 3)) = some (.int .i64 ((rd_T66 l0 x5_1).f0)) ∧ w'.cell? ⟨(ad146.add ((x5_1).toNat * 3)).block, (ad146.add ((x5_1).toNat * 3)).off + 1, none⟩ = some (.int .i64 ((rd_T66 l0 x5_1).f1)) ∧ w'.cell? ⟨(ad146.add ((x5_1).toNat * 3)).block, (ad146.add ((x5_1).toNat * 3)).off + 2, none⟩ = some (.slice A146_2 ((rd_T66 l0 x5_1).f2).length c146_2) ∧ w'.cell? (ad147.add ((x5_1).toNat * 3)) = some (.int .i64 ((rd_T66 l1 x5_1).f0)) ∧ w'.cell? ⟨(ad147.add ((x5_1).toNat * 3)).block, (ad147.add ((x5_1).toNat * 3)).off + 1, none⟩ = some (.int .i64 ((rd_T66 l1 x5_1).f1)) ∧ w'.cell? ⟨(ad147.add ((x5_1).toNat * 3)).block, (ad147.add ((x5_1).toNat * 3)).off + 2, none⟩ = some (.slice A147_2 ((rd_T66 l1 x5_1).f2).length c147_2)) (ds := []) #[false, false, false, false, false, false, false, false, false, false, false, false, false, false, false, false, false, false, false, false, false, false, false, false, false, false, false, false, false, false, false, false, false, false, false, false, false, false] (by kernel_rfl) rfl rfl ⟨((HB.out.cell (World.block_lt_of_cell? w _ hw146_0)).trans hw146_0), ((HB.out.cell (World.block_lt_of_cell? w _ hw146_1)).trans hw146_1), ((HB.out.cell (World.block_lt_of_cell? w _ hw146_2)).trans hw146_2), ((HB.out.cell (World.block_lt_of_cell? w _ hw147_0)).trans hw147_0), ((HB.out.cell (World.block_lt_of_cell? w _ hw147_1)).trans hw147_1), ((HB.out.cell (World.block_lt_of_cell? w _ hw147_2)).trans hw147_2), ((HB.out.cell (World.block_lt_of_cell? w _ hw148_0)).trans hw148_0), ((HB.out.cell (World.block_lt_of_cell? w _ hw148_1)).trans hw148_1), ((HB.out.cell (World.block_lt_of_cell? w _ hw148_2)).trans hw148_2), ((HB.out.cell (World.block_lt_of_cell? w _ hw149_0)).trans hw149_0), ((HB.out.cell (World.block_lt_of_cell? w _ hw149_1)).trans hw149_1), ((HB.out.cell (World.block_lt_of_cell? w _ hw149_2)).trans hw149_2), ((HB.out.cell (World.block_lt_of_cell? w _ hw150_0)).trans hw150_0), ((HB.out.cell (World.block_lt_of_cell? w _ hw150_1)).trans hw150_1), ((HB.out.cell (World.block_lt_of_cell? w _ hw150_2)).trans hw150_2), ((HB.out.cell (World.block_lt_of_cell? w _ hw151_0)).trans hw151_0), ((HB.out.cell (World.block_lt_of_cell? w _ hw151_1)).trans hw151_1), ((HB.out.cell (World.block_lt_of_cell? w _ hw151_2)).trans hw151_2)⟩ (fun hHeld => ?_); refine with_tabW standbyref03_SameWrites.tab6 standbyref03_SameWrites.bits6 (fun HT_ HW_ => ?_)
                    generalize wr.drew = w12 at HB HR146_2 HR147_2 HR148_2 HR149_2 HR150_2 HR151_2 hx146_0 hx146_1 hx146_2 hx147_0 hx147_1 hx147_2 hx148_0 hx148_1 hx148_2 hx149_0 hx149_1 hx149_2 hx150_0 hx150_1 hx150_2 hx151_0 hx151_1 hx151_2 hHeld ⊢
                    refine zp 0 17 HT_.out ?_
                    refine zp 1 18 HT_.out ?_
                    refine zp 2 19 HT_.out ?_
                    refine zp 3 20 HT_.out ?_
                    refine zp 5 22 HT_.out ?_
                    refine zp 6 23 HT_.out ?_
                    refine zp 7 24 HT_.out ?_
                    refine zp 8 25 HT_.out ?_
                    refine take_ (i := 4) (N := some 21) (v := ?_) (a' := ?_) #[true, true, true, true, true, true, true, true, true, false, false, false, false, false, false, false, false, false, false, false, false, false, false, false, false, false, false, false, false, false, false, false, false, false, false, false, false, false] rfl rfl (take_ofW HT_.out HW_.out (by kernel_rfl)) (fun _ _ _ h => h) (Or.inl ⟨by rfl, ?_⟩) hHeld ?_ ?_
                    rotate_left
                    · rintro w' ⟨s0, s1, s2, s3, s4, s5, s6, s7, s8, s9, s10, s11, s12, s13, s14, s15, s16, s17⟩
                      go_simp
                      with_reducible rfl
                    rotate_left
                    · simp only [Act.put, List.setIfInBounds_toArray, List.set_cons_zero, List.set_cons_succ, i64_w, i32_w]
                      rfl
                    refine take_ (i := 9) (N := some 26) (v := ?_) (a' := ?_) #[true, true, true, true, true, true, true, true, true, true, false, false, false, false, false, false, false, false, false, false, false, false, false, false, false, false, false, false, false, false, false, false, false, false, false, false, false, false] rfl rfl (take_ofW HT_.out HW_.out (by kernel_rfl)) (fun _ _ _ h => h) (Or.inl ⟨by rfl, ?_⟩) hHeld ?_ ?_
                    rotate_left
                    · rintro w' ⟨s0, s1, s2, s3, s4, s5, s6, s7, s8, s9, s10, s11, s12, s13, s14, s15, s16, s17⟩
                      go_simp
                      with_reducible rfl
                    rotate_left
                    · simp only [Act.put, List.setIfInBounds_toArray, List.set_cons_zero, List.set_cons_succ, i64_w, i32_w]
                      rfl
                    refine zp 10 27 HT_.out ?_
                    refine zp 11 28 HT_.out ?_
                    refine zp 12 29 HT_.out ?_
                    refine zp 13 30 HT_.out ?_
                    refine zp 14 31 HT_.out ?_
                    refine zp 15 32 HT_.out ?_
                    refine zp 17 34 HT_.out ?_
                    refine zp 18 35 HT_.out ?_
                    refine zp 19 36 HT_.out ?_
                    refine zp 20 37 HT_.out ?_
                    refine take_ (i := 16) (N := some 33) (v := ?_) (a' := ?_) #[true, true, true, true, true, true, true, true, true, true, true, true, true, true, true, true, true, true, true, true, true, false, false, false, false, false, false, false, false, false, false, false, false, false, false, false, false, false] rfl rfl (take_ofW HT_.out HW_.out (by kernel_rfl)) (fun _ _ _ h => h) (Or.inl ⟨by rfl, ?_⟩) hHeld ?_ ?_
                    rotate_left
                    · rintro w' ⟨s0, s1, s2, s3, s4, s5, s6, s7, s8, s9, s10, s11, s12, s13, s14, s15, s16, s17⟩
                      go_simp
                      with_reducible rfl
                    rotate_left
                    · simp only [Act.put, List.setIfInBounds_toArray, List.set_cons_zero, List.set_cons_succ, i64_w, i32_w]
                      rfl
                    refine take_ (i := 21) (N := some 38) (v := ?_) (a' := ?_) #[true, true, true, true, true, true, true, true, true, true, true, true, true, true, true, true, true, true, true, true, true, true, false, false, false, false, false, false, false, false, false, false, false, false, false, false, false, false] rfl rfl (take_ofW HT_.out HW_.out (by kernel_rfl)) (fun _ _ _ h => h) (Or.inl ⟨by rfl, ?_⟩) hHeld ?_ ?_
                    rotate_left
                    · rintro w' ⟨s0, s1, s2, s3, s4, s5, s6, s7, s8, s9, s10, s11, s12, s13, s14, s15, s16, s17⟩
                      go_simp
                      with_reducible rfl
                    rotate_left
                    · simp only [Act.put, List.setIfInBounds_toArray, List.set_cons_zero, List.set_cons_succ, i64_w, i32_w]
                      rfl
                    refine zp 22 39 HT_.out ?_
                    refine zp 23 40 HT_.out ?_
                    refine zp 24 41 HT_.out ?_
                    refine zp 25 42 HT_.out ?_
                    refine zp 26 43 HT_.out ?_
                    refine zp 27 44 HT_.out ?_
                    refine zp 28 45 HT_.out ?_
                    refine zp 30 47 HT_.out ?_
                    refine zp 31 48 HT_.out ?_
                    refine zp 32 49 HT_.out ?_
                    refine zp 33 50 HT_.out ?_
                    refine take_ (i := 29) (N := some 46) (v := ?_) (a' := ?_) #[true, true, true, true, true, true, true, true, true, true, true, true, true, true, true, true, true, true, true, true, true, true, true, true, true, true, true, true, true, true, true, true, true, true, false, false, false, false] rfl rfl (take_ofW HT_.out HW_.out (by kernel_rfl)) (fun _ _ _ h => h) (Or.inl ⟨by rfl, ?_⟩) hHeld ?_ ?_
                    rotate_left
                    · rintro w' ⟨s0, s1, s2, s3, s4, s5, s6, s7, s8, s9, s10, s11, s12, s13, s14, s15, s16, s17⟩
                      go_simp
                      with_reducible rfl
                    rotate_left
                    · simp only [Act.put, List.setIfInBounds_toArray, List.set_cons_zero, List.set_cons_succ, i64_w, i32_w]
                      rfl
                    refine take_ (i := 34) (N := some 51) (v := ?_) (a' := ?_) #[true, true, true, true, true, true, true, true, true, true, true, true, true, true, true, true, true, true, true, true, true, true, true, true, true, true, true, true, true, true, true, true, true, true, true, false, false, false] rfl rfl (take_ofW HT_.out HW_.out (by kernel_rfl)) (fun _ _ _ h => h) (Or.inl ⟨by rfl, ?_⟩) hHeld ?_ ?_
                    rotate_left
                    · rintro w' ⟨s0, s1, s2, s3, s4, s5, s6, s7, s8, s9, s10, s11, s12, s13, s14, s15, s16, s17⟩
                      go_simp
                      with_reducible rfl
                    rotate_left
                    · simp only [Act.put, List.setIfInBounds_toArray, List.set_cons_zero, List.set_cons_succ, i64_w, i32_w]
                      rfl
                    refine one_ (i := 35) (N := some 52) #[true, true, true, true, true, true, true, true, true, true, true, true, true, true, true, true, true, true, true, true, true, true, true, true, true, true, true, true, true, true, true, true, true, true, true, true, false, false] rfl rfl (one_of HT_.out (by kernel_rfl)) (by decide) (fun K hK => ?_)
                    refine goes_ Tryz.func67 (by kernel_rfl) rfl #[.slice A146_2 ((rd_T66 l0 x5_1).f2).length c146_2, .slice A147_2 ((rd_T66 l1 x5_1).f2).length c147_2] (by rfl) rfl rfl (by (try simp only [List.map_toArray, List.map_cons, List.map_nil]); first | done | rfl | (simp only [List.length_drop, List.length_take]; rfl)) ?_
                    with_reducible refine (standbyref03_SameSectors.calls k1 _ _ ((rd_T66 l0 x5_1).f2) _ _ ((rd_T66 l1 x5_1).f2) false _ ?side1 ?side2 ?side3 ?side4 A9.out).mono ?_
                    (case side1 => exact zc HR150_2 HB)
                    (case side2 => exact HC150_2.out)
                    (case side3 => exact zc HR151_2 HB)
                    (case side4 => exact HC151_2.out)
                    rintro e w' ⟨rfl, ⟨nd, rfl⟩⟩
                    refine ⟨_, rfl, ?_⟩
                    refine hK.out _ _ ⟨((HB.out.cell (World.block_lt_of_cell? w _ hw146_0)).trans hw146_0), ((HB.out.cell (World.block_lt_of_cell? w _ hw146_1)).trans hw146_1), ((HB.out.cell (World.block_lt_of_cell? w _ hw146_2)).trans hw146_2), ((HB.out.cell (World.block_lt_of_cell? w _ hw147_0)).trans hw147_0), ((HB.out.cell (World.block_lt_of_cell? w _ hw147_1)).trans hw147_1), ((HB.out.cell (World.block_lt_of_cell? w _ hw147_2)).trans hw147_2), ((HB.out.cell (World.block_lt_of_cell? w _ hw148_0)).trans hw148_0), ((HB.out.cell (World.block_lt_of_cell? w _ hw148_1)).trans hw148_1), ((HB.out.cell (World.block_lt_of_cell? w _ hw148_2)).trans hw148_2), ((HB.out.cell (World.block_lt_of_cell? w _ hw149_0)).trans hw149_0), ((HB.out.cell (World.block_lt_of_cell? w _ hw149_1)).trans hw149_1), ((HB.out.cell (World.block_lt_of_cell? w _ hw149_2)).trans hw149_2), ((HB.out.cell (World.block_lt_of_cell? w _ hw150_0)).trans hw150_0), ((HB.out.cell (World.block_lt_of_cell? w _ hw150_1)).trans hw150_1), ((HB.out.cell (World.block_lt_of_cell? w _ hw150_2)).trans hw150_2), ((HB.out.cell (World.block_lt_of_cell? w _ hw151_0)).trans hw151_0), ((HB.out.cell (World.block_lt_of_cell? w _ hw151_1)).trans hw151_1), ((HB.out.cell (World.block_lt_of_cell? w _ hw151_2)).trans hw151_2)⟩ (fun hHeld => ?_)
                    clear hK K
                    refine norm_ (a' := ?_) ?_ ?_
                    rotate_left
                    · show Act.put _ (some 52) _ = _
                      simp only [Act.put, List.setIfInBounds_toArray, List.set_cons_zero, List.set_cons_succ, i64_w, i32_w]
                      rfl
                    refine zp 36 53 HT_.out ?_
                    refine zp 37 54 HT_.out ?_
                    refine done_ (done_of HT_.out (by kernel_rfl)) ?_
                    try go_wp2
                    go_ret
                    exact ⟨by first | rfl | (simp [errW_none, errW_some] <;> rfl) | (simp [*, errW_none, errW_some] <;> rfl), zb HB⟩
                · rw [if_neg c8] at H
                  have c8b0 : (((rd_T66 l0 x5_1).f1) == ((rd_T66 l1 x5_1).f1)) = false := beq_eq_false_iff_ne.mpr c8
                  have c8b1 : (((rd_T66 l0 x5_1).f1) != ((rd_T66 l1 x5_1).f1)) = true := bne_iff_ne.mpr c8
                  obtain rfl := Option.some.inj H
                  try go_wp2
                  replace HB := Aside0.mk (below_drew1 HB.out)
                  have p146 : 0 ≤ (x5_1 : Int) := of_decide_eq_true (by first | (with_reducible assumption) | assumption)
                  have q146 : x5_1 < (l0.length : Int) := of_decide_eq_true (by first | (with_reducible assumption) | assumption)
                  obtain ⟨ad146, A146_2, c146_2, e146, hx146_0, hx146_1, hx146_2, hl146_2, hi146_2⟩ := at_T66 HR0.out x5_1 p146 q146
                  have hw146_2 := hx146_2
                  have hw146_1 := hx146_1
                  have hw146_0 := hx146_0
                  cases e146
                  replace hx146_0 := (HB.out.cell (World.block_lt_of_cell? w _ hx146_0)).trans hx146_0
                  replace hx146_1 := (HB.out.cell (World.block_lt_of_cell? w _ hx146_1)).trans hx146_1
                  replace hx146_2 := (HB.out.cell (World.block_lt_of_cell? w _ hx146_2)).trans hx146_2
                  have HR146_2 := Aside0.mk hi146_2
                  have HC146_2 := Aside0.mk hl146_2
                  clear hi146_2 hl146_2
                  replace p146 := eq_true p146
                  replace q146 := eq_true q146
                  have p147 : 0 ≤ (x5_1 : Int) := of_decide_eq_true (by first | (with_reducible assumption) | assumption)
                  have q147 : x5_1 < (l1.length : Int) := of_decide_eq_true (by first | (with_reducible assumption) | assumption)
                  obtain ⟨ad147, A147_2, c147_2, e147, hx147_0, hx147_1, hx147_2, hl147_2, hi147_2⟩ := at_T66 HR1.out x5_1 p147 q147
                  have hw147_2 := hx147_2
                  have hw147_1 := hx147_1
                  have hw147_0 := hx147_0
                  cases e147
                  replace hx147_0 := (HB.out.cell (World.block_lt_of_cell? w _ hx147_0)).trans hx147_0
                  replace hx147_1 := (HB.out.cell (World.block_lt_of_cell? w _ hx147_1)).trans hx147_1
                  replace hx147_2 := (HB.out.cell (World.block_lt_of_cell? w _ hx147_2)).trans hx147_2
                  have HR147_2 := Aside0.mk hi147_2
                  have HC147_2 := Aside0.mk hl147_2
                  clear hi147_2 hl147_2
                  replace p147 := eq_true p147
                  replace q147 := eq_true q147
                  have p148 : 0 ≤ (x5_1 : Int) := of_decide_eq_true (by first | (with_reducible assumption) | assumption)
                  have q148 : x5_1 < (l0.length : Int) := of_decide_eq_true (by first | (with_reducible assumption) | assumption)
                  obtain ⟨ad148, A148_2, c148_2, e148, hx148_0, hx148_1, hx148_2, hl148_2, hi148_2⟩ := at_T66 HR0.out x5_1 p148 q148
                  have hw148_2 := hx148_2
                  have hw148_1 := hx148_1
                  have hw148_0 := hx148_0
                  obtain rfl : ad146 = ad148 := (by injection e148)
                  replace hx148_0 := (HB.out.cell (World.block_lt_of_cell? w _ hx148_0)).trans hx148_0
                  replace hx148_1 := (HB.out.cell (World.block_lt_of_cell? w _ hx148_1)).trans hx148_1
                  replace hx148_2 := (HB.out.cell (World.block_lt_of_cell? w _ hx148_2)).trans hx148_2
                  have HR148_2 := Aside0.mk hi148_2
                  have HC148_2 := Aside0.mk hl148_2
                  clear hi148_2 hl148_2
                  replace p148 := eq_true p148
                  replace q148 := eq_true q148
                  have ea_ := Option.some.inj (hx146_2.symm.trans hx148_2)
                  injection ea_ with ea_ en_ ec_
                  subst ea_
                  subst ec_
                  clear en_
                  have p149 : 0 ≤ (x5_1 : Int) := of_decide_eq_true (by first | (with_reducible assumption) | assumption)
                  have q149 : x5_1 < (l1.length : Int) := of_decide_eq_true (by first | (with_reducible assumption) | assumption)
                  obtain ⟨ad149, A149_2, c149_2, e149, hx149_0, hx149_1, hx149_2, hl149_2, hi149_2⟩ := at_T66 HR1.out x5_1 p149 q149
                  have hw149_2 := hx149_2
                  have hw149_1 := hx149_1
                  have hw149_0 := hx149_0
                  obtain rfl : ad147 = ad149 := (by injection e149)
                  replace hx149_0 := (HB.out.cell (World.block_lt_of_cell? w _ hx149_0)).trans hx149_0
                  replace hx149_1 := (HB.out.cell (World.block_lt_of_cell? w _ hx149_1)).trans hx149_1
                  replace hx149_2 := (HB.out.cell (World.block_lt_of_cell? w _ hx149_2)).trans hx149_2
                  have HR149_2 := Aside0.mk hi149_2
                  have HC149_2 := Aside0.mk hl149_2
                  clear hi149_2 hl149_2
                  replace p149 := eq_true p149
                  replace q149 := eq_true q149
                  have ea_ := Option.some.inj (hx147_2.symm.trans hx149_2)
                  injection ea_ with ea_ en_ ec_
                  subst ea_
                  subst ec_
                  clear en_
                  refine start_ (n := 38) (S := fun w' => w'.cell? (ad146.add ((x5_1).toNat * 3)) = some (.int .i64 ((rd_T66 l0 x5_1).f0)) ∧ w'.cell? ⟨(ad146.add ((x5_1).toNat * 3)).block, (ad146.add ((x5_1).toNat * 3)).off + 1, none⟩ = some (.int .i64 ((rd_T66 l0 x5_1).f1)) ∧ w'.cell? ⟨(ad146.add ((x5_1).toNat * 3)).block, (ad146.add ((x5_1).toNat * 3)).off + 2, none⟩ = some (.slice A146_2 ((rd_T66 l0 x5_1).f2).length c146_2) ∧ w'.cell? (ad147.add ((x5_1).toNat * 3)) = some (.int .i64 ((rd_T66 l1 x5_1).f0)) ∧ w'.cell? ⟨(ad147.add ((x5_1).toNat * 3)).block, (ad147.add ((x5_1).toNat * 3)).off + 1, none⟩ = some (.int .i64 ((rd_T66 l1 x5_1).f1)) ∧ w'.cell? ⟨(ad147.add ((x5_1).toNat * 3)).block, (ad147.add ((x5_1).toNat * 3)).off + 2, none⟩ = some (.slice A147_2 ((rd_T66 l1 x5_1).f2).length c147_2) ∧ w'.cell? (ad146.add ((x5_1).toNat * 3)) = some (.int .i64 ((rd_T66 l0 x5_1).f0)) ∧ w'.cell? ⟨(ad146.add ((x5_1).toNat * 3)).block, (ad146.add ((x5_1).toNat * 3)).off + 1, none⟩ = some (.int .i64 ((rd_T66 l0 x5_1).f1)) ∧ w'.cell? ⟨(ad146.add ((x5_1).toNat * 3)).block, (ad146.add ((x5_1).toNat * 3)).off + 2, none⟩ = some (.slice A146_2 ((rd_T66 l0 x5_1).f2).length c146_2) ∧ w'.cell? (ad147.add ((x5_1).toNat * 3)) = some (.int .i64 ((rd_T66 l1 x5_1).f0)) ∧ w'.cell? ⟨(ad147.add ((x5_1).toNat * 3)).block, (ad147.add ((x5_1).toNat * 3)).off + 1, none⟩ = some (.int .i64 ((rd_T66 l1 x5_1).f1)) ∧ w'.cell? ⟨(ad147.add ((x5_1).toNat * 3)).block, (ad147.add ((x5_1).toNat * 3)).off + 2, none⟩ = some (.slice A147_2 ((rd_T66 l1 x5_1).f2).length c147_2)) (ds := []) #[false, false, false, false, false, false, false, false, false, false, false, false, false, false, false, false, false, false, false, false, false, false, false, false, false, false, false, false, false, false, false, false, false, false, false, false, false, false] (by kernel_rfl) rfl rfl ⟨((HB.out.cell (World.block_lt_of_cell? w _ hw146_0)).trans hw146_0), ((HB.out.cell (World.block_lt_of_cell? w _ hw146_1)).trans hw146_1), ((HB.out.cell (World.block_lt_of_cell? w _ hw146_2)).trans hw146_2), ((HB.out.cell (World.block_lt_of_cell? w _ hw147_0)).trans hw147_0), ((HB.out.cell (World.block_lt_of_cell? w _ hw147_1)).trans hw147_1), ((HB.out.cell (World.block_lt_of_cell? w _ hw147_2)).trans hw147_2), ((HB.out.cell (World.block_lt_of_cell? w _ hw148_0)).trans hw148_0), ((HB.out.cell (World.block_lt_of_cell? w _ hw148_1)).trans hw148_1), ((HB.out.cell (World.block_lt_of_cell? w _ hw148_2)).trans hw148_2), ((HB.out.cell (World.block_lt_of_cell? w _ hw149_0)).trans hw149_0), ((HB.out.cell (World.block_lt_of_cell? w _ hw149_1)).trans hw149_1), ((HB.out.cell (World.block_lt_of_cell? w _ hw149_2)).trans hw149_2)⟩ (fun hHeld => ?_); refine with_tabW standbyref03_SameWrites.tab6 standbyref03_SameWrites.bits6 (fun HT_ HW_ => ?_)
                  generalize wr.drew = w13 at HB HR146_2 HR147_2 HR148_2 HR149_2 hx146_0 hx146_1 hx146_2 hx147_0 hx147_1 hx147_2 hx148_0 hx148_1 hx148_2 hx149_0 hx149_1 hx149_2 hHeld ⊢
                  refine zp 0 17 HT_.out ?_
                  refine zp 1 18 HT_.out ?_
                  refine zp 2 19 HT_.out ?_
                  refine zp 3 20 HT_.out ?_
                  refine zp 5 22 HT_.out ?_
                  refine zp 6 23 HT_.out ?_
                  refine zp 7 24 HT_.out ?_
                  refine zp 8 25 HT_.out ?_
                  refine take_ (i := 4) (N := some 21) (v := ?_) (a' := ?_) #[true, true, true, true, true, true, true, true, true, false, false, false, false, false, false, false, false, false, false, false, false, false, false, false, false, false, false, false, false, false, false, false, false, false, false, false, false, false] rfl rfl (take_ofW HT_.out HW_.out (by kernel_rfl)) (fun _ _ _ h => h) (Or.inl ⟨by rfl, ?_⟩) hHeld ?_ ?_
                  rotate_left
                  · rintro w' ⟨s0, s1, s2, s3, s4, s5, s6, s7, s8, s9, s10, s11⟩
                    go_simp
                    with_reducible rfl
                  rotate_left
                  · simp only [Act.put, List.setIfInBounds_toArray, List.set_cons_zero, List.set_cons_succ, i64_w, i32_w]
                    rfl
                  refine take_ (i := 9) (N := some 26) (v := ?_) (a' := ?_) #[true, true, true, true, true, true, true, true, true, true, false, false, false, false, false, false, false, false, false, false, false, false, false, false, false, false, false, false, false, false, false, false, false, false, false, false, false, false] rfl rfl (take_ofW HT_.out HW_.out (by kernel_rfl)) (fun _ _ _ h => h) (Or.inl ⟨by rfl, ?_⟩) hHeld ?_ ?_
                  rotate_left
                  · rintro w' ⟨s0, s1, s2, s3, s4, s5, s6, s7, s8, s9, s10, s11⟩
                    go_simp
                    with_reducible rfl
                  rotate_left
                  · simp only [Act.put, List.setIfInBounds_toArray, List.set_cons_zero, List.set_cons_succ, i64_w, i32_w]
                    rfl
                  refine zp 10 27 HT_.out ?_
                  refine zp 11 28 HT_.out ?_
                  refine zp 12 29 HT_.out ?_
                  refine zp 13 30 HT_.out ?_
                  refine zp 14 31 HT_.out ?_
                  refine zp 15 32 HT_.out ?_
                  refine zp 17 34 HT_.out ?_
                  refine zp 18 35 HT_.out ?_
                  refine zp 19 36 HT_.out ?_
                  refine zp 20 37 HT_.out ?_
                  refine take_ (i := 16) (N := some 33) (v := ?_) (a' := ?_) #[true, true, true, true, true, true, true, true, true, true, true, true, true, true, true, true, true, true, true, true, true, false, false, false, false, false, false, false, false, false, false, false, false, false, false, false, false, false] rfl rfl (take_ofW HT_.out HW_.out (by kernel_rfl)) (fun _ _ _ h => h) (Or.inl ⟨by rfl, ?_⟩) hHeld ?_ ?_
                  rotate_left
                  · rintro w' ⟨s0, s1, s2, s3, s4, s5, s6, s7, s8, s9, s10, s11⟩
                    go_simp
                    with_reducible rfl
                  rotate_left
                  · simp only [Act.put, List.setIfInBounds_toArray, List.set_cons_zero, List.set_cons_succ, i64_w, i32_w]
                    rfl
                  refine take_ (i := 21) (N := some 38) (v := ?_) (a' := ?_) #[true, true, true, true, true, true, true, true, true, true, true, true, true, true, true, true, true, true, true, true, true, true, false, false, false, false, false, false, false, false, false, false, false, false, false, false, false, false] rfl rfl (take_ofW HT_.out HW_.out (by kernel_rfl)) (fun _ _ _ h => h) (Or.inl ⟨by rfl, ?_⟩) hHeld ?_ ?_
                  rotate_left
                  · rintro w' ⟨s0, s1, s2, s3, s4, s5, s6, s7, s8, s9, s10, s11⟩
                    go_simp
                    with_reducible rfl
                  rotate_left
                  · simp only [Act.put, List.setIfInBounds_toArray, List.set_cons_zero, List.set_cons_succ, i64_w, i32_w]
                    rfl
                  refine zp 22 39 HT_.out ?_
                  refine zp 23 40 HT_.out ?_
                  refine zp 24 41 HT_.out ?_
                  refine pure_ (i := 25) (N := some 42) (v := undef) (a' := ?_) #[true, true, true, true, true, true, true, true, true, true, true, true, true, true, true, true, true, true, true, true, true, true, true, true, true, true, false, false, false, false, false, false, false, false, false, false, false, false] rfl rfl (any_of HT_.out (by kernel_rfl)) (fun _ _ _ h => h) (Or.inr ⟨by rfl, rfl⟩) ?_ ?_
                  rotate_left
                  · simp only [Act.put, List.setIfInBounds_toArray, List.set_cons_zero, List.set_cons_succ, i64_w, i32_w]
                    rfl
                  refine pure_ (i := 26) (N := some 43) (v := undef) (a' := ?_) #[true, true, true, true, true, true, true, true, true, true, true, true, true, true, true, true, true, true, true, true, true, true, true, true, true, true, true, false, false, false, false, false, false, false, false, false, false, false] rfl rfl (any_of HT_.out (by kernel_rfl)) (fun _ _ _ h => h) (Or.inr ⟨by rfl, rfl⟩) ?_ ?_
                  rotate_left
                  · simp only [Act.put, List.setIfInBounds_toArray, List.set_cons_zero, List.set_cons_succ, i64_w, i32_w]
                    rfl
                  refine pure_ (i := 27) (N := some 44) (v := undef) (a' := ?_) #[true, true, true, true, true, true, true, true, true, true, true, true, true, true, true, true, true, true, true, true, true, true, true, true, true, true, true, true, false, false, false, false, false, false, false, false, false, false] rfl rfl (any_of HT_.out (by kernel_rfl)) (fun _ _ _ h => h) (Or.inr ⟨by rfl, rfl⟩) ?_ ?_
                  rotate_left
                  · simp only [Act.put, List.setIfInBounds_toArray, List.set_cons_zero, List.set_cons_succ, i64_w, i32_w]
                    rfl
                  refine pure_ (i := 28) (N := some 45) (v := undef) (a' := ?_) #[true, true, true, true, true, true, true, true, true, true, true, true, true, true, true, true, true, true, true, true, true, true, true, true, true, true, true, true, true, false, false, false, false, false, false, false, false, false] rfl rfl (any_of HT_.out (by kernel_rfl)) (fun _ _ _ h => h) (Or.inr ⟨by rfl, rfl⟩) ?_ ?_
                  rotate_left
                  · simp only [Act.put, List.setIfInBounds_toArray, List.set_cons_zero, List.set_cons_succ, i64_w, i32_w]
                    rfl
                  refine pure_ (i := 29) (N := some 46) (v := undef) (a' := ?_) #[true, true, true, true, true, true, true, true, true, true, true, true, true, true, true, true, true, true, true, true, true, true, true, true, true, true, true, true, true, true, false, false, false, false, false, false, false, false] rfl rfl (any_of HT_.out (by kernel_rfl)) (fun _ _ _ h => h) (Or.inr ⟨by rfl, rfl⟩) ?_ ?_
                  rotate_left
                  · simp only [Act.put, List.setIfInBounds_toArray, List.set_cons_zero, List.set_cons_succ, i64_w, i32_w]
                    rfl
                  refine pure_ (i := 30) (N := some 47) (v := undef) (a' := ?_) #[true, true, true, true, true, true, true, true, true, true, true, true, true, true, true, true, true, true, true, true, true, true, true, true, true, true, true, true, true, true, true, false, false, false, false, false, false, false] rfl rfl (any_of HT_.out (by kernel_rfl)) (fun _ _ _ h => h) (Or.inr ⟨by rfl, rfl⟩) ?_ ?_
                  rotate_left
                  · simp only [Act.put, List.setIfInBounds_toArray, List.set_cons_zero, List.set_cons_succ, i64_w, i32_w]
                    rfl
                  refine pure_ (i := 31) (N := some 48) (v := undef) (a' := ?_) #[true, true, true, true, true, true, true, true, true, true, true, true, true, true, true, true, true, true, true, true, true, true, true, true, true, true, true, true, true, true, true, true, false, false, false, false, false, false] rfl rfl (any_of HT_.out (by kernel_rfl)) (fun _ _ _ h => h) (Or.inr ⟨by rfl, rfl⟩) ?_ ?_
                  rotate_left
                  · simp only [Act.put, List.setIfInBounds_toArray, List.set_cons_zero, List.set_cons_succ, i64_w, i32_w]
                    rfl
                  refine pure_ (i := 32) (N := some 49) (v := undef) (a' := ?_) #[true, true, true, true, true, true, true, true, true, true, true, true, true, true, true, true, true, true, true, true, true, true, true, true, true, true, true, true, true, true, true, true, true, false, false, false, false, false] rfl rfl (any_of HT_.out (by kernel_rfl)) (fun _ _ _ h => h) (Or.inr ⟨by rfl, rfl⟩) ?_ ?_
                  rotate_left
                  · simp only [Act.put, List.setIfInBounds_toArray, List.set_cons_zero, List.set_cons_succ, i64_w, i32_w]
                    rfl
                  refine pure_ (i := 33) (N := some 50) (v := undef) (a' := ?_) #[true, true, true, true, true, true, true, true, true, true, true, true, true, true, true, true, true, true, true, true, true, true, true, true, true, true, true, true, true, true, true, true, true, true, false, false, false, false] rfl rfl (any_of HT_.out (by kernel_rfl)) (fun _ _ _ h => h) (Or.inr ⟨by rfl, rfl⟩) ?_ ?_
                  rotate_left
                  · simp only [Act.put, List.setIfInBounds_toArray, List.set_cons_zero, List.set_cons_succ, i64_w, i32_w]
                    rfl
                  refine pure_ (i := 34) (N := some 51) (v := undef) (a' := ?_) #[true, true, true, true, true, true, true, true, true, true, true, true, true, true, true, true, true, true, true, true, true, true, true, true, true, true, true, true, true, true, true, true, true, true, true, false, false, false] rfl rfl (any_of HT_.out (by kernel_rfl)) (fun _ _ _ h => h) (Or.inr ⟨by rfl, rfl⟩) ?_ ?_
                  rotate_left
                  · simp only [Act.put, List.setIfInBounds_toArray, List.set_cons_zero, List.set_cons_succ, i64_w, i32_w]
                    rfl
                  refine pure_ (i := 35) (N := some 52) (v := undef) (a' := ?_) #[true, true, true, true, true, true, true, true, true, true, true, true, true, true, true, true, true, true, true, true, true, true, true, true, true, true, true, true, true, true, true, true, true, true, true, true, false, false] rfl rfl (any_of HT_.out (by kernel_rfl)) (fun _ _ _ h => h) (Or.inr ⟨by rfl, rfl⟩) ?_ ?_
                  rotate_left
                  · simp only [Act.put, List.setIfInBounds_toArray, List.set_cons_zero, List.set_cons_succ, i64_w, i32_w]
                    rfl
                  refine pure_ (i := 36) (N := some 53) (v := undef) (a' := ?_) #[true, true, true, true, true, true, true, true, true, true, true, true, true, true, true, true, true, true, true, true, true, true, true, true, true, true, true, true, true, true, true, true, true, true, true, true, true, false] rfl rfl (any_of HT_.out (by kernel_rfl)) (fun _ _ _ h => h) (Or.inr ⟨by rfl, rfl⟩) ?_ ?_
                  rotate_left
                  · simp only [Act.put, List.setIfInBounds_toArray, List.set_cons_zero, List.set_cons_succ, i64_w, i32_w]
                    rfl
                  refine zp 37 54 HT_.out ?_
                  refine done_ (done_of HT_.out (by kernel_rfl)) ?_
                  try go_wp2
                  go_ret
                  exact ⟨by first | rfl | (simp [errW_none, errW_some] <;> rfl) | (simp [*, errW_none, errW_some] <;> rfl), zb HB⟩
              · rw [if_neg c7] at H
                have c7b0 : (((rd_T66 l0 x5_1).f0) == ((rd_T66 l1 x5_1).f0)) = false := beq_eq_false_iff_ne.mpr c7
                have c7b1 : (((rd_T66 l0 x5_1).f0) != ((rd_T66 l1 x5_1).f0)) = true := bne_iff_ne.mpr c7
                obtain rfl := Option.some.inj H
                try go_wp2
                replace HB := Aside0.mk (below_drew1 HB.out)
                have p146 : 0 ≤ (x5_1 : Int) := of_decide_eq_true (by first | (with_reducible assumption) | assumption)
                have q146 : x5_1 < (l0.length : Int) := of_decide_eq_true (by first | (with_reducible assumption) | assumption)
                obtain ⟨ad146, A146_2, c146_2, e146, hx146_0, hx146_1, hx146_2, hl146_2, hi146_2⟩ := at_T66 HR0.out x5_1 p146 q146
                have hw146_2 := hx146_2
                have hw146_1 := hx146_1
                have hw146_0 := hx146_0
                cases e146
                replace hx146_0 := (HB.out.cell (World.block_lt_of_cell? w _ hx146_0)).trans hx146_0
                replace hx146_1 := (HB.out.cell (World.block_lt_of_cell? w _ hx146_1)).trans hx146_1
                replace hx146_2 := (HB.out.cell (World.block_lt_of_cell? w _ hx146_2)).trans hx146_2
                have HR146_2 := Aside0.mk hi146_2
                have HC146_2 := Aside0.mk hl146_2
                clear hi146_2 hl146_2
                replace p146 := eq_true p146
                replace q146 := eq_true q146
                have p147 : 0 ≤ (x5_1 : Int) := of_decide_eq_true (by first | (with_reducible assumption) | assumption)
                have q147 : x5_1 < (l1.length : Int) := of_decide_eq_true (by first | (with_reducible assumption) | assumption)
                obtain ⟨ad147, A147_2, c147_2, e147, hx147_0, hx147_1, hx147_2, hl147_2, hi147_2⟩ := at_T66 HR1.out x5_1 p147 q147
                have hw147_2 := hx147_2
                have hw147_1 := hx147_1
                have hw147_0 := hx147_0
                cases e147
                replace hx147_0 := (HB.out.cell (World.block_lt_of_cell? w _ hx147_0)).trans hx147_0
                replace hx147_1 := (HB.out.cell (World.block_lt_of_cell? w _ hx147_1)).trans hx147_1
                replace hx147_2 := (HB.out.cell (World.block_lt_of_cell? w _ hx147_2)).trans hx147_2
                have HR147_2 := Aside0.mk hi147_2
                have HC147_2 := Aside0.mk hl147_2
                clear hi147_2 hl147_2
                replace p147 := eq_true p147
                replace q147 := eq_true q147
                refine start_ (n := 38) (S := fun w' => w'.cell? (ad146.add ((x5_1).toNat * 3)) = some (.int .i64 ((rd_T66 l0 x5_1).f0)) ∧ w'.cell? ⟨(ad146.add ((x5_1).toNat * 3)).block, (ad146.add ((x5_1).toNat * 3)).off + 1, none⟩ = some (.int .i64 ((rd_T66 l0 x5_1).f1)) ∧ w'.cell? ⟨(ad146.add ((x5_1).toNat * 3)).block, (ad146.add ((x5_1).toNat * 3)).off + 2, none⟩ = some (.slice A146_2 ((rd_T66 l0 x5_1).f2).length c146_2) ∧ w'.cell? (ad147.add ((x5_1).toNat * 3)) = some (.int .i64 ((rd_T66 l1 x5_1).f0)) ∧ w'.cell? ⟨(ad147.add ((x5_1).toNat * 3)).block, (ad147.add ((x5_1).toNat * 3)).off + 1, none⟩ = some (.int .i64 ((rd_T66 l1 x5_1).f1)) ∧ w'.cell? ⟨(ad147.add ((x5_1).toNat * 3)).block, (ad147.add ((x5_1).toNat * 3)).off + 2, none⟩ = some (.slice A147_2 ((rd_T66 l1 x5_1).f2).length c147_2)) (ds := []) #[false, false, false, false, false, false, false, false, false, false, false, false, false, false, false, false, false, false, false, false, false, false, false, false, false, false, false, false, false, false, false, false, false, false, false, false, false, false] (by kernel_rfl) rfl rfl ⟨((HB.out.cell (World.block_lt_of_cell? w _ hw146_0)).trans hw146_0), ((HB.out.cell (World.block_lt_of_cell? w _ hw146_1)).trans hw146_1), ((HB.out.cell (World.block_lt_of_cell? w _ hw146_2)).trans hw146_2), ((HB.out.cell (World.block_lt_of_cell? w _ hw147_0)).trans hw147_0), ((HB.out.cell (World.block_lt_of_cell? w _ hw147_1)).trans hw147_1), ((HB.out.cell (World.block_lt_of_cell? w _ hw147_2)).trans hw147_2)⟩ (fun hHeld => ?_); refine with_tabW standbyref03_SameWrites.tab6 standbyref03_SameWrites.bits6 (fun HT_ HW_ => ?_)
                generalize wr.drew = w14 at HB HR146_2 HR147_2 hx146_0 hx146_1 hx146_2 hx147_0 hx147_1 hx147_2 hHeld ⊢
                refine zp 0 17 HT_.out ?_
                refine zp 1 18 HT_.out ?_
                refine zp 2 19 HT_.out ?_
                refine zp 3 20 HT_.out ?_
                refine zp 5 22 HT_.out ?_
                refine zp 6 23 HT_.out ?_
                refine zp 7 24 HT_.out ?_
                refine zp 8 25 HT_.out ?_
                refine take_ (i := 4) (N := some 21) (v := ?_) (a' := ?_) #[true, true, true, true, true, true, true, true, true, false, false, false, false, false, false, false, false, false, false, false, false, false, false, false, false, false, false, false, false, false, false, false, false, false, false, false, false, false] rfl rfl (take_ofW HT_.out HW_.out (by kernel_rfl)) (fun _ _ _ h => h) (Or.inl ⟨by rfl, ?_⟩) hHeld ?_ ?_
                rotate_left
                · rintro w' ⟨s0, s1, s2, s3, s4, s5⟩
                  go_simp
                  with_reducible rfl
                rotate_left
                · simp only [Act.put, List.setIfInBounds_toArray, List.set_cons_zero, List.set_cons_succ, i64_w, i32_w]
                  rfl
                refine take_ (i := 9) (N := some 26) (v := ?_) (a' := ?_) #[true, true, true, true, true, true, true, true, true, true, false, false, false, false, false, false, false, false, false, false, false, false, false, false, false, false, false, false, false, false, false, false, false, false, false, false, false, false] rfl rfl (take_ofW HT_.out HW_.out (by kernel_rfl)) (fun _ _ _ h => h) (Or.inl ⟨by rfl, ?_⟩) hHeld ?_ ?_
                rotate_left
                · rintro w' ⟨s0, s1, s2, s3, s4, s5⟩
                  go_simp
                  with_reducible rfl
                rotate_left
                · simp only [Act.put, List.setIfInBounds_toArray, List.set_cons_zero, List.set_cons_succ, i64_w, i32_w]
                  rfl
                refine zp 10 27 HT_.out ?_
                refine zp 11 28 HT_.out ?_
                refine pure_ (i := 12) (N := some 29) (v := undef) (a' := ?_) #[true, true, true, true, true, true, true, true, true, true, true, true, true, false, false, false, false, false, false, false, false, false, false, false, false, false, false, false, false, false, false, false, false, false, false, false, false, false] rfl rfl (any_of HT_.out (by kernel_rfl)) (fun _ _ _ h => h) (Or.inr ⟨by rfl, rfl⟩) ?_ ?_
                rotate_left
                · simp only [Act.put, List.setIfInBounds_toArray, List.set_cons_zero, List.set_cons_succ, i64_w, i32_w]
                  rfl
                refine pure_ (i := 13) (N := some 30) (v := undef) (a' := ?_) #[true, true, true, true, true, true, true, true, true, true, true, true, true, true, false, false, false, false, false, false, false, false, false, false, false, false, false, false, false, false, false, false, false, false, false, false, false, false] rfl rfl (any_of HT_.out (by kernel_rfl)) (fun _ _ _ h => h) (Or.inr ⟨by rfl, rfl⟩) ?_ ?_
                rotate_left
                · simp only [Act.put, List.setIfInBounds_toArray, List.set_cons_zero, List.set_cons_succ, i64_w, i32_w]
                  rfl
                refine pure_ (i := 14) (N := some 31) (v := undef) (a' := ?_) #[true, true, true, true, true, true, true, true, true, true, true, true, true, true, true, false, false, false, false, false, false, false, false, false, false, false, false, false, false, false, false, false, false, false, false, false, false, false] rfl rfl (any_of HT_.out (by kernel_rfl)) (fun _ _ _ h => h) (Or.inr ⟨by rfl, rfl⟩) ?_ ?_
                rotate_left
                · simp only [Act.put, List.setIfInBounds_toArray, List.set_cons_zero, List.set_cons_succ, i64_w, i32_w]
                  rfl
                refine pure_ (i := 15) (N := some 32) (v := undef) (a' := ?_) #[true, true, true, true, true, true, true, true, true, true, true, true, true, true, true, true, false, false, false, false, false, false, false, false, false, false, false, false, false, false, false, false, false, false, false, false, false, false] rfl rfl (any_of HT_.out (by kernel_rfl)) (fun _ _ _ h => h) (Or.inr ⟨by rfl, rfl⟩) ?_ ?_
                rotate_left
                · simp only [Act.put, List.setIfInBounds_toArray, List.set_cons_zero, List.set_cons_succ, i64_w, i32_w]
                  rfl
                refine pure_ (i := 16) (N := some 33) (v := undef) (a' := ?_) #[true, true, true, true, true, true, true, true, true, true, true, true, true, true, true, true, true, false, false, false, false, false, false, false, false, false, false, false, false, false, false, false, false, false, false, false, false, false] rfl rfl (any_of HT_.out (by kernel_rfl)) (fun _ _ _ h => h) (Or.inr ⟨by rfl, rfl⟩) ?_ ?_
                rotate_left
                · simp only [Act.put, List.setIfInBounds_toArray, List.set_cons_zero, List.set_cons_succ, i64_w, i32_w]
                  rfl
                refine pure_ (i := 17) (N := some 34) (v := undef) (a' := ?_) #[true, true, true, true, true, true, true, true, true, true, true, true, true, true, true, true, true, true, false, false, false, false, false, false, false, false, false, false, false, false, false, false, false, false, false, false, false, false] rfl rfl (any_of HT_.out (by kernel_rfl)) (fun _ _ _ h => h) (Or.inr ⟨by rfl, rfl⟩) ?_ ?_
                rotate_left
                · simp only [Act.put, List.setIfInBounds_toArray, List.set_cons_zero, List.set_cons_succ, i64_w, i32_w]
                  rfl
                refine pure_ (i := 18) (N := some 35) (v := undef) (a' := ?_) #[true, true, true, true, true, true, true, true, true, true, true, true, true, true, true, true, true, true, true, false, false, false, false, false, false, false, false, false, false, false, false, false, false, false, false, false, false, false] rfl rfl (any_of HT_.out (by kernel_rfl)) (fun _ _ _ h => h) (Or.inr ⟨by rfl, rfl⟩) ?_ ?_
                rotate_left
                · simp only [Act.put, List.setIfInBounds_toArray, List.set_cons_zero, List.set_cons_succ, i64_w, i32_w]
                  rfl
                refine pure_ (i := 19) (N := some 36) (v := undef) (a' := ?_) #[true, true, true, true, true, true, true, true, true, true, true, true, true, true, true, true, true, true, true, true, false, false, false, false, false, false, false, false, false, false, false, false, false, false, false, false, false, false] rfl rfl (any_of HT_.out (by kernel_rfl)) (fun _ _ _ h => h) (Or.inr ⟨by rfl, rfl⟩) ?_ ?_
                rotate_left
                · simp only [Act.put, List.setIfInBounds_toArray, List.set_cons_zero, List.set_cons_succ, i64_w, i32_w]
                  rfl
                refine pure_ (i := 20) (N := some 37) (v := undef) (a' := ?_) #[true, true, true, true, true, true, true, true, true, true, true, true, true, true, true, true, true, true, true, true, true, false, false, false, false, false, false, false, false, false, false, false, false, false, false, false, false, false] rfl rfl (any_of HT_.out (by kernel_rfl)) (fun _ _ _ h => h) (Or.inr ⟨by rfl, rfl⟩) ?_ ?_
                rotate_left
                · simp only [Act.put, List.setIfInBounds_toArray, List.set_cons_zero, List.set_cons_succ, i64_w, i32_w]
                  rfl
                refine pure_ (i := 21) (N := some 38) (v := undef) (a' := ?_) #[true, true, true, true, true, true, true, true, true, true, true, true, true, true, true, true, true, true, true, true, true, true, false, false, false, false, false, false, false, false, false, false, false, false, false, false, false, false] rfl rfl (any_of HT_.out (by kernel_rfl)) (fun _ _ _ h => h) (Or.inr ⟨by rfl, rfl⟩) ?_ ?_
                rotate_left
                · simp only [Act.put, List.setIfInBounds_toArray, List.set_cons_zero, List.set_cons_succ, i64_w, i32_w]
                  rfl
                refine pure_ (i := 22) (N := some 39) (v := undef) (a' := ?_) #[true, true, true, true, true, true, true, true, true, true, true, true, true, true, true, true, true, true, true, true, true, true, true, false, false, false, false, false, false, false, false, false, false, false, false, false, false, false] rfl rfl (any_of HT_.out (by kernel_rfl)) (fun _ _ _ h => h) (Or.inr ⟨by rfl, rfl⟩) ?_ ?_
                rotate_left
                · simp only [Act.put, List.setIfInBounds_toArray, List.set_cons_zero, List.set_cons_succ, i64_w, i32_w]
                  rfl
                refine zp 23 40 HT_.out ?_
                refine zp 24 41 HT_.out ?_
                refine pure_ (i := 25) (N := some 42) (v := undef) (a' := ?_) #[true, true, true, true, true, true, true, true, true, true, true, true, true, true, true, true, true, true, true, true, true, true, true, true, true, true, false, false, false, false, false, false, false, false, false, false, false, false] rfl rfl (any_of HT_.out (by kernel_rfl)) (fun _ _ _ h => h) (Or.inr ⟨by rfl, rfl⟩) ?_ ?_
                rotate_left
                · simp only [Act.put, List.setIfInBounds_toArray, List.set_cons_zero, List.set_cons_succ, i64_w, i32_w]
                  rfl
                refine pure_ (i := 26) (N := some 43) (v := undef) (a' := ?_) #[true, true, true, true, true, true, true, true, true, true, true, true, true, true, true, true, true, true, true, true, true, true, true, true, true, true, true, false, false, false, false, false, false, false, false, false, false, false] rfl rfl (any_of HT_.out (by kernel_rfl)) (fun _ _ _ h => h) (Or.inr ⟨by rfl, rfl⟩) ?_ ?_
                rotate_left
                · simp only [Act.put, List.setIfInBounds_toArray, List.set_cons_zero, List.set_cons_succ, i64_w, i32_w]
                  rfl
                refine pure_ (i := 27) (N := some 44) (v := undef) (a' := ?_) #[true, true, true, true, true, true, true, true, true, true, true, true, true, true, true, true, true, true, true, true, true, true, true, true, true, true, true, true, false, false, false, false, false, false, false, false, false, false] rfl rfl (any_of HT_.out (by kernel_rfl)) (fun _ _ _ h => h) (Or.inr ⟨by rfl, rfl⟩) ?_ ?_
                rotate_left
                · simp only [Act.put, List.setIfInBounds_toArray, List.set_cons_zero, List.set_cons_succ, i64_w, i32_w]
                  rfl
                refine pure_ (i := 28) (N := some 45) (v := undef) (a' := ?_) #[true, true, true, true, true, true, true, true, true, true, true, true, true, true, true, true, true, true, true, true, true, true, true, true, true, true, true, true, true, false, false, false, false, false, false, false, false, false] rfl rfl (any_of HT_.out (by kernel_rfl)) (fun _ _ _ h => h) (Or.inr ⟨by rfl, rfl⟩) ?_ ?_
                rotate_left
                · simp only [Act.put, List.setIfInBounds_toArray, List.set_cons_zero, List.set_cons_succ, i64_w, i32_w]
                  rfl
                refine pure_ (i := 29) (N := some 46) (v := undef) (a' := ?_) #[true, true, true, true, true, true, true, true, true, true, true, true, true, true, true, true, true, true, true, true, true, true, true, true, true, true, true, true, true, true, false, false, false, false, false, false, false, false] rfl rfl (any_of HT_.out (by kernel_rfl)) (fun _ _ _ h => h) (Or.inr ⟨by rfl, rfl⟩) ?_ ?_
                rotate_left
                · simp only [Act.put, List.setIfInBounds_toArray, List.set_cons_zero, List.set_cons_succ, i64_w, i32_w]
                  rfl
                refine pure_ (i := 30) (N := some 47) (v := undef) (a' := ?_) #[true, true, true, true, true, true, true, true, true, true, true, true, true, true, true, true, true, true, true, true, true, true, true, true, true, true, true, true, true, true, true, false, false, false, false, false, false, false] rfl rfl (any_of HT_.out (by kernel_rfl)) (fun _ _ _ h => h) (Or.inr ⟨by rfl, rfl⟩) ?_ ?_
                rotate_left
                · simp only [Act.put, List.setIfInBounds_toArray, List.set_cons_zero, List.set_cons_succ, i64_w, i32_w]
                  rfl
                refine pure_ (i := 31) (N := some 48) (v := undef) (a' := ?_) #[true, true, true, true, true, true, true, true, true, true, true, true, true, true, true, true, true, true, true, true, true, true, true, true, true, true, true, true, true, true, true, true, false, false, false, false, false, false] rfl rfl (any_of HT_.out (by kernel_rfl)) (fun _ _ _ h => h) (Or.inr ⟨by rfl, rfl⟩) ?_ ?_
                rotate_left
                · simp only [Act.put, List.setIfInBounds_toArray, List.set_cons_zero, List.set_cons_succ, i64_w, i32_w]
                  rfl
                refine pure_ (i := 32) (N := some 49) (v := undef) (a' := ?_) #[true, true, true, true, true, true, true, true, true, true, true, true, true, true, true, true, true, true, true, true, true, true, true, true, true, true, true, true, true, true, true, true, true, false, false, false, false, false] rfl rfl (any_of HT_.out (by kernel_rfl)) (fun _ _ _ h => h) (Or.inr ⟨by rfl, rfl⟩) ?_ ?_
                rotate_left
                · simp only [Act.put, List.setIfInBounds_toArray, List.set_cons_zero, List.set_cons_succ, i64_w, i32_w]
                  rfl
                refine pure_ (i := 33) (N := some 50) (v := undef) (a' := ?_) #[true, true, true, true, true, true, true, true, true, true, true, true, true, true, true, true, true, true, true, true, true, true, true, true, true, true, true, true, true, true, true, true, true, true, false, false, false, false] rfl rfl (any_of HT_.out (by kernel_rfl)) (fun _ _ _ h => h) (Or.inr ⟨by rfl, rfl⟩) ?_ ?_
                rotate_left
                · simp only [Act.put, List.setIfInBounds_toArray, List.set_cons_zero, List.set_cons_succ, i64_w, i32_w]
                  rfl
                refine pure_ (i := 34) (N := some 51) (v := undef) (a' := ?_) #[true, true, true, true, true, true, true, true, true, true, true, true, true, true, true, true, true, true, true, true, true, true, true, true, true, true, true, true, true, true, true, true, true, true, true, false, false, false] rfl rfl (any_of HT_.out (by kernel_rfl)) (fun _ _ _ h => h) (Or.inr ⟨by rfl, rfl⟩) ?_ ?_
                rotate_left
                · simp only [Act.put, List.setIfInBounds_toArray, List.set_cons_zero, List.set_cons_succ, i64_w, i32_w]
                  rfl
                refine pure_ (i := 35) (N := some 52) (v := undef) (a' := ?_) #[true, true, true, true, true, true, true, true, true, true, true, true, true, true, true, true, true, true, true, true, true, true, true, true, true, true, true, true, true, true, true, true, true, true, true, true, false, false] rfl rfl (any_of HT_.out (by kernel_rfl)) (fun _ _ _ h => h) (Or.inr ⟨by rfl, rfl⟩) ?_ ?_
                rotate_left
                · simp only [Act.put, List.setIfInBounds_toArray, List.set_cons_zero, List.set_cons_succ, i64_w, i32_w]
                  rfl
                refine pure_ (i := 36) (N := some 53) (v := undef) (a' := ?_) #[true, true, true, true, true, true, true, true, true, true, true, true, true, true, true, true, true, true, true, true, true, true, true, true, true, true, true, true, true, true, true, true, true, true, true, true, true, false] rfl rfl (any_of HT_.out (by kernel_rfl)) (fun _ _ _ h => h) (Or.inr ⟨by rfl, rfl⟩) ?_ ?_
                rotate_left
                · simp only [Act.put, List.setIfInBounds_toArray, List.set_cons_zero, List.set_cons_succ, i64_w, i32_w]
                  rfl
                refine zp 37 54 HT_.out ?_
                refine done_ (done_of HT_.out (by kernel_rfl)) ?_
                try go_wp2
                go_ret
                exact ⟨by first | rfl | (simp [errW_none, errW_some] <;> rfl) | (simp [*, errW_none, errW_some] <;> rfl), zb HB⟩
            · rw [if_neg c6] at H
              exact absurd H (by simp)
          · rw [if_neg c5] at H
            exact absurd H (by simp)
        · rw [if_neg c4] at H
          have c4b0 : decide (x5_1 < (l0.length : Int)) = false := decide_eq_false c4
          clear c4
          obtain rfl := Option.some.inj H
          go_wp2
          go_ret
          exact ⟨by first | rfl | (simp [errW_none, errW_some] <;> rfl) | (simp [*, errW_none, errW_some] <;> rfl), zb HB⟩
  · rw [if_neg c3] at H
    have c3b0 : ((l0.length : Int) == (l1.length : Int)) = false := beq_eq_false_iff_ne.mpr c3
    have c3b1 : ((l0.length : Int) != (l1.length : Int)) = true := bne_iff_ne.mpr c3
    have c3b2 : (l0.length == l1.length) = false := by first | simpa using c3 | (simp at c3 ⊢; omega)
    obtain rfl := Option.some.inj H
    go_enter Tryz.func36, Tryz.ntmps36
    go_wp2
    go_ret
    exact ⟨by first | rfl | (simp [errW_none, errW_some] <;> rfl) | (simp [*, errW_none, errW_some] <;> rfl), zb HB⟩
end Go.Proofs.YtdplnbmioioniaaGreat.Pq
end
section
namespace Go.Proofs.YtdplnbmioioniaaGreat.Pq
open Go.RowKit Go.Proofs.YtdplnbmioioniaaGreatW.PrintWords Go.Proofs.YtdplnbmioioniaaGreatW.PrintLast Go.Proofs.YtdplnbmioioniaaGreatW.PrintMore
attribute [local go_sem] max2_int min2_int max_two min_two max_three min_three max_four min_four
set_option linter.unusedVariables false
set_option linter.unusedSimpArgs false
attribute [local go_sem high] eqA61
def standbyref22_Same.f (k : Nat) (l0 : List (S66)) (l1 : List (S66)) : Option (Bool) := (standbyref03_SameWrites.f k l0 l1).bind fun t153 => (some t153)
set_option maxHeartbeats 8000000 in
set_option maxRecDepth 100000 in
theorem standbyref22_Same.calls (k : Nat) (A0 : Option Addr) (c0 : Nat) (l0 : List (S66)) (A1 : Option Addr) (c1 : Nat) (l1 : List (S66)) (r : Bool) (w : World) (hr0 : Kd.C k66 w A0 l0.length l0) (hc0 : l0.length ≤ c0) (hr1 : Kd.C k66 w A1 l1.length l1) (hc1 : l1.length ≤ c1) (h : standbyref22_Same.f k l0 l1 = some r) :
    Calls Tryz.prog 12 #[.slice A0 l0.length c0, .slice A1 l1.length c1] w fun e w' => e = .returned (.bool r) ∧ Below w.heap.size w w' := by
  have HR0 := Aside0.mk hr0
  have HC0 := Aside0.mk hc0
  clear hr0 hc0
  have HR1 := Aside0.mk hr1
  have HC1 := Aside0.mk hc1
  clear hr1 hc1
  have HB := Aside0.mk (Below.refl w.heap.size w)
  have H : ((standbyref03_SameWrites.f k l0 l1).bind fun t153 => (some t153)) = some r := h
  clear h
  replace H := Option.bind_eq_some_iff.mp H
  obtain ⟨t153, A30, H⟩ := H
  replace H : (some t153) = some r := H
  have A3 := Aside0.mk A30
  clear A30
  obtain rfl := Option.some.inj H
  go_enter Tryz.func12, Tryz.ntmps12
  go_wp2_with (first | ((with_reducible refine gate_callee (f := 36) rfl ?_); refine zG (some 7) Tryz.func36 #[.slice A0 l0.length c0, .slice A1 l1.length c1] ?_; (with_reducible refine (standbyref03_SameWrites.calls k _ _ l0 _ _ l1 t153 _ ?side1 ?side2 ?side3 ?side4 A3.out).mono ?_); (case side1 => repeat (first | exact HR0.out | (with_reducible refine Kd.C_alloc ?_ _) | (with_reducible refine Kd.C_drewN ?_ _) | (with_reducible refine Kd.C_drew ?_))); (case side2 => exact HC0.out); (case side3 => repeat (first | exact HR1.out | (with_reducible refine Kd.C_alloc ?_ _) | (with_reducible refine Kd.C_drewN ?_ _) | (with_reducible refine Kd.C_drew ?_))); (case side4 => exact HC1.out); rintro e w4 ⟨rfl, hb⟩; refine ⟨_, rfl, ?_⟩; replace HB := Aside0.mk (below_step (zb HB) hb); clear hb))
  go_ret
  exact ⟨by first | rfl | (simp [errW_none, errW_some] <;> rfl) | (simp [*, errW_none, errW_some] <;> rfl), zb HB⟩
mutual
def standbyref36_SameExtents.l0 : Nat → List (List (S61)) → List (List (S61)) → Int → Option (Bool)
  | 0, _, _, _ => none
  | k + 1, x0, x1, x5 => if x5 < (x0.length : Int) then (if 0 ≤ x5 then (if x5 < (x1.length : Int) then (if ((rd_L7 x0 x5).length : Int) = ((rd_L7 x1 x5).length : Int) then (standbyref36_SameExtents.l1 k x0 x1 x5 0) else (some false)) else (none)) else (none)) else (some true)
def standbyref36_SameExtents.l1 : Nat → List (List (S61)) → List (List (S61)) → Int → Int → Option (Bool)
  | 0, _, _, _, _ => none
  | k + 1, x0, x1, x5, x6 => if 0 ≤ x5 then (if x5 < (x0.length : Int) then (if x6 < ((rd_L7 x0 x5).length : Int) then (if 0 ≤ x6 then (if x5 < (x1.length : Int) then (if x6 < ((rd_L7 x1 x5).length : Int) then (if (!(((rd_T61 (rd_L7 x0 x5) x6).f0) == ((rd_T61 (rd_L7 x1 x5) x6).f0)) || (!(((rd_T61 (rd_L7 x0 x5) x6).f1) == ((rd_T61 (rd_L7 x1 x5) x6).f1)))) = true then (some false) else (standbyref36_SameExtents.l1 k x0 x1 x5 (wrap64 (x6 + 1)))) else (none)) else (none)) else (none)) else (standbyref36_SameExtents.l0 k x0 x1 (wrap64 (x5 + 1)))) else (none)) else (none)
end
def standbyref36_SameExtents.f (k : Nat) (l0 : List (List (S61))) (l1 : List (List (S61))) : Option (Bool) := if (l0.length : Int) = (l1.length : Int) then (standbyref36_SameExtents.l0 k l0 l1 0) else (some false)
set_option maxHeartbeats 8000000 in
set_option maxRecDepth 100000 in
theorem standbyref36_SameExtents.calls (k : Nat) (A0 : Option Addr) (c0 : Nat) (l0 : List (List (S61))) (A1 : Option Addr) (c1 : Nat) (l1 : List (List (S61))) (r : Bool) (w : World) (hr0 : Kd.C (Kd.slice 61 k61) w A0 l0.length l0) (hc0 : l0.length ≤ c0) (hr1 : Kd.C (Kd.slice 61 k61) w A1 l1.length l1) (hc1 : l1.length ≤ c1) (h : standbyref36_SameExtents.f k l0 l1 = some r) :
    Calls Tryz.prog 22 #[.slice A0 l0.length c0, .slice A1 l1.length c1] w fun e w' => e = .returned (.bool r) ∧ Drawn0 w w' := by
  have hu61 := Tryz.underlying61
  have HR0 := Aside0.mk hr0
  have HC0 := Aside0.mk hc0
  clear hr0 hc0
  have HR1 := Aside0.mk hr1
  have HC1 := Aside0.mk hc1
  clear hr1 hc1
  have H : (if (l0.length : Int) = (l1.length : Int) then (standbyref36_SameExtents.l0 k l0 l1 0) else (some false)) = some r := h
  clear h
  by_cases c3 : (l0.length : Int) = (l1.length : Int)
  · rw [if_pos c3] at H
    have c3b0 : ((l0.length : Int) == (l1.length : Int)) = true := beq_iff_eq.mpr c3
    have c3b1 : ((l0.length : Int) != (l1.length : Int)) = false := bne_eq_false_iff_eq.mpr c3
    have c3b2 : (l0.length == l1.length) = true := by first | simpa using c3 | (simp at c3 ⊢; omega)
    clear c3
    have H' := Aside0.mk H
    clear H
    go_enter Tryz.func22, Tryz.ntmps22
    go_wp2
    repeat (go_quiet (fail); try go_wp2)
    go_loopg [5] k (fun kq v5 w' => ∃ (x5_1 : Int), v5 = .int .i64 x5_1 ∧ Aside0 (standbyref36_SameExtents.l0 kq l0 l1 x5_1 = some r) ∧ Aside0 (kq ≤ k) ∧ Drawn0 w w')
    case atStart => exact ⟨(0), (by first | rfl | (simp; done) | (simp [*]; done)), H', ⟨Nat.le_refl _⟩, by repeat (first | exact Drawn0.refl _ | apply Drawn0.step)⟩
    case round =>
      clear H'
      try clear c1
      try clear c2
      try clear p2
      try clear c3
      try clear c3b0
      try clear c3b1
      try clear c3b2
      obtain ⟨x5_1, rfl, HA, HK1, ⟨m1, rfl⟩⟩ := hrel
      cases gk with
      | zero => exact absurd HA.out (by simp [standbyref36_SameExtents.l0])
      | succ k1 =>
        have H := HA.out
        clear HA
        simp only [standbyref36_SameExtents.l0] at H
        by_cases c4 : x5_1 < (l0.length : Int)
        · rw [if_pos c4] at H
          have c4b0 : decide (x5_1 < (l0.length : Int)) = true := decide_eq_true c4
          clear c4
          by_cases c5 : 0 ≤ x5_1
          · rw [if_pos c5] at H
            have c5b0 : decide (0 ≤ x5_1) = true := decide_eq_true c5
            clear c5
            by_cases c6 : x5_1 < (l1.length : Int)
            · rw [if_pos c6] at H
              have c6b0 : decide (x5_1 < (l1.length : Int)) = true := decide_eq_true c6
              clear c6
              by_cases c7 : ((rd_L7 l0 x5_1).length : Int) = ((rd_L7 l1 x5_1).length : Int)
              · rw [if_pos c7] at H
                have c7b0 : (((rd_L7 l0 x5_1).length : Int) == ((rd_L7 l1 x5_1).length : Int)) = true := beq_iff_eq.mpr c7
                have c7b1 : (((rd_L7 l0 x5_1).length : Int) != ((rd_L7 l1 x5_1).length : Int)) = false := bne_eq_false_iff_eq.mpr c7
                have c7b2 : ((rd_L7 l0 x5_1).length == (rd_L7 l1 x5_1).length) = true := by first | simpa using c7 | (simp at c7 ⊢; omega)
                clear c7
                have H' := Aside0.mk H
                clear H
                have p154 : 0 ≤ (x5_1 : Int) := of_decide_eq_true (by first | (with_reducible assumption) | assumption)
                have q154 : x5_1 < (l0.length : Int) := of_decide_eq_true (by first | (with_reducible assumption) | assumption)
                obtain ⟨ad154, A154_0, c154_0, e154, hx154_0, hl154_0, hi154_0⟩ := at_L7 HR0.out x5_1 p154 q154
                cases e154
                have HR154_0 := Aside0.mk hi154_0
                have HC154_0 := Aside0.mk hl154_0
                clear hi154_0 hl154_0
                replace p154 := eq_true p154
                replace q154 := eq_true q154
                have p155 : 0 ≤ (x5_1 : Int) := of_decide_eq_true (by first | (with_reducible assumption) | assumption)
                have q155 : x5_1 < (l1.length : Int) := of_decide_eq_true (by first | (with_reducible assumption) | assumption)
                obtain ⟨ad155, A155_0, c155_0, e155, hx155_0, hl155_0, hi155_0⟩ := at_L7 HR1.out x5_1 p155 q155
                cases e155
                have HR155_0 := Aside0.mk hi155_0
                have HC155_0 := Aside0.mk hl155_0
                clear hi155_0 hl155_0
                replace p155 := eq_true p155
                replace q155 := eq_true q155
                go_wp2
                repeat (go_quiet (fail); try go_wp2)
                go_loopg [6] k1 (fun kq v6 w' => ∃ (x6_2 : Int), v6 = .int .i64 x6_2 ∧ Aside0 (standbyref36_SameExtents.l1 kq l0 l1 x5_1 x6_2 = some r) ∧ Aside0 (kq ≤ k1) ∧ Drawn0 w w')
                case atStart => exact ⟨(0), (by first | rfl | (simp; done) | (simp [*]; done)), H', ⟨Nat.le_refl _⟩, by repeat (first | exact Drawn0.refl _ | apply Drawn0.step)⟩
                case round =>
                  clear H'
                  try clear c1
                  try clear p1
                  try clear q1
                  try clear hx1
                  try clear c2
                  try clear p2
                  try clear c3
                  try clear c3b0
                  try clear c3b1
                  try clear c3b2
                  try clear c4
                  try clear c4b0
                  try clear c5
                  try clear c5b0
                  try clear c6
                  try clear c6b0
                  try clear c7
                  try clear c7b0
                  try clear c7b1
                  try clear c7b2
                  try clear hx154_0
                  try clear hx155_0
                  try clear p154
                  try clear p155
                  try clear p2
                  try clear q154
                  try clear q155
                  obtain ⟨x6_2, rfl, HA, HK2, ⟨m2, rfl⟩⟩ := hrel
                  cases gk with
                  | zero => exact absurd HA.out (by simp [standbyref36_SameExtents.l1])
                  | succ k2 =>
                    have H := HA.out
                    clear HA
                    simp only [standbyref36_SameExtents.l1] at H
                    by_cases c8 : 0 ≤ x5_1
                    · rw [if_pos c8] at H
                      have c8b0 : decide (0 ≤ x5_1) = true := decide_eq_true c8
                      clear c8
                      by_cases c9 : x5_1 < (l0.length : Int)
                      · rw [if_pos c9] at H
                        have c9b0 : decide (x5_1 < (l0.length : Int)) = true := decide_eq_true c9
                        clear c9
                        by_cases c10 : x6_2 < ((rd_L7 l0 x5_1).length : Int)
                        · rw [if_pos c10] at H
                          have c10b0 : decide (x6_2 < ((rd_L7 l0 x5_1).length : Int)) = true := decide_eq_true c10
                          clear c10
                          by_cases c11 : 0 ≤ x6_2
                          · rw [if_pos c11] at H
                            have c11b0 : decide (0 ≤ x6_2) = true := decide_eq_true c11
                            clear c11
                            by_cases c12 : x5_1 < (l1.length : Int)
                            · rw [if_pos c12] at H
                              have c12b0 : decide (x5_1 < (l1.length : Int)) = true := decide_eq_true c12
                              clear c12
                              by_cases c13 : x6_2 < ((rd_L7 l1 x5_1).length : Int)
                              · rw [if_pos c13] at H
                                have c13b0 : decide (x6_2 < ((rd_L7 l1 x5_1).length : Int)) = true := decide_eq_true c13
                                clear c13
                                by_cases c14 : (!(((rd_T61 (rd_L7 l0 x5_1) x6_2).f0) == ((rd_T61 (rd_L7 l1 x5_1) x6_2).f0)) || (!(((rd_T61 (rd_L7 l0 x5_1) x6_2).f1) == ((rd_T61 (rd_L7 l1 x5_1) x6_2).f1)))) = true
                                · rw [if_pos c14] at H
                                  have c14b0 : (!(((rd_T61 (rd_L7 l0 x5_1) x6_2).f0) == ((rd_T61 (rd_L7 l1 x5_1) x6_2).f0)) || (!(((rd_T61 (rd_L7 l0 x5_1) x6_2).f1) == ((rd_T61 (rd_L7 l1 x5_1) x6_2).f1)))) = true := c14
                                  clear c14
                                  obtain rfl := Option.some.inj H
                                  have p156 : 0 ≤ (x5_1 : Int) := of_decide_eq_true (by first | (with_reducible assumption) | assumption)
                                  have q156 : x5_1 < (l0.length : Int) := of_decide_eq_true (by first | (with_reducible assumption) | assumption)
                                  obtain ⟨ad156, A156_0, c156_0, e156, hx156_0, hl156_0, hi156_0⟩ := at_L7 HR0.out x5_1 p156 q156
                                  obtain rfl : ad154 = ad156 := (by injection e156)
                                  have HR156_0 := Aside0.mk hi156_0
                                  have HC156_0 := Aside0.mk hl156_0
                                  clear hi156_0 hl156_0
                                  replace p156 := eq_true p156
                                  replace q156 := eq_true q156
                                  have p157 : 0 ≤ (x5_1 : Int) := of_decide_eq_true (by first | (with_reducible assumption) | assumption)
                                  have q157 : x5_1 < (l0.length : Int) := of_decide_eq_true (by first | (with_reducible assumption) | assumption)
                                  obtain ⟨ad157, A157_0, c157_0, e157, hx157_0, hl157_0, hi157_0⟩ := at_L7 HR0.out x5_1 p157 q157
                                  obtain rfl : ad154 = ad157 := (by injection e157)
                                  have HR157_0 := Aside0.mk hi157_0
                                  have HC157_0 := Aside0.mk hl157_0
                                  clear hi157_0 hl157_0
                                  replace p157 := eq_true p157
                                  replace q157 := eq_true q157
                                  have ea_ := Option.some.inj (hx156_0.symm.trans hx157_0)
                                  injection ea_ with ea_ en_ ec_
                                  subst ea_
                                  subst ec_
                                  clear en_
                                  have p158 : 0 ≤ (x6_2 : Int) := of_decide_eq_true (by first | (with_reducible assumption) | assumption)
                                  have q158 : x6_2 < ((rd_L7 l0 x5_1).length : Int) := of_decide_eq_true (by first | (with_reducible assumption) | assumption)
                                  obtain ⟨ad158, e158, hx158_0, hx158_1⟩ := at_T61 HR157_0.out x6_2 p158 q158
                                  cases e158
                                  replace p158 := eq_true p158
                                  replace q158 := eq_true q158
                                  have p159 : 0 ≤ (x5_1 : Int) := of_decide_eq_true (by first | (with_reducible assumption) | assumption)
                                  have q159 : x5_1 < (l1.length : Int) := of_decide_eq_true (by first | (with_reducible assumption) | assumption)
                                  obtain ⟨ad159, A159_0, c159_0, e159, hx159_0, hl159_0, hi159_0⟩ := at_L7 HR1.out x5_1 p159 q159
                                  obtain rfl : ad155 = ad159 := (by injection e159)
                                  have HR159_0 := Aside0.mk hi159_0
                                  have HC159_0 := Aside0.mk hl159_0
                                  clear hi159_0 hl159_0
                                  replace p159 := eq_true p159
                                  replace q159 := eq_true q159
                                  have p160 : 0 ≤ (x6_2 : Int) := of_decide_eq_true (by first | (with_reducible assumption) | assumption)
                                  have q160 : x6_2 < ((rd_L7 l1 x5_1).length : Int) := of_decide_eq_true (by first | (with_reducible assumption) | assumption)
                                  obtain ⟨ad160, e160, hx160_0, hx160_1⟩ := at_T61 HR159_0.out x6_2 p160 q160
                                  cases e160
                                  replace p160 := eq_true p160
                                  replace q160 := eq_true q160
                                  go_wp2
                                  repeat (go_quiet (fail); try go_wp2)
                                  go_ret
                                  exact ⟨by first | rfl | (simp; done) | (simp [*]; done), by repeat (first | exact Drawn0.refl _ | apply Drawn0.step)⟩
                                · rw [if_neg c14] at H
                                  have c14b0 : (!(((rd_T61 (rd_L7 l0 x5_1) x6_2).f0) == ((rd_T61 (rd_L7 l1 x5_1) x6_2).f0)) || (!(((rd_T61 (rd_L7 l0 x5_1) x6_2).f1) == ((rd_T61 (rd_L7 l1 x5_1) x6_2).f1)))) = false := by simpa using c14
                                  clear c14
                                  have H' := Aside0.mk H
                                  clear H
                                  have p156 : 0 ≤ (x5_1 : Int) := of_decide_eq_true (by first | (with_reducible assumption) | assumption)
                                  have q156 : x5_1 < (l0.length : Int) := of_decide_eq_true (by first | (with_reducible assumption) | assumption)
                                  obtain ⟨ad156, A156_0, c156_0, e156, hx156_0, hl156_0, hi156_0⟩ := at_L7 HR0.out x5_1 p156 q156
                                  obtain rfl : ad154 = ad156 := (by injection e156)
                                  have HR156_0 := Aside0.mk hi156_0
                                  have HC156_0 := Aside0.mk hl156_0
                                  clear hi156_0 hl156_0
                                  replace p156 := eq_true p156
                                  replace q156 := eq_true q156
                                  have p157 : 0 ≤ (x5_1 : Int) := of_decide_eq_true (by first | (with_reducible assumption) | assumption)
                                  have q157 : x5_1 < (l0.length : Int) := of_decide_eq_true (by first | (with_reducible assumption) | assumption)
                                  obtain ⟨ad157, A157_0, c157_0, e157, hx157_0, hl157_0, hi157_0⟩ := at_L7 HR0.out x5_1 p157 q157
                                  obtain rfl : ad154 = ad157 := (by injection e157)
                                  have HR157_0 := Aside0.mk hi157_0
                                  have HC157_0 := Aside0.mk hl157_0
                                  clear hi157_0 hl157_0
                                  replace p157 := eq_true p157
                                  replace q157 := eq_true q157
                                  have ea_ := Option.some.inj (hx156_0.symm.trans hx157_0)
                                  injection ea_ with ea_ en_ ec_
                                  subst ea_
                                  subst ec_
                                  clear en_
                                  have p158 : 0 ≤ (x6_2 : Int) := of_decide_eq_true (by first | (with_reducible assumption) | assumption)
                                  have q158 : x6_2 < ((rd_L7 l0 x5_1).length : Int) := of_decide_eq_true (by first | (with_reducible assumption) | assumption)
                                  obtain ⟨ad158, e158, hx158_0, hx158_1⟩ := at_T61 HR157_0.out x6_2 p158 q158
                                  cases e158
                                  replace p158 := eq_true p158
                                  replace q158 := eq_true q158
                                  have p159 : 0 ≤ (x5_1 : Int) := of_decide_eq_true (by first | (with_reducible assumption) | assumption)
                                  have q159 : x5_1 < (l1.length : Int) := of_decide_eq_true (by first | (with_reducible assumption) | assumption)
                                  obtain ⟨ad159, A159_0, c159_0, e159, hx159_0, hl159_0, hi159_0⟩ := at_L7 HR1.out x5_1 p159 q159
                                  obtain rfl : ad155 = ad159 := (by injection e159)
                                  have HR159_0 := Aside0.mk hi159_0
                                  have HC159_0 := Aside0.mk hl159_0
                                  clear hi159_0 hl159_0
                                  replace p159 := eq_true p159
                                  replace q159 := eq_true q159
                                  have p160 : 0 ≤ (x6_2 : Int) := of_decide_eq_true (by first | (with_reducible assumption) | assumption)
                                  have q160 : x6_2 < ((rd_L7 l1 x5_1).length : Int) := of_decide_eq_true (by first | (with_reducible assumption) | assumption)
                                  obtain ⟨ad160, e160, hx160_0, hx160_1⟩ := at_T61 HR159_0.out x6_2 p160 q160
                                  cases e160
                                  replace p160 := eq_true p160
                                  replace q160 := eq_true q160
                                  go_wp2
                                  repeat (go_quiet (fail); try go_wp2)
                                  go_roundg k2
                                  case measure => have := HK1.out; have := HK2.out; omega
                                  case rel => exact ⟨(wrap64 (x6_2 + 1)), (by first | rfl | (simp; done) | (simp [*]; done)), H', ⟨by have := HK1.out; have := HK2.out; omega⟩, by repeat (first | exact Drawn0.refl _ | apply Drawn0.step)⟩
                              · rw [if_neg c13] at H
                                exact absurd H (by simp)
                            · rw [if_neg c12] at H
                              exact absurd H (by simp)
                          · rw [if_neg c11] at H
                            exact absurd H (by simp)
                        · rw [if_neg c10] at H
                          have c10b0 : decide (x6_2 < ((rd_L7 l0 x5_1).length : Int)) = false := decide_eq_false c10
                          clear c10
                          have H' := Aside0.mk H
                          clear H
                          have p156 : 0 ≤ (x5_1 : Int) := of_decide_eq_true (by first | (with_reducible assumption) | assumption)
                          have q156 : x5_1 < (l0.length : Int) := of_decide_eq_true (by first | (with_reducible assumption) | assumption)
                          obtain ⟨ad156, A156_0, c156_0, e156, hx156_0, hl156_0, hi156_0⟩ := at_L7 HR0.out x5_1 p156 q156
                          obtain rfl : ad154 = ad156 := (by injection e156)
                          have HR156_0 := Aside0.mk hi156_0
                          have HC156_0 := Aside0.mk hl156_0
                          clear hi156_0 hl156_0
                          replace p156 := eq_true p156
                          replace q156 := eq_true q156
                          go_wp2
                          repeat (go_quiet (fail); try go_wp2)
                          go_roundg k2
                          case measure => have := HK1.out; have := HK2.out; omega
                          case rel => exact ⟨(wrap64 (x5_1 + 1)), (by first | rfl | (simp; done) | (simp [*]; done)), H', ⟨by have := HK1.out; have := HK2.out; omega⟩, by repeat (first | exact Drawn0.refl _ | apply Drawn0.step)⟩
                      · rw [if_neg c9] at H
                        exact absurd H (by simp)
                    · rw [if_neg c8] at H
                      exact absurd H (by simp)
              · rw [if_neg c7] at H
                have c7b0 : (((rd_L7 l0 x5_1).length : Int) == ((rd_L7 l1 x5_1).length : Int)) = false := beq_eq_false_iff_ne.mpr c7
                have c7b1 : (((rd_L7 l0 x5_1).length : Int) != ((rd_L7 l1 x5_1).length : Int)) = true := bne_iff_ne.mpr c7
                have c7b2 : ((rd_L7 l0 x5_1).length == (rd_L7 l1 x5_1).length) = false := by first | simpa using c7 | (simp at c7 ⊢; omega)
                obtain rfl := Option.some.inj H
                have p154 : 0 ≤ (x5_1 : Int) := of_decide_eq_true (by first | (with_reducible assumption) | assumption)
                have q154 : x5_1 < (l0.length : Int) := of_decide_eq_true (by first | (with_reducible assumption) | assumption)
                obtain ⟨ad154, A154_0, c154_0, e154, hx154_0, hl154_0, hi154_0⟩ := at_L7 HR0.out x5_1 p154 q154
                cases e154
                have HR154_0 := Aside0.mk hi154_0
                have HC154_0 := Aside0.mk hl154_0
                clear hi154_0 hl154_0
                replace p154 := eq_true p154
                replace q154 := eq_true q154
                have p155 : 0 ≤ (x5_1 : Int) := of_decide_eq_true (by first | (with_reducible assumption) | assumption)
                have q155 : x5_1 < (l1.length : Int) := of_decide_eq_true (by first | (with_reducible assumption) | assumption)
                obtain ⟨ad155, A155_0, c155_0, e155, hx155_0, hl155_0, hi155_0⟩ := at_L7 HR1.out x5_1 p155 q155
                cases e155
                have HR155_0 := Aside0.mk hi155_0
                have HC155_0 := Aside0.mk hl155_0
                clear hi155_0 hl155_0
                replace p155 := eq_true p155
                replace q155 := eq_true q155
                go_wp2
                repeat (go_quiet (fail); try go_wp2)
                go_ret
                exact ⟨by first | rfl | (simp; done) | (simp [*]; done), by repeat (first | exact Drawn0.refl _ | apply Drawn0.step)⟩
            · rw [if_neg c6] at H
              exact absurd H (by simp)
          · rw [if_neg c5] at H
            exact absurd H (by simp)
        · rw [if_neg c4] at H
          have c4b0 : decide (x5_1 < (l0.length : Int)) = false := decide_eq_false c4
          clear c4
          obtain rfl := Option.some.inj H
          go_wp2
          repeat (go_quiet (fail); try go_wp2)
          go_ret
          exact ⟨by first | rfl | (simp; done) | (simp [*]; done), by repeat (first | exact Drawn0.refl _ | apply Drawn0.step)⟩
  · rw [if_neg c3] at H
    have c3b0 : ((l0.length : Int) == (l1.length : Int)) = false := beq_eq_false_iff_ne.mpr c3
    have c3b1 : ((l0.length : Int) != (l1.length : Int)) = true := bne_iff_ne.mpr c3
    have c3b2 : (l0.length == l1.length) = false := by first | simpa using c3 | (simp at c3 ⊢; omega)
    obtain rfl := Option.some.inj H
    go_enter Tryz.func22, Tryz.ntmps22
    go_wp2
    repeat (go_quiet (fail); try go_wp2)
    go_ret
    exact ⟨by first | rfl | (simp; done) | (simp [*]; done), by repeat (first | exact Drawn0.refl _ | apply Drawn0.step)⟩
end Go.Proofs.YtdplnbmioioniaaGreat.Pq
end
section
namespace Go.Proofs.YtdplnbmioioniaaGreat.Pq
open Go.RowKit Go.Proofs.YtdplnbmioioniaaGreatW.PrintWords Go.Proofs.YtdplnbmioioniaaGreatW.PrintLast Go.Proofs.YtdplnbmioioniaaGreatW.PrintMore
attribute [local go_sem] max2_int min2_int max_two min_two max_three min_three max_four min_four
set_option linter.unusedVariables false
set_option linter.unusedSimpArgs false
def standbylaw45_awake.j0 : Nat → List (List (S61)) → List (List (S61)) → Bool → Bool → Bool → Option (Bool)
  | 0, _, _, _, _, _ => none
  | k + 1, x6, x9, x11, x13, x83 => if x83 = true then (some false) else ((standbyref36_SameExtents.f k x9 (([(([(⟨0, 1⟩ : S61), (⟨4, 1⟩ : S61)] : List (S61)))] : List (List (S61))))).bind fun t210 => (if t210 = true then (if x11 = true then (if x13 = true then (some false) else ((resync_Cost.f x6).bind fun t211 => (if t211 = 3 then ((resync_Cost.f x9).bind fun t212 => (some (t212 == 2))) else (some false)))) else (some false)) else (some false)))
def standbylaw45_awake.f (k : Nat)  : Option (Bool) := (some (([(([(⟨1, 0, 0, 0, 0, 0, 0, 0⟩ : S59), (⟨2, 0, 0, 0, 0, 0, 0, 0⟩ : S59), (⟨0, 0, 0, 0, 0, 0, 0, 0⟩ : S59), (⟨0, 0, 0, 0, 0, 0, 0, 0⟩ : S59), (⟨3, 0, 0, 0, 0, 0, 0, 0⟩ : S59)] : List (S59)))] : List (List (S59))) : List (List (S59)))).bind fun y167 => ((some (([(([(⟨0, 0, 0, 0, 0, 0, 0, 0⟩ : S59), (⟨2, 0, 0, 0, 0, 0, 0, 0⟩ : S59), (⟨0, 0, 0, 0, 0, 0, 0, 0⟩ : S59), (⟨0, 0, 0, 0, 0, 0, 0, 0⟩ : S59), (⟨0, 0, 0, 0, 0, 0, 0, 0⟩ : S59)] : List (S59)))] : List (List (S59))) : List (List (S59)))).bind fun y173 => ((some (([(([(⟨0, 2⟩ : S61), (⟨4, 1⟩ : S61)] : List (S61)))] : List (List (S61))) : List (List (S61)))).bind fun y179 => ((resync_Writes.f y167 y179).bind fun bt182 => ((resync_Needed.f y167 y173 y179).bind fun bt186 => ((resync_Exact.f y167 y173 bt186.1).bind fun bt190 => ((resync_Exact.f y167 y173 y179).bind fun bt192 => (if (wrap64 ((wrap64 ((wrap64 (bt182.2 + bt186.2)) + bt190.2)) + bt192.2)) = 0 then ((standbyref22_Same.f k bt182.1 (([(⟨0, 0, (([(⟨1, 0, 0, 0, 0, 0, 0, 0⟩ : S59), (⟨2, 0, 0, 0, 0, 0, 0, 0⟩ : S59)] : List (S59)))⟩ : S66), (⟨0, 4, (([(⟨3, 0, 0, 0, 0, 0, 0, 0⟩ : S59)] : List (S59)))⟩ : S66)] : List (S66)))).bind fun t203 => (standbylaw45_awake.j0 k y179 bt186.1 bt190.1 bt192.1 (!t203))) else (standbylaw45_awake.j0 k y179 bt186.1 bt190.1 bt192.1 true))))))))
def standbylaw45_awake.T2 : Bool × List (List Nat × List Nat) := (true, [([], []), ([], []), ([], []), ([], []), ([], []), ([0, 1, 2, 3, 4], [0, 1, 2, 3, 4]), ([5], [5]), ([], []), ([], []), ([], []), ([], []), ([], []), ([7, 8, 9, 10, 11], [7, 8, 9, 10, 11]), ([12], [12]), ([6, 0, 1, 2, 3, 4, 5, 6], [6]), ([13, 14, 0, 1, 2, 3, 4, 5, 6, 7, 8, 9, 10, 11, 12, 13, 14], [13])])
def standbylaw45_awake.B2 : List Nat := [0, 0, 0, 0, 0, 31, 63, 0, 0, 0, 0, 0, 3968, 8064, 127, 32767]
theorem standbylaw45_awake.tab2 : rtab .any (opsOf Tryz.f7 2) = standbylaw45_awake.T2 := by kernel_rfl
theorem standbylaw45_awake.bits2 : waitsOk standbylaw45_awake.T2.2 standbylaw45_awake.B2 = true := by kernel_rfl
set_option maxHeartbeats 8000000 in
set_option maxRecDepth 100000 in
theorem standbylaw45_awake.calls (k : Nat)  (r : Bool) (w : World) (h : standbylaw45_awake.f k  = some r) (hr_ : r = true) :
    Calls Tryz.prog 7 #[] w fun e w' => e = .returned (.bool r) ∧ Below w.heap.size w w' := by
  have hu59 := Tryz.underlying59
  have hu61 := Tryz.underlying61
  have hu66 := Tryz.underlying66
  have HB := Aside0.mk (Below.refl w.heap.size w)
  have H : ((some (([(([(⟨1, 0, 0, 0, 0, 0, 0, 0⟩ : S59), (⟨2, 0, 0, 0, 0, 0, 0, 0⟩ : S59), (⟨0, 0, 0, 0, 0, 0, 0, 0⟩ : S59), (⟨0, 0, 0, 0, 0, 0, 0, 0⟩ : S59), (⟨3, 0, 0, 0, 0, 0, 0, 0⟩ : S59)] : List (S59)))] : List (List (S59))) : List (List (S59)))).bind fun y167 => ((some (([(([(⟨0, 0, 0, 0, 0, 0, 0, 0⟩ : S59), (⟨2, 0, 0, 0, 0, 0, 0, 0⟩ : S59), (⟨0, 0, 0, 0, 0, 0, 0, 0⟩ : S59), (⟨0, 0, 0, 0, 0, 0, 0, 0⟩ : S59), (⟨0, 0, 0, 0, 0, 0, 0, 0⟩ : S59)] : List (S59)))] : List (List (S59))) : List (List (S59)))).bind fun y173 => ((some (([(([(⟨0, 2⟩ : S61), (⟨4, 1⟩ : S61)] : List (S61)))] : List (List (S61))) : List (List (S61)))).bind fun y179 => ((resync_Writes.f y167 y179).bind fun bt182 => ((resync_Needed.f y167 y173 y179).bind fun bt186 => ((resync_Exact.f y167 y173 bt186.1).bind fun bt190 => ((resync_Exact.f y167 y173 y179).bind fun bt192 => (if (wrap64 ((wrap64 ((wrap64 (bt182.2 + bt186.2)) + bt190.2)) + bt192.2)) = 0 then ((standbyref22_Same.f k bt182.1 (([(⟨0, 0, (([(⟨1, 0, 0, 0, 0, 0, 0, 0⟩ : S59), (⟨2, 0, 0, 0, 0, 0, 0, 0⟩ : S59)] : List (S59)))⟩ : S66), (⟨0, 4, (([(⟨3, 0, 0, 0, 0, 0, 0, 0⟩ : S59)] : List (S59)))⟩ : S66)] : List (S66)))).bind fun t203 => (standbylaw45_awake.j0 k y179 bt186.1 bt190.1 bt192.1 (!t203))) else (standbylaw45_awake.j0 k y179 bt186.1 bt190.1 bt192.1 true))))))))) = some r := h
  clear h
  obtain ⟨y164, hy164⟩ : ∃ y_ : List (S59), y_ = (([(⟨1, 0, 0, 0, 0, 0, 0, 0⟩ : S59), (⟨2, 0, 0, 0, 0, 0, 0, 0⟩ : S59), (⟨0, 0, 0, 0, 0, 0, 0, 0⟩ : S59), (⟨0, 0, 0, 0, 0, 0, 0, 0⟩ : S59), (⟨3, 0, 0, 0, 0, 0, 0, 0⟩ : S59)] : List (S59))) := ⟨_, rfl⟩
  replace H : ((some (([y164] : List (List (S59))) : List (List (S59)))).bind fun y167 => ((some (([(([(⟨0, 0, 0, 0, 0, 0, 0, 0⟩ : S59), (⟨2, 0, 0, 0, 0, 0, 0, 0⟩ : S59), (⟨0, 0, 0, 0, 0, 0, 0, 0⟩ : S59), (⟨0, 0, 0, 0, 0, 0, 0, 0⟩ : S59), (⟨0, 0, 0, 0, 0, 0, 0, 0⟩ : S59)] : List (S59)))] : List (List (S59))) : List (List (S59)))).bind fun y173 => ((some (([(([(⟨0, 2⟩ : S61), (⟨4, 1⟩ : S61)] : List (S61)))] : List (List (S61))) : List (List (S61)))).bind fun y179 => ((resync_Writes.f y167 y179).bind fun bt182 => ((resync_Needed.f y167 y173 y179).bind fun bt186 => ((resync_Exact.f y167 y173 bt186.1).bind fun bt190 => ((resync_Exact.f y167 y173 y179).bind fun bt192 => (if (wrap64 ((wrap64 ((wrap64 (bt182.2 + bt186.2)) + bt190.2)) + bt192.2)) = 0 then ((standbyref22_Same.f k bt182.1 (([(⟨0, 0, (([(⟨1, 0, 0, 0, 0, 0, 0, 0⟩ : S59), (⟨2, 0, 0, 0, 0, 0, 0, 0⟩ : S59)] : List (S59)))⟩ : S66), (⟨0, 4, (([(⟨3, 0, 0, 0, 0, 0, 0, 0⟩ : S59)] : List (S59)))⟩ : S66)] : List (S66)))).bind fun t203 => (standbylaw45_awake.j0 k y179 bt186.1 bt190.1 bt192.1 (!t203))) else (standbylaw45_awake.j0 k y179 bt186.1 bt190.1 bt192.1 true))))))))) = some r := by first | (rw [hy164]; with_reducible exact H) | (have H2_ := (Option.bind_some _ _).symm.trans H; rw [hy164]; with_reducible exact H2_) | (have H2_ := (Option.bind_some _ _).symm.trans H; with_reducible exact H2_) | with_reducible exact H | (rw [hy164]; exact H) | exact H
  have Ny164 := Aside0.mk hy164
  clear hy164
  obtain ⟨y167, hy167⟩ : ∃ y_ : List (List (S59)), y_ = (([y164] : List (List (S59)))) := ⟨_, rfl⟩
  replace H : ((some (([(([(⟨0, 0, 0, 0, 0, 0, 0, 0⟩ : S59), (⟨2, 0, 0, 0, 0, 0, 0, 0⟩ : S59), (⟨0, 0, 0, 0, 0, 0, 0, 0⟩ : S59), (⟨0, 0, 0, 0, 0, 0, 0, 0⟩ : S59), (⟨0, 0, 0, 0, 0, 0, 0, 0⟩ : S59)] : List (S59)))] : List (List (S59))) : List (List (S59)))).bind fun y173 => ((some (([(([(⟨0, 2⟩ : S61), (⟨4, 1⟩ : S61)] : List (S61)))] : List (List (S61))) : List (List (S61)))).bind fun y179 => ((resync_Writes.f y167 y179).bind fun bt182 => ((resync_Needed.f y167 y173 y179).bind fun bt186 => ((resync_Exact.f y167 y173 bt186.1).bind fun bt190 => ((resync_Exact.f y167 y173 y179).bind fun bt192 => (if (wrap64 ((wrap64 ((wrap64 (bt182.2 + bt186.2)) + bt190.2)) + bt192.2)) = 0 then ((standbyref22_Same.f k bt182.1 (([(⟨0, 0, (([(⟨1, 0, 0, 0, 0, 0, 0, 0⟩ : S59), (⟨2, 0, 0, 0, 0, 0, 0, 0⟩ : S59)] : List (S59)))⟩ : S66), (⟨0, 4, (([(⟨3, 0, 0, 0, 0, 0, 0, 0⟩ : S59)] : List (S59)))⟩ : S66)] : List (S66)))).bind fun t203 => (standbylaw45_awake.j0 k y179 bt186.1 bt190.1 bt192.1 (!t203))) else (standbylaw45_awake.j0 k y179 bt186.1 bt190.1 bt192.1 true)))))))) = some r := by first | (rw [hy167]; with_reducible exact H) | (have H2_ := (Option.bind_some _ _).symm.trans H; rw [hy167]; with_reducible exact H2_) | (have H2_ := (Option.bind_some _ _).symm.trans H; with_reducible exact H2_) | with_reducible exact H | (rw [hy167]; exact H) | exact H
  have Ny167 := Aside0.mk hy167
  clear hy167
  obtain ⟨y170, hy170⟩ : ∃ y_ : List (S59), y_ = (([(⟨0, 0, 0, 0, 0, 0, 0, 0⟩ : S59), (⟨2, 0, 0, 0, 0, 0, 0, 0⟩ : S59), (⟨0, 0, 0, 0, 0, 0, 0, 0⟩ : S59), (⟨0, 0, 0, 0, 0, 0, 0, 0⟩ : S59), (⟨0, 0, 0, 0, 0, 0, 0, 0⟩ : S59)] : List (S59))) := ⟨_, rfl⟩
  replace H : ((some (([y170] : List (List (S59))) : List (List (S59)))).bind fun y173 => ((some (([(([(⟨0, 2⟩ : S61), (⟨4, 1⟩ : S61)] : List (S61)))] : List (List (S61))) : List (List (S61)))).bind fun y179 => ((resync_Writes.f y167 y179).bind fun bt182 => ((resync_Needed.f y167 y173 y179).bind fun bt186 => ((resync_Exact.f y167 y173 bt186.1).bind fun bt190 => ((resync_Exact.f y167 y173 y179).bind fun bt192 => (if (wrap64 ((wrap64 ((wrap64 (bt182.2 + bt186.2)) + bt190.2)) + bt192.2)) = 0 then ((standbyref22_Same.f k bt182.1 (([(⟨0, 0, (([(⟨1, 0, 0, 0, 0, 0, 0, 0⟩ : S59), (⟨2, 0, 0, 0, 0, 0, 0, 0⟩ : S59)] : List (S59)))⟩ : S66), (⟨0, 4, (([(⟨3, 0, 0, 0, 0, 0, 0, 0⟩ : S59)] : List (S59)))⟩ : S66)] : List (S66)))).bind fun t203 => (standbylaw45_awake.j0 k y179 bt186.1 bt190.1 bt192.1 (!t203))) else (standbylaw45_awake.j0 k y179 bt186.1 bt190.1 bt192.1 true)))))))) = some r := by first | (rw [hy170]; with_reducible exact H) | (have H2_ := (Option.bind_some _ _).symm.trans H; rw [hy170]; with_reducible exact H2_) | (have H2_ := (Option.bind_some _ _).symm.trans H; with_reducible exact H2_) | with_reducible exact H | (rw [hy170]; exact H) | exact H
  have Ny170 := Aside0.mk hy170
  clear hy170
  obtain ⟨y173, hy173⟩ : ∃ y_ : List (List (S59)), y_ = (([y170] : List (List (S59)))) := ⟨_, rfl⟩
  replace H : ((some (([(([(⟨0, 2⟩ : S61), (⟨4, 1⟩ : S61)] : List (S61)))] : List (List (S61))) : List (List (S61)))).bind fun y179 => ((resync_Writes.f y167 y179).bind fun bt182 => ((resync_Needed.f y167 y173 y179).bind fun bt186 => ((resync_Exact.f y167 y173 bt186.1).bind fun bt190 => ((resync_Exact.f y167 y173 y179).bind fun bt192 => (if (wrap64 ((wrap64 ((wrap64 (bt182.2 + bt186.2)) + bt190.2)) + bt192.2)) = 0 then ((standbyref22_Same.f k bt182.1 (([(⟨0, 0, (([(⟨1, 0, 0, 0, 0, 0, 0, 0⟩ : S59), (⟨2, 0, 0, 0, 0, 0, 0, 0⟩ : S59)] : List (S59)))⟩ : S66), (⟨0, 4, (([(⟨3, 0, 0, 0, 0, 0, 0, 0⟩ : S59)] : List (S59)))⟩ : S66)] : List (S66)))).bind fun t203 => (standbylaw45_awake.j0 k y179 bt186.1 bt190.1 bt192.1 (!t203))) else (standbylaw45_awake.j0 k y179 bt186.1 bt190.1 bt192.1 true))))))) = some r := by first | (rw [hy173]; with_reducible exact H) | (have H2_ := (Option.bind_some _ _).symm.trans H; rw [hy173]; with_reducible exact H2_) | (have H2_ := (Option.bind_some _ _).symm.trans H; with_reducible exact H2_) | with_reducible exact H | (rw [hy173]; exact H) | exact H
  have Ny173 := Aside0.mk hy173
  clear hy173
  obtain ⟨y176, hy176⟩ : ∃ y_ : List (S61), y_ = (([(⟨0, 2⟩ : S61), (⟨4, 1⟩ : S61)] : List (S61))) := ⟨_, rfl⟩
  replace H : ((some (([y176] : List (List (S61))) : List (List (S61)))).bind fun y179 => ((resync_Writes.f y167 y179).bind fun bt182 => ((resync_Needed.f y167 y173 y179).bind fun bt186 => ((resync_Exact.f y167 y173 bt186.1).bind fun bt190 => ((resync_Exact.f y167 y173 y179).bind fun bt192 => (if (wrap64 ((wrap64 ((wrap64 (bt182.2 + bt186.2)) + bt190.2)) + bt192.2)) = 0 then ((standbyref22_Same.f k bt182.1 (([(⟨0, 0, (([(⟨1, 0, 0, 0, 0, 0, 0, 0⟩ : S59), (⟨2, 0, 0, 0, 0, 0, 0, 0⟩ : S59)] : List (S59)))⟩ : S66), (⟨0, 4, (([(⟨3, 0, 0, 0, 0, 0, 0, 0⟩ : S59)] : List (S59)))⟩ : S66)] : List (S66)))).bind fun t203 => (standbylaw45_awake.j0 k y179 bt186.1 bt190.1 bt192.1 (!t203))) else (standbylaw45_awake.j0 k y179 bt186.1 bt190.1 bt192.1 true))))))) = some r := by first | (rw [hy176]; with_reducible exact H) | (have H2_ := (Option.bind_some _ _).symm.trans H; rw [hy176]; with_reducible exact H2_) | (have H2_ := (Option.bind_some _ _).symm.trans H; with_reducible exact H2_) | with_reducible exact H | (rw [hy176]; exact H) | exact H
  have Ny176 := Aside0.mk hy176
  clear hy176
  obtain ⟨y179, hy179⟩ : ∃ y_ : List (List (S61)), y_ = (([y176] : List (List (S61)))) := ⟨_, rfl⟩
  replace H : ((resync_Writes.f y167 y179).bind fun bt182 => ((resync_Needed.f y167 y173 y179).bind fun bt186 => ((resync_Exact.f y167 y173 bt186.1).bind fun bt190 => ((resync_Exact.f y167 y173 y179).bind fun bt192 => (if (wrap64 ((wrap64 ((wrap64 (bt182.2 + bt186.2)) + bt190.2)) + bt192.2)) = 0 then ((standbyref22_Same.f k bt182.1 (([(⟨0, 0, (([(⟨1, 0, 0, 0, 0, 0, 0, 0⟩ : S59), (⟨2, 0, 0, 0, 0, 0, 0, 0⟩ : S59)] : List (S59)))⟩ : S66), (⟨0, 4, (([(⟨3, 0, 0, 0, 0, 0, 0, 0⟩ : S59)] : List (S59)))⟩ : S66)] : List (S66)))).bind fun t203 => (standbylaw45_awake.j0 k y179 bt186.1 bt190.1 bt192.1 (!t203))) else (standbylaw45_awake.j0 k y179 bt186.1 bt190.1 bt192.1 true)))))) = some r := by first | (rw [hy179]; with_reducible exact H) | (have H2_ := (Option.bind_some _ _).symm.trans H; rw [hy179]; with_reducible exact H2_) | (have H2_ := (Option.bind_some _ _).symm.trans H; with_reducible exact H2_) | with_reducible exact H | (rw [hy179]; exact H) | exact H
  have Ny179 := Aside0.mk hy179
  clear hy179
  replace H := Option.bind_eq_some_iff.mp H
  obtain ⟨⟨t182, t183⟩, A10, H⟩ := H
  replace H : ((resync_Needed.f y167 y173 y179).bind fun bt186 => ((resync_Exact.f y167 y173 bt186.1).bind fun bt190 => ((resync_Exact.f y167 y173 y179).bind fun bt192 => (if (wrap64 ((wrap64 ((wrap64 (t183 + bt186.2)) + bt190.2)) + bt192.2)) = 0 then ((standbyref22_Same.f k t182 (([(⟨0, 0, (([(⟨1, 0, 0, 0, 0, 0, 0, 0⟩ : S59), (⟨2, 0, 0, 0, 0, 0, 0, 0⟩ : S59)] : List (S59)))⟩ : S66), (⟨0, 4, (([(⟨3, 0, 0, 0, 0, 0, 0, 0⟩ : S59)] : List (S59)))⟩ : S66)] : List (S66)))).bind fun t203 => (standbylaw45_awake.j0 k y179 bt186.1 bt190.1 bt192.1 (!t203))) else (standbylaw45_awake.j0 k y179 bt186.1 bt190.1 bt192.1 true))))) = some r := H
  have A1 := Aside0.mk A10
  clear A10
  replace H := Option.bind_eq_some_iff.mp H
  obtain ⟨⟨t186, t187⟩, A20, H⟩ := H
  replace H : ((resync_Exact.f y167 y173 t186).bind fun bt190 => ((resync_Exact.f y167 y173 y179).bind fun bt192 => (if (wrap64 ((wrap64 ((wrap64 (t183 + t187)) + bt190.2)) + bt192.2)) = 0 then ((standbyref22_Same.f k t182 (([(⟨0, 0, (([(⟨1, 0, 0, 0, 0, 0, 0, 0⟩ : S59), (⟨2, 0, 0, 0, 0, 0, 0, 0⟩ : S59)] : List (S59)))⟩ : S66), (⟨0, 4, (([(⟨3, 0, 0, 0, 0, 0, 0, 0⟩ : S59)] : List (S59)))⟩ : S66)] : List (S66)))).bind fun t203 => (standbylaw45_awake.j0 k y179 t186 bt190.1 bt192.1 (!t203))) else (standbylaw45_awake.j0 k y179 t186 bt190.1 bt192.1 true)))) = some r := H
  have A2 := Aside0.mk A20
  clear A20
  replace H := Option.bind_eq_some_iff.mp H
  obtain ⟨⟨t190, t191⟩, A30, H⟩ := H
  replace H : ((resync_Exact.f y167 y173 y179).bind fun bt192 => (if (wrap64 ((wrap64 ((wrap64 (t183 + t187)) + t191)) + bt192.2)) = 0 then ((standbyref22_Same.f k t182 (([(⟨0, 0, (([(⟨1, 0, 0, 0, 0, 0, 0, 0⟩ : S59), (⟨2, 0, 0, 0, 0, 0, 0, 0⟩ : S59)] : List (S59)))⟩ : S66), (⟨0, 4, (([(⟨3, 0, 0, 0, 0, 0, 0, 0⟩ : S59)] : List (S59)))⟩ : S66)] : List (S66)))).bind fun t203 => (standbylaw45_awake.j0 k y179 t186 t190 bt192.1 (!t203))) else (standbylaw45_awake.j0 k y179 t186 t190 bt192.1 true))) = some r := H
  have A3 := Aside0.mk A30
  clear A30
  replace H := Option.bind_eq_some_iff.mp H
  obtain ⟨⟨t192, t193⟩, A40, H⟩ := H
  replace H : (if (wrap64 ((wrap64 ((wrap64 (t183 + t187)) + t191)) + t193)) = 0 then ((standbyref22_Same.f k t182 (([(⟨0, 0, (([(⟨1, 0, 0, 0, 0, 0, 0, 0⟩ : S59), (⟨2, 0, 0, 0, 0, 0, 0, 0⟩ : S59)] : List (S59)))⟩ : S66), (⟨0, 4, (([(⟨3, 0, 0, 0, 0, 0, 0, 0⟩ : S59)] : List (S59)))⟩ : S66)] : List (S66)))).bind fun t203 => (standbylaw45_awake.j0 k y179 t186 t190 t192 (!t203))) else (standbylaw45_awake.j0 k y179 t186 t190 t192 true)) = some r := H
  have A4 := Aside0.mk A40
  clear A40
  have HC5 := Aside0.mk H
  clear H
  go_enter Tryz.func7, Tryz.ntmps7
  try go_wp2_with (first | ((with_reducible refine gate_dst (N := 1) rfl ?_); (try (refine gate_guard (by rfl) ?_; dsimp only)); refine box_event ?hg (N := 1) ?hd (cs := #[.int .u8 0, .int .u8 0, .int .u8 0, .int .u8 0, .int .u8 0, .int .u8 0, .int .u8 0, .int .u8 0]) (t := 59) ?hr ?_; (case hd => rfl); (case hg => rfl); (case hr => first | (go_simp; done) | (go_simp; rfl)); intro gb161 hg w6 hbox hb; have BK161 := Aside0.mk (hbox); have GW161 := Aside0.mk (zg hg HB); have GE161 := Aside0.mk (zg hg HB); replace HB := Aside0.mk (below_step (zb HB) hb); clear hb hbox hg) | ((with_reducible refine gate_dst (N := 2) rfl ?_); (try (refine gate_guard (by rfl) ?_; dsimp only)); refine box_event ?hg (N := 2) ?hd (cs := #[.int .u8 0, .int .u8 0, .int .u8 0, .int .u8 0, .int .u8 0, .int .u8 0, .int .u8 0, .int .u8 0]) (t := 59) ?hr ?_; (case hd => rfl); (case hg => rfl); (case hr => first | (go_simp; done) | (go_simp; rfl)); intro gb162 hg w7 hbox hb; have BK162 := Aside0.mk (hbox); have GW162 := Aside0.mk (zg hg HB); have GE162 := Aside0.mk (zg hg HB); have NB161_162 := Aside0.mk (zl hg BK161); have NB162_161 := Aside0.mk (zh hg BK161); replace BK161 := Aside0.mk (blk_below (zk BK161) hb); replace HB := Aside0.mk (below_step (zb HB) hb); clear hb hbox hg) | ((with_reducible refine gate_dst (N := 3) rfl ?_); (try (refine gate_guard (by rfl) ?_; dsimp only)); refine box_event ?hg (N := 3) ?hd (cs := #[.int .u8 0, .int .u8 0, .int .u8 0, .int .u8 0, .int .u8 0, .int .u8 0, .int .u8 0, .int .u8 0]) (t := 59) ?hr ?_; (case hd => rfl); (case hg => rfl); (case hr => first | (go_simp; done) | (go_simp; rfl)); intro gb163 hg w8 hbox hb; have BK163 := Aside0.mk (hbox); have GW163 := Aside0.mk (zg hg HB); have GE163 := Aside0.mk (zg hg HB); have NB161_163 := Aside0.mk (zl hg BK161); have NB163_161 := Aside0.mk (zh hg BK161); have NB162_163 := Aside0.mk (zl hg BK162); have NB163_162 := Aside0.mk (zh hg BK162); replace BK161 := Aside0.mk (blk_below (zk BK161) hb); replace BK162 := Aside0.mk (blk_below (zk BK162) hb); replace HB := Aside0.mk (below_step (zb HB) hb); clear hb hbox hg; have hnb9 := NB161_162.out; have hnc9 := NB162_161.out; have hnb10 := NB161_163.out; have hnc10 := NB163_161.out; obtain ⟨⟨hcz11_0, hcz11_1, hcz11_2, hcz11_3, hcz11_4, hcz11_5, hcz11_6, hcz11_7⟩, hfz11_0, hfz11_1, hfz11_2, hfz11_3, hfz11_4, hfz11_5, hfz11_6, hfz11_7⟩ := zc8 BK161; have hnb12 := NB162_163.out; have hnc12 := NB163_162.out; obtain ⟨⟨hcz13_0, hcz13_1, hcz13_2, hcz13_3, hcz13_4, hcz13_5, hcz13_6, hcz13_7⟩, hfz13_0, hfz13_1, hfz13_2, hfz13_3, hfz13_4, hfz13_5, hfz13_6, hfz13_7⟩ := zc8 BK162; obtain ⟨⟨hcz14_0, hcz14_1, hcz14_2, hcz14_3, hcz14_4, hcz14_5, hcz14_6, hcz14_7⟩, hfz14_0, hfz14_1, hfz14_2, hfz14_3, hfz14_4, hfz14_5, hfz14_6, hfz14_7⟩ := zc8 BK163))
  have n0_ : Aside0 (((((((((((((((((((((((((w8.setCell ⟨gb161, 0, none⟩ (.int .u8 1)).setCell ⟨gb161, 1, none⟩ (.int .u8 0)).setCell ⟨gb161, 2, none⟩ (.int .u8 0)).setCell ⟨gb161, 3, none⟩ (.int .u8 0)).setCell ⟨gb161, 4, none⟩ (.int .u8 0)).setCell ⟨gb161, 5, none⟩ (.int .u8 0)).setCell ⟨gb161, 6, none⟩ (.int .u8 0)).setCell ⟨gb161, 7, none⟩ (.int .u8 0)).setCell ⟨gb162, 0, none⟩ (.int .u8 2)).setCell ⟨gb162, 1, none⟩ (.int .u8 0)).setCell ⟨gb162, 2, none⟩ (.int .u8 0)).setCell ⟨gb162, 3, none⟩ (.int .u8 0)).setCell ⟨gb162, 4, none⟩ (.int .u8 0)).setCell ⟨gb162, 5, none⟩ (.int .u8 0)).setCell ⟨gb162, 6, none⟩ (.int .u8 0)).setCell ⟨gb162, 7, none⟩ (.int .u8 0)).setCell ⟨gb163, 0, none⟩ (.int .u8 3)).setCell ⟨gb163, 1, none⟩ (.int .u8 0)).setCell ⟨gb163, 2, none⟩ (.int .u8 0)).setCell ⟨gb163, 3, none⟩ (.int .u8 0)).setCell ⟨gb163, 4, none⟩ (.int .u8 0)).setCell ⟨gb163, 5, none⟩ (.int .u8 0)).setCell ⟨gb163, 6, none⟩ (.int .u8 0)).setCell ⟨gb163, 7, none⟩ (.int .u8 0)).heap[gb161]? = some (.cells #[.int .u8 1, .int .u8 0, .int .u8 0, .int .u8 0, .int .u8 0, .int .u8 0, .int .u8 0, .int .u8 0] 59 (0, 0))) := ⟨by (with_reducible repeat (first | refine blk_drewN ?_ _ | refine blk_drew ?_ | refine blk_alloc ?_ _)); refine blk_far ?_ NB161_163.out _; (with_reducible repeat (first | refine blk_drewN ?_ _ | refine blk_drew ?_ | refine blk_alloc ?_ _)); refine blk_far ?_ NB161_163.out _; (with_reducible repeat (first | refine blk_drewN ?_ _ | refine blk_drew ?_ | refine blk_alloc ?_ _)); refine blk_far ?_ NB161_163.out _; (with_reducible repeat (first | refine blk_drewN ?_ _ | refine blk_drew ?_ | refine blk_alloc ?_ _)); refine blk_far ?_ NB161_163.out _; (with_reducible repeat (first | refine blk_drewN ?_ _ | refine blk_drew ?_ | refine blk_alloc ?_ _)); refine blk_far ?_ NB161_163.out _; (with_reducible repeat (first | refine blk_drewN ?_ _ | refine blk_drew ?_ | refine blk_alloc ?_ _)); refine blk_far ?_ NB161_163.out _; (with_reducible repeat (first | refine blk_drewN ?_ _ | refine blk_drew ?_ | refine blk_alloc ?_ _)); refine blk_far ?_ NB161_163.out _; (with_reducible repeat (first | refine blk_drewN ?_ _ | refine blk_drew ?_ | refine blk_alloc ?_ _)); refine blk_far ?_ NB161_163.out _; (with_reducible repeat (first | refine blk_drewN ?_ _ | refine blk_drew ?_ | refine blk_alloc ?_ _)); refine blk_far ?_ NB161_162.out _; (with_reducible repeat (first | refine blk_drewN ?_ _ | refine blk_drew ?_ | refine blk_alloc ?_ _)); refine blk_far ?_ NB161_162.out _; (with_reducible repeat (first | refine blk_drewN ?_ _ | refine blk_drew ?_ | refine blk_alloc ?_ _)); refine blk_far ?_ NB161_162.out _; (with_reducible repeat (first | refine blk_drewN ?_ _ | refine blk_drew ?_ | refine blk_alloc ?_ _)); refine blk_far ?_ NB161_162.out _; (with_reducible repeat (first | refine blk_drewN ?_ _ | refine blk_drew ?_ | refine blk_alloc ?_ _)); refine blk_far ?_ NB161_162.out _; (with_reducible repeat (first | refine blk_drewN ?_ _ | refine blk_drew ?_ | refine blk_alloc ?_ _)); refine blk_far ?_ NB161_162.out _; (with_reducible repeat (first | refine blk_drewN ?_ _ | refine blk_drew ?_ | refine blk_alloc ?_ _)); refine blk_far ?_ NB161_162.out _; (with_reducible repeat (first | refine blk_drewN ?_ _ | refine blk_drew ?_ | refine blk_alloc ?_ _)); refine blk_far ?_ NB161_162.out _; (with_reducible repeat (first | refine blk_drewN ?_ _ | refine blk_drew ?_ | refine blk_alloc ?_ _)); refine blk_put (cs := #[.int .u8 1, .int .u8 0, .int .u8 0, .int .u8 0, .int .u8 0, .int .u8 0, .int .u8 0, .int .u8 0]) ?_ 7 _ rfl; (with_reducible repeat (first | refine blk_drewN ?_ _ | refine blk_drew ?_ | refine blk_alloc ?_ _)); refine blk_put (cs := #[.int .u8 1, .int .u8 0, .int .u8 0, .int .u8 0, .int .u8 0, .int .u8 0, .int .u8 0, .int .u8 0]) ?_ 6 _ rfl; (with_reducible repeat (first | refine blk_drewN ?_ _ | refine blk_drew ?_ | refine blk_alloc ?_ _)); refine blk_put (cs := #[.int .u8 1, .int .u8 0, .int .u8 0, .int .u8 0, .int .u8 0, .int .u8 0, .int .u8 0, .int .u8 0]) ?_ 5 _ rfl; (with_reducible repeat (first | refine blk_drewN ?_ _ | refine blk_drew ?_ | refine blk_alloc ?_ _)); refine blk_put (cs := #[.int .u8 1, .int .u8 0, .int .u8 0, .int .u8 0, .int .u8 0, .int .u8 0, .int .u8 0, .int .u8 0]) ?_ 4 _ rfl; (with_reducible repeat (first | refine blk_drewN ?_ _ | refine blk_drew ?_ | refine blk_alloc ?_ _)); refine blk_put (cs := #[.int .u8 1, .int .u8 0, .int .u8 0, .int .u8 0, .int .u8 0, .int .u8 0, .int .u8 0, .int .u8 0]) ?_ 3 _ rfl; (with_reducible repeat (first | refine blk_drewN ?_ _ | refine blk_drew ?_ | refine blk_alloc ?_ _)); refine blk_put (cs := #[.int .u8 1, .int .u8 0, .int .u8 0, .int .u8 0, .int .u8 0, .int .u8 0, .int .u8 0, .int .u8 0]) ?_ 2 _ rfl; (with_reducible repeat (first | refine blk_drewN ?_ _ | refine blk_drew ?_ | refine blk_alloc ?_ _)); refine blk_put (cs := #[.int .u8 1, .int .u8 0, .int .u8 0, .int .u8 0, .int .u8 0, .int .u8 0, .int .u8 0, .int .u8 0]) ?_ 1 _ rfl; (with_reducible repeat (first | refine blk_drewN ?_ _ | refine blk_drew ?_ | refine blk_alloc ?_ _)); refine blk_put (cs := #[.int .u8 0, .int .u8 0, .int .u8 0, .int .u8 0, .int .u8 0, .int .u8 0, .int .u8 0, .int .u8 0]) ?_ 0 _ rfl; (with_reducible repeat (first | refine blk_drewN ?_ _ | refine blk_drew ?_ | refine blk_alloc ?_ _)); exact BK161.out⟩
  have n1_ : Aside0 (((((((((((((((((((((((((w8.setCell ⟨gb161, 0, none⟩ (.int .u8 1)).setCell ⟨gb161, 1, none⟩ (.int .u8 0)).setCell ⟨gb161, 2, none⟩ (.int .u8 0)).setCell ⟨gb161, 3, none⟩ (.int .u8 0)).setCell ⟨gb161, 4, none⟩ (.int .u8 0)).setCell ⟨gb161, 5, none⟩ (.int .u8 0)).setCell ⟨gb161, 6, none⟩ (.int .u8 0)).setCell ⟨gb161, 7, none⟩ (.int .u8 0)).setCell ⟨gb162, 0, none⟩ (.int .u8 2)).setCell ⟨gb162, 1, none⟩ (.int .u8 0)).setCell ⟨gb162, 2, none⟩ (.int .u8 0)).setCell ⟨gb162, 3, none⟩ (.int .u8 0)).setCell ⟨gb162, 4, none⟩ (.int .u8 0)).setCell ⟨gb162, 5, none⟩ (.int .u8 0)).setCell ⟨gb162, 6, none⟩ (.int .u8 0)).setCell ⟨gb162, 7, none⟩ (.int .u8 0)).setCell ⟨gb163, 0, none⟩ (.int .u8 3)).setCell ⟨gb163, 1, none⟩ (.int .u8 0)).setCell ⟨gb163, 2, none⟩ (.int .u8 0)).setCell ⟨gb163, 3, none⟩ (.int .u8 0)).setCell ⟨gb163, 4, none⟩ (.int .u8 0)).setCell ⟨gb163, 5, none⟩ (.int .u8 0)).setCell ⟨gb163, 6, none⟩ (.int .u8 0)).setCell ⟨gb163, 7, none⟩ (.int .u8 0)).heap[gb162]? = some (.cells #[.int .u8 2, .int .u8 0, .int .u8 0, .int .u8 0, .int .u8 0, .int .u8 0, .int .u8 0, .int .u8 0] 59 (0, 0))) := ⟨by (with_reducible repeat (first | refine blk_drewN ?_ _ | refine blk_drew ?_ | refine blk_alloc ?_ _)); refine blk_far ?_ NB162_163.out _; (with_reducible repeat (first | refine blk_drewN ?_ _ | refine blk_drew ?_ | refine blk_alloc ?_ _)); refine blk_far ?_ NB162_163.out _; (with_reducible repeat (first | refine blk_drewN ?_ _ | refine blk_drew ?_ | refine blk_alloc ?_ _)); refine blk_far ?_ NB162_163.out _; (with_reducible repeat (first | refine blk_drewN ?_ _ | refine blk_drew ?_ | refine blk_alloc ?_ _)); refine blk_far ?_ NB162_163.out _; (with_reducible repeat (first | refine blk_drewN ?_ _ | refine blk_drew ?_ | refine blk_alloc ?_ _)); refine blk_far ?_ NB162_163.out _; (with_reducible repeat (first | refine blk_drewN ?_ _ | refine blk_drew ?_ | refine blk_alloc ?_ _)); refine blk_far ?_ NB162_163.out _; (with_reducible repeat (first | refine blk_drewN ?_ _ | refine blk_drew ?_ | refine blk_alloc ?_ _)); refine blk_far ?_ NB162_163.out _; (with_reducible repeat (first | refine blk_drewN ?_ _ | refine blk_drew ?_ | refine blk_alloc ?_ _)); refine blk_far ?_ NB162_163.out _; (with_reducible repeat (first | refine blk_drewN ?_ _ | refine blk_drew ?_ | refine blk_alloc ?_ _)); refine blk_put (cs := #[.int .u8 2, .int .u8 0, .int .u8 0, .int .u8 0, .int .u8 0, .int .u8 0, .int .u8 0, .int .u8 0]) ?_ 7 _ rfl; (with_reducible repeat (first | refine blk_drewN ?_ _ | refine blk_drew ?_ | refine blk_alloc ?_ _)); refine blk_put (cs := #[.int .u8 2, .int .u8 0, .int .u8 0, .int .u8 0, .int .u8 0, .int .u8 0, .int .u8 0, .int .u8 0]) ?_ 6 _ rfl; (with_reducible repeat (first | refine blk_drewN ?_ _ | refine blk_drew ?_ | refine blk_alloc ?_ _)); refine blk_put (cs := #[.int .u8 2, .int .u8 0, .int .u8 0, .int .u8 0, .int .u8 0, .int .u8 0, .int .u8 0, .int .u8 0]) ?_ 5 _ rfl; (with_reducible repeat (first | refine blk_drewN ?_ _ | refine blk_drew ?_ | refine blk_alloc ?_ _)); refine blk_put (cs := #[.int .u8 2, .int .u8 0, .int .u8 0, .int .u8 0, .int .u8 0, .int .u8 0, .int .u8 0, .int .u8 0]) ?_ 4 _ rfl; (with_reducible repeat (first | refine blk_drewN ?_ _ | refine blk_drew ?_ | refine blk_alloc ?_ _)); refine blk_put (cs := #[.int .u8 2, .int .u8 0, .int .u8 0, .int .u8 0, .int .u8 0, .int .u8 0, .int .u8 0, .int .u8 0]) ?_ 3 _ rfl; (with_reducible repeat (first | refine blk_drewN ?_ _ | refine blk_drew ?_ | refine blk_alloc ?_ _)); refine blk_put (cs := #[.int .u8 2, .int .u8 0, .int .u8 0, .int .u8 0, .int .u8 0, .int .u8 0, .int .u8 0, .int .u8 0]) ?_ 2 _ rfl; (with_reducible repeat (first | refine blk_drewN ?_ _ | refine blk_drew ?_ | refine blk_alloc ?_ _)); refine blk_put (cs := #[.int .u8 2, .int .u8 0, .int .u8 0, .int .u8 0, .int .u8 0, .int .u8 0, .int .u8 0, .int .u8 0]) ?_ 1 _ rfl; (with_reducible repeat (first | refine blk_drewN ?_ _ | refine blk_drew ?_ | refine blk_alloc ?_ _)); refine blk_put (cs := #[.int .u8 0, .int .u8 0, .int .u8 0, .int .u8 0, .int .u8 0, .int .u8 0, .int .u8 0, .int .u8 0]) ?_ 0 _ rfl; (with_reducible repeat (first | refine blk_drewN ?_ _ | refine blk_drew ?_ | refine blk_alloc ?_ _)); refine blk_far ?_ NB162_161.out _; (with_reducible repeat (first | refine blk_drewN ?_ _ | refine blk_drew ?_ | refine blk_alloc ?_ _)); refine blk_far ?_ NB162_161.out _; (with_reducible repeat (first | refine blk_drewN ?_ _ | refine blk_drew ?_ | refine blk_alloc ?_ _)); refine blk_far ?_ NB162_161.out _; (with_reducible repeat (first | refine blk_drewN ?_ _ | refine blk_drew ?_ | refine blk_alloc ?_ _)); refine blk_far ?_ NB162_161.out _; (with_reducible repeat (first | refine blk_drewN ?_ _ | refine blk_drew ?_ | refine blk_alloc ?_ _)); refine blk_far ?_ NB162_161.out _; (with_reducible repeat (first | refine blk_drewN ?_ _ | refine blk_drew ?_ | refine blk_alloc ?_ _)); refine blk_far ?_ NB162_161.out _; (with_reducible repeat (first | refine blk_drewN ?_ _ | refine blk_drew ?_ | refine blk_alloc ?_ _)); refine blk_far ?_ NB162_161.out _; (with_reducible repeat (first | refine blk_drewN ?_ _ | refine blk_drew ?_ | refine blk_alloc ?_ _)); refine blk_far ?_ NB162_161.out _; (with_reducible repeat (first | refine blk_drewN ?_ _ | refine blk_drew ?_ | refine blk_alloc ?_ _)); exact BK162.out⟩
  have n2_ : Aside0 (((((((((((((((((((((((((w8.setCell ⟨gb161, 0, none⟩ (.int .u8 1)).setCell ⟨gb161, 1, none⟩ (.int .u8 0)).setCell ⟨gb161, 2, none⟩ (.int .u8 0)).setCell ⟨gb161, 3, none⟩ (.int .u8 0)).setCell ⟨gb161, 4, none⟩ (.int .u8 0)).setCell ⟨gb161, 5, none⟩ (.int .u8 0)).setCell ⟨gb161, 6, none⟩ (.int .u8 0)).setCell ⟨gb161, 7, none⟩ (.int .u8 0)).setCell ⟨gb162, 0, none⟩ (.int .u8 2)).setCell ⟨gb162, 1, none⟩ (.int .u8 0)).setCell ⟨gb162, 2, none⟩ (.int .u8 0)).setCell ⟨gb162, 3, none⟩ (.int .u8 0)).setCell ⟨gb162, 4, none⟩ (.int .u8 0)).setCell ⟨gb162, 5, none⟩ (.int .u8 0)).setCell ⟨gb162, 6, none⟩ (.int .u8 0)).setCell ⟨gb162, 7, none⟩ (.int .u8 0)).setCell ⟨gb163, 0, none⟩ (.int .u8 3)).setCell ⟨gb163, 1, none⟩ (.int .u8 0)).setCell ⟨gb163, 2, none⟩ (.int .u8 0)).setCell ⟨gb163, 3, none⟩ (.int .u8 0)).setCell ⟨gb163, 4, none⟩ (.int .u8 0)).setCell ⟨gb163, 5, none⟩ (.int .u8 0)).setCell ⟨gb163, 6, none⟩ (.int .u8 0)).setCell ⟨gb163, 7, none⟩ (.int .u8 0)).heap[gb163]? = some (.cells #[.int .u8 3, .int .u8 0, .int .u8 0, .int .u8 0, .int .u8 0, .int .u8 0, .int .u8 0, .int .u8 0] 59 (0, 0))) := ⟨by (with_reducible repeat (first | refine blk_drewN ?_ _ | refine blk_drew ?_ | refine blk_alloc ?_ _)); refine blk_put (cs := #[.int .u8 3, .int .u8 0, .int .u8 0, .int .u8 0, .int .u8 0, .int .u8 0, .int .u8 0, .int .u8 0]) ?_ 7 _ rfl; (with_reducible repeat (first | refine blk_drewN ?_ _ | refine blk_drew ?_ | refine blk_alloc ?_ _)); refine blk_put (cs := #[.int .u8 3, .int .u8 0, .int .u8 0, .int .u8 0, .int .u8 0, .int .u8 0, .int .u8 0, .int .u8 0]) ?_ 6 _ rfl; (with_reducible repeat (first | refine blk_drewN ?_ _ | refine blk_drew ?_ | refine blk_alloc ?_ _)); refine blk_put (cs := #[.int .u8 3, .int .u8 0, .int .u8 0, .int .u8 0, .int .u8 0, .int .u8 0, .int .u8 0, .int .u8 0]) ?_ 5 _ rfl; (with_reducible repeat (first | refine blk_drewN ?_ _ | refine blk_drew ?_ | refine blk_alloc ?_ _)); refine blk_put (cs := #[.int .u8 3, .int .u8 0, .int .u8 0, .int .u8 0, .int .u8 0, .int .u8 0, .int .u8 0, .int .u8 0]) ?_ 4 _ rfl; (with_reducible repeat (first | refine blk_drewN ?_ _ | refine blk_drew ?_ | refine blk_alloc ?_ _)); refine blk_put (cs := #[.int .u8 3, .int .u8 0, .int .u8 0, .int .u8 0, .int .u8 0, .int .u8 0, .int .u8 0, .int .u8 0]) ?_ 3 _ rfl; (with_reducible repeat (first | refine blk_drewN ?_ _ | refine blk_drew ?_ | refine blk_alloc ?_ _)); refine blk_put (cs := #[.int .u8 3, .int .u8 0, .int .u8 0, .int .u8 0, .int .u8 0, .int .u8 0, .int .u8 0, .int .u8 0]) ?_ 2 _ rfl; (with_reducible repeat (first | refine blk_drewN ?_ _ | refine blk_drew ?_ | refine blk_alloc ?_ _)); refine blk_put (cs := #[.int .u8 3, .int .u8 0, .int .u8 0, .int .u8 0, .int .u8 0, .int .u8 0, .int .u8 0, .int .u8 0]) ?_ 1 _ rfl; (with_reducible repeat (first | refine blk_drewN ?_ _ | refine blk_drew ?_ | refine blk_alloc ?_ _)); refine blk_put (cs := #[.int .u8 0, .int .u8 0, .int .u8 0, .int .u8 0, .int .u8 0, .int .u8 0, .int .u8 0, .int .u8 0]) ?_ 0 _ rfl; (with_reducible repeat (first | refine blk_drewN ?_ _ | refine blk_drew ?_ | refine blk_alloc ?_ _)); refine blk_far ?_ NB163_162.out _; (with_reducible repeat (first | refine blk_drewN ?_ _ | refine blk_drew ?_ | refine blk_alloc ?_ _)); refine blk_far ?_ NB163_162.out _; (with_reducible repeat (first | refine blk_drewN ?_ _ | refine blk_drew ?_ | refine blk_alloc ?_ _)); refine blk_far ?_ NB163_162.out _; (with_reducible repeat (first | refine blk_drewN ?_ _ | refine blk_drew ?_ | refine blk_alloc ?_ _)); refine blk_far ?_ NB163_162.out _; (with_reducible repeat (first | refine blk_drewN ?_ _ | refine blk_drew ?_ | refine blk_alloc ?_ _)); refine blk_far ?_ NB163_162.out _; (with_reducible repeat (first | refine blk_drewN ?_ _ | refine blk_drew ?_ | refine blk_alloc ?_ _)); refine blk_far ?_ NB163_162.out _; (with_reducible repeat (first | refine blk_drewN ?_ _ | refine blk_drew ?_ | refine blk_alloc ?_ _)); refine blk_far ?_ NB163_162.out _; (with_reducible repeat (first | refine blk_drewN ?_ _ | refine blk_drew ?_ | refine blk_alloc ?_ _)); refine blk_far ?_ NB163_162.out _; (with_reducible repeat (first | refine blk_drewN ?_ _ | refine blk_drew ?_ | refine blk_alloc ?_ _)); refine blk_far ?_ NB163_161.out _; (with_reducible repeat (first | refine blk_drewN ?_ _ | refine blk_drew ?_ | refine blk_alloc ?_ _)); refine blk_far ?_ NB163_161.out _; (with_reducible repeat (first | refine blk_drewN ?_ _ | refine blk_drew ?_ | refine blk_alloc ?_ _)); refine blk_far ?_ NB163_161.out _; (with_reducible repeat (first | refine blk_drewN ?_ _ | refine blk_drew ?_ | refine blk_alloc ?_ _)); refine blk_far ?_ NB163_161.out _; (with_reducible repeat (first | refine blk_drewN ?_ _ | refine blk_drew ?_ | refine blk_alloc ?_ _)); refine blk_far ?_ NB163_161.out _; (with_reducible repeat (first | refine blk_drewN ?_ _ | refine blk_drew ?_ | refine blk_alloc ?_ _)); refine blk_far ?_ NB163_161.out _; (with_reducible repeat (first | refine blk_drewN ?_ _ | refine blk_drew ?_ | refine blk_alloc ?_ _)); refine blk_far ?_ NB163_161.out _; (with_reducible repeat (first | refine blk_drewN ?_ _ | refine blk_drew ?_ | refine blk_alloc ?_ _)); refine blk_far ?_ NB163_161.out _; (with_reducible repeat (first | refine blk_drewN ?_ _ | refine blk_drew ?_ | refine blk_alloc ?_ _)); exact BK163.out⟩
  have n3_ : Aside0 (Below w.heap.size w ((((((((((((((((((((((((w8.setCell ⟨gb161, 0, none⟩ (.int .u8 1)).setCell ⟨gb161, 1, none⟩ (.int .u8 0)).setCell ⟨gb161, 2, none⟩ (.int .u8 0)).setCell ⟨gb161, 3, none⟩ (.int .u8 0)).setCell ⟨gb161, 4, none⟩ (.int .u8 0)).setCell ⟨gb161, 5, none⟩ (.int .u8 0)).setCell ⟨gb161, 6, none⟩ (.int .u8 0)).setCell ⟨gb161, 7, none⟩ (.int .u8 0)).setCell ⟨gb162, 0, none⟩ (.int .u8 2)).setCell ⟨gb162, 1, none⟩ (.int .u8 0)).setCell ⟨gb162, 2, none⟩ (.int .u8 0)).setCell ⟨gb162, 3, none⟩ (.int .u8 0)).setCell ⟨gb162, 4, none⟩ (.int .u8 0)).setCell ⟨gb162, 5, none⟩ (.int .u8 0)).setCell ⟨gb162, 6, none⟩ (.int .u8 0)).setCell ⟨gb162, 7, none⟩ (.int .u8 0)).setCell ⟨gb163, 0, none⟩ (.int .u8 3)).setCell ⟨gb163, 1, none⟩ (.int .u8 0)).setCell ⟨gb163, 2, none⟩ (.int .u8 0)).setCell ⟨gb163, 3, none⟩ (.int .u8 0)).setCell ⟨gb163, 4, none⟩ (.int .u8 0)).setCell ⟨gb163, 5, none⟩ (.int .u8 0)).setCell ⟨gb163, 6, none⟩ (.int .u8 0)).setCell ⟨gb163, 7, none⟩ (.int .u8 0))) := ⟨zb HB⟩
  (try clear BK161)
  (try clear BK162)
  (try clear BK163)
  (try clear HB)
  generalize ((((((((((((((((((((((((w8.setCell ⟨gb161, 0, none⟩ (.int .u8 1)).setCell ⟨gb161, 1, none⟩ (.int .u8 0)).setCell ⟨gb161, 2, none⟩ (.int .u8 0)).setCell ⟨gb161, 3, none⟩ (.int .u8 0)).setCell ⟨gb161, 4, none⟩ (.int .u8 0)).setCell ⟨gb161, 5, none⟩ (.int .u8 0)).setCell ⟨gb161, 6, none⟩ (.int .u8 0)).setCell ⟨gb161, 7, none⟩ (.int .u8 0)).setCell ⟨gb162, 0, none⟩ (.int .u8 2)).setCell ⟨gb162, 1, none⟩ (.int .u8 0)).setCell ⟨gb162, 2, none⟩ (.int .u8 0)).setCell ⟨gb162, 3, none⟩ (.int .u8 0)).setCell ⟨gb162, 4, none⟩ (.int .u8 0)).setCell ⟨gb162, 5, none⟩ (.int .u8 0)).setCell ⟨gb162, 6, none⟩ (.int .u8 0)).setCell ⟨gb162, 7, none⟩ (.int .u8 0)).setCell ⟨gb163, 0, none⟩ (.int .u8 3)).setCell ⟨gb163, 1, none⟩ (.int .u8 0)).setCell ⟨gb163, 2, none⟩ (.int .u8 0)).setCell ⟨gb163, 3, none⟩ (.int .u8 0)).setCell ⟨gb163, 4, none⟩ (.int .u8 0)).setCell ⟨gb163, 5, none⟩ (.int .u8 0)).setCell ⟨gb163, 6, none⟩ (.int .u8 0)).setCell ⟨gb163, 7, none⟩ (.int .u8 0)) = w15 at n0_ n1_ n2_ n3_ ⊢
  have BK161 := n0_
  have BK162 := n1_
  have BK163 := n2_
  have HB := n3_
  clear n0_ n1_ n2_ n3_
  replace BK161 := Aside0.mk (blk_drew BK161.out)
  replace BK162 := Aside0.mk (blk_drew BK162.out)
  replace BK163 := Aside0.mk (blk_drew BK163.out)
  replace HB := Aside0.mk (below_drew1 HB.out)
  refine start_ (n := 16) (S := fun w' => True) (ds := []) #[false, false, false, false, false, false, false, false, false, false, false, false, false, false, false, false] (by kernel_rfl) rfl rfl trivial (fun hHeld => ?_); refine with_tabW standbylaw45_awake.tab2 standbylaw45_awake.bits2 (fun HT_ HW_ => ?_)
  generalize w15.drew = w16 at BK161 BK162 BK163 HB hHeld ⊢
  refine inv_at [0, 1, 2, 3, 4, 5, 6, 7, 8, 9, 10, 11, 12, 13, 14, 15] (fun a0_ b a w' => ∃ (v165 : Value) (v168 : Value) (v171 : Value) (v174 : Value) (m14_ : Value) (m15_ : Value), a = putSel a0_ b [(0, 18, .agg #[.int .u8 1, .int .u8 0, .int .u8 0, .int .u8 0, .int .u8 0, .int .u8 0, .int .u8 0, .int .u8 0]), (1, 19, .agg #[.int .u8 2, .int .u8 0, .int .u8 0, .int .u8 0, .int .u8 0, .int .u8 0, .int .u8 0, .int .u8 0]), (2, 20, .agg #[.int .u8 0, .int .u8 0, .int .u8 0, .int .u8 0, .int .u8 0, .int .u8 0, .int .u8 0, .int .u8 0]), (3, 21, .agg #[.int .u8 0, .int .u8 0, .int .u8 0, .int .u8 0, .int .u8 0, .int .u8 0, .int .u8 0, .int .u8 0]), (4, 22, .agg #[.int .u8 3, .int .u8 0, .int .u8 0, .int .u8 0, .int .u8 0, .int .u8 0, .int .u8 0, .int .u8 0]), (5, 23, v165), (6, 24, v168), (7, 25, .agg #[.int .u8 0, .int .u8 0, .int .u8 0, .int .u8 0, .int .u8 0, .int .u8 0, .int .u8 0, .int .u8 0]), (8, 26, .agg #[.int .u8 2, .int .u8 0, .int .u8 0, .int .u8 0, .int .u8 0, .int .u8 0, .int .u8 0, .int .u8 0]), (9, 27, .agg #[.int .u8 0, .int .u8 0, .int .u8 0, .int .u8 0, .int .u8 0, .int .u8 0, .int .u8 0, .int .u8 0]), (10, 28, .agg #[.int .u8 0, .int .u8 0, .int .u8 0, .int .u8 0, .int .u8 0, .int .u8 0, .int .u8 0, .int .u8 0]), (11, 29, .agg #[.int .u8 0, .int .u8 0, .int .u8 0, .int .u8 0, .int .u8 0, .int .u8 0, .int .u8 0, .int .u8 0]), (12, 30, v171), (13, 31, v174), (14, 4, m14_), (15, 5, m15_)] ∧ (w'.heap[gb161]? = some (.cells #[.int .u8 1, .int .u8 0, .int .u8 0, .int .u8 0, .int .u8 0, .int .u8 0, .int .u8 0, .int .u8 0] 59 (0, 0))) ∧ (w'.heap[gb162]? = some (.cells #[.int .u8 2, .int .u8 0, .int .u8 0, .int .u8 0, .int .u8 0, .int .u8 0, .int .u8 0, .int .u8 0] 59 (0, 0))) ∧ (w'.heap[gb163]? = some (.cells #[.int .u8 3, .int .u8 0, .int .u8 0, .int .u8 0, .int .u8 0, .int .u8 0, .int .u8 0, .int .u8 0] 59 (0, 0))) ∧ (Below w.heap.size w w') ∧ (b 5 = true → b 6 = false → Kd.R k59 59 w' w.heap.size (fun k_ => k_ ≠ gb161 ∧ k_ ≠ gb162 ∧ k_ ≠ gb163) v165 y164) ∧ (b 6 = true → Kd.N (Kd.slice 59 k59) 56 w' w.heap.size (fun k_ => k_ ≠ gb161 ∧ k_ ≠ gb162 ∧ k_ ≠ gb163) v168 y167) ∧ (b 12 = true → b 13 = false → Kd.R k59 59 w' w.heap.size (fun k_ => k_ ≠ gb161 ∧ k_ ≠ gb162 ∧ k_ ≠ gb163) v171 y170) ∧ (b 13 = true → Kd.N (Kd.slice 59 k59) 56 w' w.heap.size (fun k_ => k_ ≠ gb161 ∧ k_ ≠ gb162 ∧ k_ ≠ gb163) v174 y173) ∧ (b 14 = true → (m14_ : Value) = v168) ∧ (b 15 = true → (m15_ : Value) = v174)) HT_.out HW_.out (by kernel_rfl) (by kernel_rfl) ?_ ?_ ?_
  · exact ⟨.bool false, .bool false, .bool false, .bool false, .bool false, .bool false, by simp only [putSel, Bool.false_eq_true, if_false], BK161.out, BK162.out, BK163.out, HB.out, fun h_ => absurd h_ (by decide), fun h_ => absurd h_ (by decide), fun h_ => absurd h_ (by decide), fun h_ => absurd h_ (by decide), fun h_ => absurd h_ (by decide), fun h_ => absurd h_ (by decide)⟩
  · skip
    clear BK161 BK162 BK163 HB
    refine steps_cons ?_ ?_
    · rintro b a w' ⟨v165, v168, v171, v174, m14_, m15_, ha, Q_BK161, Q_BK162, Q_BK163, Q_HB, Q_HO166, Q_HO169, Q_HO172, Q_HO175, Q_X14_, Q_X15_⟩ hb_ hon hoff
      refine ⟨_, rfl, fun K hK => ?_⟩
      have e1 : a.tmps[1]? = some (.pointer (some ⟨gb161, 0, none⟩)) := by rw [ha]; exact (putSel_off rfl).trans rfl
      replace ha := Aside0.mk ha
      have BK161 := Aside0.mk Q_BK161
      have BK162 := Aside0.mk Q_BK162
      have BK163 := Aside0.mk Q_BK163
      have HB := Aside0.mk Q_HB
      have hc0_ : w'.cell? ⟨gb161, 0, none⟩ = some (.int .u8 1) := (blk_cell BK161.out 0).trans rfl
      have hc1_ : w'.cell? ⟨gb161, 1, none⟩ = some (.int .u8 0) := (blk_cell BK161.out 1).trans rfl
      have hc2_ : w'.cell? ⟨gb161, 2, none⟩ = some (.int .u8 0) := (blk_cell BK161.out 2).trans rfl
      have hc3_ : w'.cell? ⟨gb161, 3, none⟩ = some (.int .u8 0) := (blk_cell BK161.out 3).trans rfl
      have hc4_ : w'.cell? ⟨gb161, 4, none⟩ = some (.int .u8 0) := (blk_cell BK161.out 4).trans rfl
      have hc5_ : w'.cell? ⟨gb161, 5, none⟩ = some (.int .u8 0) := (blk_cell BK161.out 5).trans rfl
      have hc6_ : w'.cell? ⟨gb161, 6, none⟩ = some (.int .u8 0) := (blk_cell BK161.out 6).trans rfl
      have hc7_ : w'.cell? ⟨gb161, 7, none⟩ = some (.int .u8 0) := (blk_cell BK161.out 7).trans rfl
      refine value_ (w1 := w') (v := .agg #[.int .u8 1, .int .u8 0, .int .u8 0, .int .u8 0, .int .u8 0, .int .u8 0, .int .u8 0, .int .u8 0]) (by rfl) rfl ?_ ?_
      · go_simp
        (try simp only [i64_w])
        try rfl
      refine hK.out _ _ ⟨v165, v168, v171, v174, m14_, m15_, (by rw [ha.out]; exact putSel_upk 0 hb_ rfl rfl rfl), Q_BK161, Q_BK162, Q_BK163, Q_HB, fun h0_ _ => absurd ((hoff 5 (by kernel_rfl)).symm.trans h0_) (by decide), fun h0_ => absurd ((hoff 6 (by kernel_rfl)).symm.trans h0_) (by decide), Q_HO172, Q_HO175, fun h0_ => absurd ((hoff 14 (by kernel_rfl)).symm.trans h0_) (by decide), fun h0_ => absurd ((hoff 15 (by kernel_rfl)).symm.trans h0_) (by decide)⟩
    refine steps_cons ?_ ?_
    · rintro b a w' ⟨v165, v168, v171, v174, m14_, m15_, ha, Q_BK161, Q_BK162, Q_BK163, Q_HB, Q_HO166, Q_HO169, Q_HO172, Q_HO175, Q_X14_, Q_X15_⟩ hb_ hon hoff
      refine ⟨_, rfl, fun K hK => ?_⟩
      have e2 : a.tmps[2]? = some (.pointer (some ⟨gb162, 0, none⟩)) := by rw [ha]; exact (putSel_off rfl).trans rfl
      replace ha := Aside0.mk ha
      have BK161 := Aside0.mk Q_BK161
      have BK162 := Aside0.mk Q_BK162
      have BK163 := Aside0.mk Q_BK163
      have HB := Aside0.mk Q_HB
      have hc0_ : w'.cell? ⟨gb162, 0, none⟩ = some (.int .u8 2) := (blk_cell BK162.out 0).trans rfl
      have hc1_ : w'.cell? ⟨gb162, 1, none⟩ = some (.int .u8 0) := (blk_cell BK162.out 1).trans rfl
      have hc2_ : w'.cell? ⟨gb162, 2, none⟩ = some (.int .u8 0) := (blk_cell BK162.out 2).trans rfl
      have hc3_ : w'.cell? ⟨gb162, 3, none⟩ = some (.int .u8 0) := (blk_cell BK162.out 3).trans rfl
      have hc4_ : w'.cell? ⟨gb162, 4, none⟩ = some (.int .u8 0) := (blk_cell BK162.out 4).trans rfl
      have hc5_ : w'.cell? ⟨gb162, 5, none⟩ = some (.int .u8 0) := (blk_cell BK162.out 5).trans rfl
      have hc6_ : w'.cell? ⟨gb162, 6, none⟩ = some (.int .u8 0) := (blk_cell BK162.out 6).trans rfl
      have hc7_ : w'.cell? ⟨gb162, 7, none⟩ = some (.int .u8 0) := (blk_cell BK162.out 7).trans rfl
      refine value_ (w1 := w') (v := .agg #[.int .u8 2, .int .u8 0, .int .u8 0, .int .u8 0, .int .u8 0, .int .u8 0, .int .u8 0, .int .u8 0]) (by rfl) rfl ?_ ?_
      · go_simp
        (try simp only [i64_w])
        try rfl
      refine hK.out _ _ ⟨v165, v168, v171, v174, m14_, m15_, (by rw [ha.out]; exact putSel_upk 1 hb_ rfl rfl rfl), Q_BK161, Q_BK162, Q_BK163, Q_HB, fun h0_ _ => absurd ((hoff 5 (by kernel_rfl)).symm.trans h0_) (by decide), fun h0_ => absurd ((hoff 6 (by kernel_rfl)).symm.trans h0_) (by decide), Q_HO172, Q_HO175, fun h0_ => absurd ((hoff 14 (by kernel_rfl)).symm.trans h0_) (by decide), fun h0_ => absurd ((hoff 15 (by kernel_rfl)).symm.trans h0_) (by decide)⟩
    refine steps_cons ?_ ?_
    · rintro b a w' ⟨v165, v168, v171, v174, m14_, m15_, ha, Q_BK161, Q_BK162, Q_BK163, Q_HB, Q_HO166, Q_HO169, Q_HO172, Q_HO175, Q_X14_, Q_X15_⟩ hb_ hon hoff
      refine ⟨_, rfl, fun K hK => ?_⟩
      replace ha := Aside0.mk ha
      have BK161 := Aside0.mk Q_BK161
      have BK162 := Aside0.mk Q_BK162
      have BK163 := Aside0.mk Q_BK163
      have HB := Aside0.mk Q_HB
      refine value_ (w1 := w') (v := .agg #[.int .u8 0, .int .u8 0, .int .u8 0, .int .u8 0, .int .u8 0, .int .u8 0, .int .u8 0, .int .u8 0]) (by rfl) rfl ?_ ?_
      · go_simp
        (try simp only [i64_w])
        try rfl
      refine hK.out _ _ ⟨v165, v168, v171, v174, m14_, m15_, (by rw [ha.out]; exact putSel_upk 2 hb_ rfl rfl rfl), Q_BK161, Q_BK162, Q_BK163, Q_HB, fun h0_ _ => absurd ((hoff 5 (by kernel_rfl)).symm.trans h0_) (by decide), fun h0_ => absurd ((hoff 6 (by kernel_rfl)).symm.trans h0_) (by decide), Q_HO172, Q_HO175, fun h0_ => absurd ((hoff 14 (by kernel_rfl)).symm.trans h0_) (by decide), fun h0_ => absurd ((hoff 15 (by kernel_rfl)).symm.trans h0_) (by decide)⟩
    refine steps_cons ?_ ?_
    · rintro b a w' ⟨v165, v168, v171, v174, m14_, m15_, ha, Q_BK161, Q_BK162, Q_BK163, Q_HB, Q_HO166, Q_HO169, Q_HO172, Q_HO175, Q_X14_, Q_X15_⟩ hb_ hon hoff
      refine ⟨_, rfl, fun K hK => ?_⟩
      replace ha := Aside0.mk ha
      have BK161 := Aside0.mk Q_BK161
      have BK162 := Aside0.mk Q_BK162
      have BK163 := Aside0.mk Q_BK163
      have HB := Aside0.mk Q_HB
      refine value_ (w1 := w') (v := .agg #[.int .u8 0, .int .u8 0, .int .u8 0, .int .u8 0, .int .u8 0, .int .u8 0, .int .u8 0, .int .u8 0]) (by rfl) rfl ?_ ?_
      · go_simp
        (try simp only [i64_w])
        try rfl
      refine hK.out _ _ ⟨v165, v168, v171, v174, m14_, m15_, (by rw [ha.out]; exact putSel_upk 3 hb_ rfl rfl rfl), Q_BK161, Q_BK162, Q_BK163, Q_HB, fun h0_ _ => absurd ((hoff 5 (by kernel_rfl)).symm.trans h0_) (by decide), fun h0_ => absurd ((hoff 6 (by kernel_rfl)).symm.trans h0_) (by decide), Q_HO172, Q_HO175, fun h0_ => absurd ((hoff 14 (by kernel_rfl)).symm.trans h0_) (by decide), fun h0_ => absurd ((hoff 15 (by kernel_rfl)).symm.trans h0_) (by decide)⟩
    refine steps_cons ?_ ?_
    · rintro b a w' ⟨v165, v168, v171, v174, m14_, m15_, ha, Q_BK161, Q_BK162, Q_BK163, Q_HB, Q_HO166, Q_HO169, Q_HO172, Q_HO175, Q_X14_, Q_X15_⟩ hb_ hon hoff
      refine ⟨_, rfl, fun K hK => ?_⟩
      have e3 : a.tmps[3]? = some (.pointer (some ⟨gb163, 0, none⟩)) := by rw [ha]; exact (putSel_off rfl).trans rfl
      replace ha := Aside0.mk ha
      have BK161 := Aside0.mk Q_BK161
      have BK162 := Aside0.mk Q_BK162
      have BK163 := Aside0.mk Q_BK163
      have HB := Aside0.mk Q_HB
      have hc0_ : w'.cell? ⟨gb163, 0, none⟩ = some (.int .u8 3) := (blk_cell BK163.out 0).trans rfl
      have hc1_ : w'.cell? ⟨gb163, 1, none⟩ = some (.int .u8 0) := (blk_cell BK163.out 1).trans rfl
      have hc2_ : w'.cell? ⟨gb163, 2, none⟩ = some (.int .u8 0) := (blk_cell BK163.out 2).trans rfl
      have hc3_ : w'.cell? ⟨gb163, 3, none⟩ = some (.int .u8 0) := (blk_cell BK163.out 3).trans rfl
      have hc4_ : w'.cell? ⟨gb163, 4, none⟩ = some (.int .u8 0) := (blk_cell BK163.out 4).trans rfl
      have hc5_ : w'.cell? ⟨gb163, 5, none⟩ = some (.int .u8 0) := (blk_cell BK163.out 5).trans rfl
      have hc6_ : w'.cell? ⟨gb163, 6, none⟩ = some (.int .u8 0) := (blk_cell BK163.out 6).trans rfl
      have hc7_ : w'.cell? ⟨gb163, 7, none⟩ = some (.int .u8 0) := (blk_cell BK163.out 7).trans rfl
      refine value_ (w1 := w') (v := .agg #[.int .u8 3, .int .u8 0, .int .u8 0, .int .u8 0, .int .u8 0, .int .u8 0, .int .u8 0, .int .u8 0]) (by rfl) rfl ?_ ?_
      · go_simp
        (try simp only [i64_w])
        try rfl
      refine hK.out _ _ ⟨v165, v168, v171, v174, m14_, m15_, (by rw [ha.out]; exact putSel_upk 4 hb_ rfl rfl rfl), Q_BK161, Q_BK162, Q_BK163, Q_HB, fun h0_ _ => absurd ((hoff 5 (by kernel_rfl)).symm.trans h0_) (by decide), fun h0_ => absurd ((hoff 6 (by kernel_rfl)).symm.trans h0_) (by decide), Q_HO172, Q_HO175, fun h0_ => absurd ((hoff 14 (by kernel_rfl)).symm.trans h0_) (by decide), fun h0_ => absurd ((hoff 15 (by kernel_rfl)).symm.trans h0_) (by decide)⟩
    refine steps_cons ?_ ?_
    · rintro b a w' ⟨v165, v168, v171, v174, m14_, m15_, ha, Q_BK161, Q_BK162, Q_BK163, Q_HB, Q_HO166, Q_HO169, Q_HO172, Q_HO175, Q_X14_, Q_X15_⟩ hb_ hon hoff
      refine ⟨_, rfl, fun K hK => ?_⟩
      have e18 : a.tmps[18]? = some (.agg #[.int .u8 1, .int .u8 0, .int .u8 0, .int .u8 0, .int .u8 0, .int .u8 0, .int .u8 0, .int .u8 0]) := by rw [ha]; exact putSel_on (e := (0, 18, .agg #[.int .u8 1, .int .u8 0, .int .u8 0, .int .u8 0, .int .u8 0, .int .u8 0, .int .u8 0, .int .u8 0])) 0 rfl rfl (hon 0 (by kernel_rfl)) rfl
      have e19 : a.tmps[19]? = some (.agg #[.int .u8 2, .int .u8 0, .int .u8 0, .int .u8 0, .int .u8 0, .int .u8 0, .int .u8 0, .int .u8 0]) := by rw [ha]; exact putSel_on (e := (1, 19, .agg #[.int .u8 2, .int .u8 0, .int .u8 0, .int .u8 0, .int .u8 0, .int .u8 0, .int .u8 0, .int .u8 0])) 1 rfl rfl (hon 1 (by kernel_rfl)) rfl
      have e20 : a.tmps[20]? = some (.agg #[.int .u8 0, .int .u8 0, .int .u8 0, .int .u8 0, .int .u8 0, .int .u8 0, .int .u8 0, .int .u8 0]) := by rw [ha]; exact putSel_on (e := (2, 20, .agg #[.int .u8 0, .int .u8 0, .int .u8 0, .int .u8 0, .int .u8 0, .int .u8 0, .int .u8 0, .int .u8 0])) 2 rfl rfl (hon 2 (by kernel_rfl)) rfl
      have e21 : a.tmps[21]? = some (.agg #[.int .u8 0, .int .u8 0, .int .u8 0, .int .u8 0, .int .u8 0, .int .u8 0, .int .u8 0, .int .u8 0]) := by rw [ha]; exact putSel_on (e := (3, 21, .agg #[.int .u8 0, .int .u8 0, .int .u8 0, .int .u8 0, .int .u8 0, .int .u8 0, .int .u8 0, .int .u8 0])) 3 rfl rfl (hon 3 (by kernel_rfl)) rfl
      have e22 : a.tmps[22]? = some (.agg #[.int .u8 3, .int .u8 0, .int .u8 0, .int .u8 0, .int .u8 0, .int .u8 0, .int .u8 0, .int .u8 0]) := by rw [ha]; exact putSel_on (e := (4, 22, .agg #[.int .u8 3, .int .u8 0, .int .u8 0, .int .u8 0, .int .u8 0, .int .u8 0, .int .u8 0, .int .u8 0])) 4 rfl rfl (hon 4 (by kernel_rfl)) rfl
      replace ha := Aside0.mk ha
      have BK161 := Aside0.mk Q_BK161
      have BK162 := Aside0.mk Q_BK162
      have BK163 := Aside0.mk Q_BK163
      have HB := Aside0.mk Q_HB
      refine Kd.R_lit_step k59 _ 59 ?hg (N := 23) ?hd (xs := ([(⟨1, 0, 0, 0, 0, 0, 0, 0⟩ : S59), (⟨2, 0, 0, 0, 0, 0, 0, 0⟩ : S59), (⟨0, 0, 0, 0, 0, 0, 0, 0⟩ : S59), (⟨0, 0, 0, 0, 0, 0, 0, 0⟩ : S59), (⟨3, 0, 0, 0, 0, 0, 0, 0⟩ : S59)] : List (S59))) (inner := [.int .u8 1, .int .u8 0, .int .u8 0, .int .u8 0, .int .u8 0, .int .u8 0, .int .u8 0, .int .u8 0, .int .u8 2, .int .u8 0, .int .u8 0, .int .u8 0, .int .u8 0, .int .u8 0, .int .u8 0, .int .u8 0, .int .u8 0, .int .u8 0, .int .u8 0, .int .u8 0, .int .u8 0, .int .u8 0, .int .u8 0, .int .u8 0, .int .u8 0, .int .u8 0, .int .u8 0, .int .u8 0, .int .u8 0, .int .u8 0, .int .u8 0, .int .u8 0, .int .u8 3, .int .u8 0, .int .u8 0, .int .u8 0, .int .u8 0, .int .u8 0, .int .u8 0, .int .u8 0]) (ok := fun _ => True) (okp := fun _ => True) ?hr ?hp (fun _ hk => hk) trivial (Below.refl _ _) (Nat.le_refl _) (by simp) ?_; (case hd => rfl); (case hg => rfl); (case hr => first | (go_simp; done) | (go_simp; rfl)); (case hp => exact (Reps.c8 (show Kd.M k59 _ _ _ (⟨1, 0, 0, 0, 0, 0, 0, 0⟩ : S59) [.int .u8 1, .int .u8 0, .int .u8 0, .int .u8 0, .int .u8 0, .int .u8 0, .int .u8 0, .int .u8 0] from (k59_mkM _ _ _ (⟨1, 0, 0, 0, 0, 0, 0, 0⟩ : S59) )) (Reps.c8 (show Kd.M k59 _ _ _ (⟨2, 0, 0, 0, 0, 0, 0, 0⟩ : S59) [.int .u8 2, .int .u8 0, .int .u8 0, .int .u8 0, .int .u8 0, .int .u8 0, .int .u8 0, .int .u8 0] from (k59_mkM _ _ _ (⟨2, 0, 0, 0, 0, 0, 0, 0⟩ : S59) )) (Reps.c8 (show Kd.M k59 _ _ _ (⟨0, 0, 0, 0, 0, 0, 0, 0⟩ : S59) [.int .u8 0, .int .u8 0, .int .u8 0, .int .u8 0, .int .u8 0, .int .u8 0, .int .u8 0, .int .u8 0] from (k59_mkM _ _ _ (⟨0, 0, 0, 0, 0, 0, 0, 0⟩ : S59) )) (Reps.c8 (show Kd.M k59 _ _ _ (⟨0, 0, 0, 0, 0, 0, 0, 0⟩ : S59) [.int .u8 0, .int .u8 0, .int .u8 0, .int .u8 0, .int .u8 0, .int .u8 0, .int .u8 0, .int .u8 0] from (k59_mkM _ _ _ (⟨0, 0, 0, 0, 0, 0, 0, 0⟩ : S59) )) (Reps.c8 (show Kd.M k59 _ _ _ (⟨3, 0, 0, 0, 0, 0, 0, 0⟩ : S59) [.int .u8 3, .int .u8 0, .int .u8 0, .int .u8 0, .int .u8 0, .int .u8 0, .int .u8 0, .int .u8 0] from (k59_mkM _ _ _ (⟨3, 0, 0, 0, 0, 0, 0, 0⟩ : S59) )) (Reps.none _ _)))))))
      intro v165 w17 ho18 hb hg_ hnew_
      clear hg_ hnew_
      (first | rw [← Ny164.out] at ho18 | (simp only [Int.reduceToNat] at ho18; rw [← Ny164.out] at ho18))
      have n0_ := Aside0.mk (Kd.R_lower (Kd.R_newB (Kd.R_newB (Kd.R_newB ho18 (g := gb161) (o := .cells #[.int .u8 1, .int .u8 0, .int .u8 0, .int .u8 0, .int .u8 0, .int .u8 0, .int .u8 0, .int .u8 0] 59 (0, 0)) (zk BK161)) (g := gb162) (o := .cells #[.int .u8 2, .int .u8 0, .int .u8 0, .int .u8 0, .int .u8 0, .int .u8 0, .int .u8 0, .int .u8 0] 59 (0, 0)) (zk BK162)) (g := gb163) (o := .cells #[.int .u8 3, .int .u8 0, .int .u8 0, .int .u8 0, .int .u8 0, .int .u8 0, .int .u8 0, .int .u8 0] 59 (0, 0)) (zk BK163)) (below_size (zb HB)))
      have n1_ := Aside0.mk (blk_below (zk BK161) hb)
      have n2_ := Aside0.mk (blk_below (zk BK162) hb)
      have n3_ := Aside0.mk (blk_below (zk BK163) hb)
      have n4_ := Aside0.mk (below_step (zb HB) hb)
      have z_HO172 := fun (h0_ : b 12 = true) (h1_ : b 13 = false) => (show Kd.R k59 59 w17 w.heap.size (fun k_ => k_ ≠ gb161 ∧ k_ ≠ gb162 ∧ k_ ≠ gb163) v171 y170 from by first | exact (Kd.R_elder' (zr (Q_HO172 h0_ h1_)) (Kd.R_base ho18) hb) | exact Kd.R_mono (Kd.R_elder' (zr (Q_HO172 h0_ h1_)) (Kd.R_base ho18) hb) (fun _ h_ => by first | trivial | exact h_ | exact h_.1))
      have z_HO175 := fun (h0_ : b 13 = true) => (show Kd.N (Kd.slice 59 k59) 56 w17 w.heap.size (fun k_ => k_ ≠ gb161 ∧ k_ ≠ gb162 ∧ k_ ≠ gb163) v174 y173 from by first | exact (Kd.N_elder' (zn (Q_HO175 h0_)) (Kd.R_base ho18) hb) | exact Kd.N_mono (Kd.N_elder' (zn (Q_HO175 h0_)) (Kd.R_base ho18) hb) (fun _ h_ => by first | trivial | exact h_ | exact h_.1))
      clear BK161
      clear BK162
      clear BK163
      clear HB
      have HO166 := n0_
      have BK161 := n1_
      have BK162 := n2_
      have BK163 := n3_
      have HB := n4_
      clear n0_ n1_ n2_ n3_ n4_
      clear hb ho18
      refine hK.out _ _ ⟨v165, v168, v171, v174, m14_, m15_, (by rw [ha.out]; exact putSel_upk 5 hb_ rfl rfl rfl), (zk BK161), (zk BK162), (zk BK163), (zb HB), fun _ _ => (by (with_reducible repeat (first | apply Kd.R_alloc | apply Kd.R_drewN | apply Kd.R_drew)); exact Kd.R_mono HO166.out (fun _ hk => ⟨hk.1.1.2, ⟨hk.1.2, hk.2⟩⟩)), fun h0_ => absurd ((hoff 6 (by kernel_rfl)).symm.trans h0_) (by decide), z_HO172, z_HO175, fun h0_ => absurd ((hoff 14 (by kernel_rfl)).symm.trans h0_) (by decide), fun h0_ => absurd ((hoff 15 (by kernel_rfl)).symm.trans h0_) (by decide)⟩
    refine steps_cons ?_ ?_
    · rintro b a w' ⟨v165, v168, v171, v174, m14_, m15_, ha, Q_BK161, Q_BK162, Q_BK163, Q_HB, Q_HO166, Q_HO169, Q_HO172, Q_HO175, Q_X14_, Q_X15_⟩ hb_ hon hoff
      refine ⟨_, rfl, fun K hK => ?_⟩
      have e23 : a.tmps[23]? = some (v165) := by rw [ha]; exact putSel_on (e := (5, 23, v165)) 5 rfl rfl (hon 5 (by kernel_rfl)) rfl
      replace ha := Aside0.mk ha
      have BK161 := Aside0.mk Q_BK161
      have BK162 := Aside0.mk Q_BK162
      have BK163 := Aside0.mk Q_BK163
      have HB := Aside0.mk Q_HB
      have HO166 := Aside0.mk (Q_HO166 (hon 5 (by kernel_rfl)) hb_)
      obtain ⟨Ao20, co20, eo20⟩ := Kd.R_slice HO166.out
      (first | subst eo20 | (injection eo20 with f1_ f2_ f3_; have f4_ := f1_.symm; have f5_ := f3_.symm; clear f1_ f2_ f3_; subst f4_; subst f5_))
      refine Kd.N_lit_step (Kd.slice 59 k59) _ 56 ?hg (N' := 24) ?hd (xs := ([y164] : List (List (S59)))) (inner := [.slice Ao20 y164.length co20]) (ok := (fun k_ => k_ ≠ gb161 ∧ k_ ≠ gb162 ∧ k_ ≠ gb163)) (okp := (fun k_ => k_ ≠ gb161 ∧ k_ ≠ gb162 ∧ k_ ≠ gb163)) ?hr ?hp (fun _ hk => hk) ((show ∀ k_, w'.heap.size ≤ k_ → (fun k_ => k_ ≠ gb161 ∧ k_ ≠ gb162 ∧ k_ ≠ gb163) k_ from fun k_ hk => ⟨Kd.freshB (g := gb161) (o := .cells #[.int .u8 1, .int .u8 0, .int .u8 0, .int .u8 0, .int .u8 0, .int .u8 0, .int .u8 0, .int .u8 0] 59 (0, 0)) (zk BK161) k_ hk, Kd.freshB (g := gb162) (o := .cells #[.int .u8 2, .int .u8 0, .int .u8 0, .int .u8 0, .int .u8 0, .int .u8 0, .int .u8 0, .int .u8 0] 59 (0, 0)) (zk BK162) k_ hk, Kd.freshB (g := gb163) (o := .cells #[.int .u8 3, .int .u8 0, .int .u8 0, .int .u8 0, .int .u8 0, .int .u8 0, .int .u8 0, .int .u8 0] 59 (0, 0)) (zk BK163) k_ hk⟩) _ (Nat.le_refl _)) (Below.refl _ _) (Nat.le_refl _) (by simp) ?_; (case hd => rfl); (case hg => rfl); (case hr => first | (go_simp; done) | (go_simp; rfl)); (case hp => exact (Reps.one (show Kd.FK (Kd.slice 59 k59) _ _ y164 [.slice Ao20 y164.length co20] from (Kd.FK_slice_mk (Kd.R_reads' (Kd.R_mono (ok' := (fun k_ => k_ ≠ gb161 ∧ k_ ≠ gb162 ∧ k_ ≠ gb163)) (HO166.out) (fun k_ hk => ⟨hk.1, ⟨hk.2.1, hk.2.2⟩⟩))).2.1 (Kd.R_F (Kd.R_mono (ok' := (fun k_ => k_ ≠ gb161 ∧ k_ ≠ gb162 ∧ k_ ≠ gb163)) (HO166.out) (fun k_ hk => ⟨hk.1, ⟨hk.2.1, hk.2.2⟩⟩))))) (Reps.none _ _)))
      intro v168 w21 ho22 hb hg_ hnew_
      clear hg_ hnew_
      (first | rw [← Ny167.out] at ho22 | (simp only [Int.reduceToNat] at ho22; rw [← Ny167.out] at ho22))
      have n0_ := Aside0.mk (Kd.N_lower ho22 (below_size (zb HB)))
      have n1_ := Aside0.mk (blk_below (zk BK161) hb)
      have n2_ := Aside0.mk (blk_below (zk BK162) hb)
      have n3_ := Aside0.mk (blk_below (zk BK163) hb)
      have n4_ := Aside0.mk (below_step (zb HB) hb)
      have z_HO172 := fun (h0_ : b 12 = true) (h1_ : b 13 = false) => (show Kd.R k59 59 w21 w.heap.size (fun k_ => k_ ≠ gb161 ∧ k_ ≠ gb162 ∧ k_ ≠ gb163) v171 y170 from by first | exact (Kd.R_below (zr (Q_HO172 h0_ h1_)) hb) | exact Kd.R_mono (Kd.R_below (zr (Q_HO172 h0_ h1_)) hb) (fun _ h_ => by first | trivial | exact h_ | exact h_.1))
      have z_HO175 := fun (h0_ : b 13 = true) => (show Kd.N (Kd.slice 59 k59) 56 w21 w.heap.size (fun k_ => k_ ≠ gb161 ∧ k_ ≠ gb162 ∧ k_ ≠ gb163) v174 y173 from by first | exact (Kd.N_elder' (zn (Q_HO175 h0_)) (Kd.N_base ho22) hb) | exact Kd.N_mono (Kd.N_elder' (zn (Q_HO175 h0_)) (Kd.N_base ho22) hb) (fun _ h_ => by first | trivial | exact h_ | exact h_.1))
      clear BK161
      clear BK162
      clear BK163
      clear HB
      clear HO166
      have HO169 := n0_
      have BK161 := n1_
      have BK162 := n2_
      have BK163 := n3_
      have HB := n4_
      clear n0_ n1_ n2_ n3_ n4_
      clear hb ho22
      refine hK.out _ _ ⟨.slice Ao20 y164.length co20, v168, v171, v174, m14_, m15_, (by rw [ha.out]; exact putSel_upk 6 hb_ rfl rfl rfl), (zk BK161), (zk BK162), (zk BK163), (zb HB), fun _ h1_ => absurd ((up_self b 6).symm.trans h1_) (by decide), fun _ => (zn HO169.out), z_HO172, z_HO175, fun h0_ => absurd ((hoff 14 (by kernel_rfl)).symm.trans h0_) (by decide), fun h0_ => absurd ((hoff 15 (by kernel_rfl)).symm.trans h0_) (by decide)⟩
    refine steps_cons ?_ ?_
    · rintro b a w' ⟨v165, v168, v171, v174, m14_, m15_, ha, Q_BK161, Q_BK162, Q_BK163, Q_HB, Q_HO166, Q_HO169, Q_HO172, Q_HO175, Q_X14_, Q_X15_⟩ hb_ hon hoff
      refine ⟨_, rfl, fun K hK => ?_⟩
      replace ha := Aside0.mk ha
      have BK161 := Aside0.mk Q_BK161
      have BK162 := Aside0.mk Q_BK162
      have BK163 := Aside0.mk Q_BK163
      have HB := Aside0.mk Q_HB
      refine value_ (w1 := w') (v := .agg #[.int .u8 0, .int .u8 0, .int .u8 0, .int .u8 0, .int .u8 0, .int .u8 0, .int .u8 0, .int .u8 0]) (by rfl) rfl ?_ ?_
      · go_simp
        (try simp only [i64_w])
        try rfl
      refine hK.out _ _ ⟨v165, v168, v171, v174, m14_, m15_, (by rw [ha.out]; exact putSel_upk 7 hb_ rfl rfl rfl), Q_BK161, Q_BK162, Q_BK163, Q_HB, Q_HO166, Q_HO169, fun h0_ _ => absurd ((hoff 12 (by kernel_rfl)).symm.trans h0_) (by decide), fun h0_ => absurd ((hoff 13 (by kernel_rfl)).symm.trans h0_) (by decide), Q_X14_, fun h0_ => absurd ((hoff 15 (by kernel_rfl)).symm.trans h0_) (by decide)⟩
    refine steps_cons ?_ ?_
    · rintro b a w' ⟨v165, v168, v171, v174, m14_, m15_, ha, Q_BK161, Q_BK162, Q_BK163, Q_HB, Q_HO166, Q_HO169, Q_HO172, Q_HO175, Q_X14_, Q_X15_⟩ hb_ hon hoff
      refine ⟨_, rfl, fun K hK => ?_⟩
      have e2 : a.tmps[2]? = some (.pointer (some ⟨gb162, 0, none⟩)) := by rw [ha]; exact (putSel_off rfl).trans rfl
      replace ha := Aside0.mk ha
      have BK161 := Aside0.mk Q_BK161
      have BK162 := Aside0.mk Q_BK162
      have BK163 := Aside0.mk Q_BK163
      have HB := Aside0.mk Q_HB
      have hc0_ : w'.cell? ⟨gb162, 0, none⟩ = some (.int .u8 2) := (blk_cell BK162.out 0).trans rfl
      have hc1_ : w'.cell? ⟨gb162, 1, none⟩ = some (.int .u8 0) := (blk_cell BK162.out 1).trans rfl
      have hc2_ : w'.cell? ⟨gb162, 2, none⟩ = some (.int .u8 0) := (blk_cell BK162.out 2).trans rfl
      have hc3_ : w'.cell? ⟨gb162, 3, none⟩ = some (.int .u8 0) := (blk_cell BK162.out 3).trans rfl
      have hc4_ : w'.cell? ⟨gb162, 4, none⟩ = some (.int .u8 0) := (blk_cell BK162.out 4).trans rfl
      have hc5_ : w'.cell? ⟨gb162, 5, none⟩ = some (.int .u8 0) := (blk_cell BK162.out 5).trans rfl
      have hc6_ : w'.cell? ⟨gb162, 6, none⟩ = some (.int .u8 0) := (blk_cell BK162.out 6).trans rfl
      have hc7_ : w'.cell? ⟨gb162, 7, none⟩ = some (.int .u8 0) := (blk_cell BK162.out 7).trans rfl
      refine value_ (w1 := w') (v := .agg #[.int .u8 2, .int .u8 0, .int .u8 0, .int .u8 0, .int .u8 0, .int .u8 0, .int .u8 0, .int .u8 0]) (by rfl) rfl ?_ ?_
      · go_simp
        (try simp only [i64_w])
        try rfl
      refine hK.out _ _ ⟨v165, v168, v171, v174, m14_, m15_, (by rw [ha.out]; exact putSel_upk 8 hb_ rfl rfl rfl), Q_BK161, Q_BK162, Q_BK163, Q_HB, Q_HO166, Q_HO169, fun h0_ _ => absurd ((hoff 12 (by kernel_rfl)).symm.trans h0_) (by decide), fun h0_ => absurd ((hoff 13 (by kernel_rfl)).symm.trans h0_) (by decide), Q_X14_, fun h0_ => absurd ((hoff 15 (by kernel_rfl)).symm.trans h0_) (by decide)⟩
    refine steps_cons ?_ ?_
    · rintro b a w' ⟨v165, v168, v171, v174, m14_, m15_, ha, Q_BK161, Q_BK162, Q_BK163, Q_HB, Q_HO166, Q_HO169, Q_HO172, Q_HO175, Q_X14_, Q_X15_⟩ hb_ hon hoff
      refine ⟨_, rfl, fun K hK => ?_⟩
      replace ha := Aside0.mk ha
      have BK161 := Aside0.mk Q_BK161
      have BK162 := Aside0.mk Q_BK162
      have BK163 := Aside0.mk Q_BK163
      have HB := Aside0.mk Q_HB
      refine value_ (w1 := w') (v := .agg #[.int .u8 0, .int .u8 0, .int .u8 0, .int .u8 0, .int .u8 0, .int .u8 0, .int .u8 0, .int .u8 0]) (by rfl) rfl ?_ ?_
      · go_simp
        (try simp only [i64_w])
        try rfl
      refine hK.out _ _ ⟨v165, v168, v171, v174, m14_, m15_, (by rw [ha.out]; exact putSel_upk 9 hb_ rfl rfl rfl), Q_BK161, Q_BK162, Q_BK163, Q_HB, Q_HO166, Q_HO169, fun h0_ _ => absurd ((hoff 12 (by kernel_rfl)).symm.trans h0_) (by decide), fun h0_ => absurd ((hoff 13 (by kernel_rfl)).symm.trans h0_) (by decide), Q_X14_, fun h0_ => absurd ((hoff 15 (by kernel_rfl)).symm.trans h0_) (by decide)⟩
    refine steps_cons ?_ ?_
    · rintro b a w' ⟨v165, v168, v171, v174, m14_, m15_, ha, Q_BK161, Q_BK162, Q_BK163, Q_HB, Q_HO166, Q_HO169, Q_HO172, Q_HO175, Q_X14_, Q_X15_⟩ hb_ hon hoff
      refine ⟨_, rfl, fun K hK => ?_⟩
      replace ha := Aside0.mk ha
      have BK161 := Aside0.mk Q_BK161
      have BK162 := Aside0.mk Q_BK162
      have BK163 := Aside0.mk Q_BK163
      have HB := Aside0.mk Q_HB
      refine value_ (w1 := w') (v := .agg #[.int .u8 0, .int .u8 0, .int .u8 0, .int .u8 0, .int .u8 0, .int .u8 0, .int .u8 0, .int .u8 0]) (by rfl) rfl ?_ ?_
      · go_simp
        (try simp only [i64_w])
        try rfl
      refine hK.out _ _ ⟨v165, v168, v171, v174, m14_, m15_, (by rw [ha.out]; exact putSel_upk 10 hb_ rfl rfl rfl), Q_BK161, Q_BK162, Q_BK163, Q_HB, Q_HO166, Q_HO169, fun h0_ _ => absurd ((hoff 12 (by kernel_rfl)).symm.trans h0_) (by decide), fun h0_ => absurd ((hoff 13 (by kernel_rfl)).symm.trans h0_) (by decide), Q_X14_, fun h0_ => absurd ((hoff 15 (by kernel_rfl)).symm.trans h0_) (by decide)⟩
    refine steps_cons ?_ ?_
    · rintro b a w' ⟨v165, v168, v171, v174, m14_, m15_, ha, Q_BK161, Q_BK162, Q_BK163, Q_HB, Q_HO166, Q_HO169, Q_HO172, Q_HO175, Q_X14_, Q_X15_⟩ hb_ hon hoff
      refine ⟨_, rfl, fun K hK => ?_⟩
      replace ha := Aside0.mk ha
      have BK161 := Aside0.mk Q_BK161
      have BK162 := Aside0.mk Q_BK162
      have BK163 := Aside0.mk Q_BK163
      have HB := Aside0.mk Q_HB
      refine value_ (w1 := w') (v := .agg #[.int .u8 0, .int .u8 0, .int .u8 0, .int .u8 0, .int .u8 0, .int .u8 0, .int .u8 0, .int .u8 0]) (by rfl) rfl ?_ ?_
      · go_simp
        (try simp only [i64_w])
        try rfl
      refine hK.out _ _ ⟨v165, v168, v171, v174, m14_, m15_, (by rw [ha.out]; exact putSel_upk 11 hb_ rfl rfl rfl), Q_BK161, Q_BK162, Q_BK163, Q_HB, Q_HO166, Q_HO169, fun h0_ _ => absurd ((hoff 12 (by kernel_rfl)).symm.trans h0_) (by decide), fun h0_ => absurd ((hoff 13 (by kernel_rfl)).symm.trans h0_) (by decide), Q_X14_, fun h0_ => absurd ((hoff 15 (by kernel_rfl)).symm.trans h0_) (by decide)⟩
    refine steps_cons ?_ ?_
    · rintro b a w' ⟨v165, v168, v171, v174, m14_, m15_, ha, Q_BK161, Q_BK162, Q_BK163, Q_HB, Q_HO166, Q_HO169, Q_HO172, Q_HO175, Q_X14_, Q_X15_⟩ hb_ hon hoff
      refine ⟨_, rfl, fun K hK => ?_⟩
      have e25 : a.tmps[25]? = some (.agg #[.int .u8 0, .int .u8 0, .int .u8 0, .int .u8 0, .int .u8 0, .int .u8 0, .int .u8 0, .int .u8 0]) := by rw [ha]; exact putSel_on (e := (7, 25, .agg #[.int .u8 0, .int .u8 0, .int .u8 0, .int .u8 0, .int .u8 0, .int .u8 0, .int .u8 0, .int .u8 0])) 7 rfl rfl (hon 7 (by kernel_rfl)) rfl
      have e26 : a.tmps[26]? = some (.agg #[.int .u8 2, .int .u8 0, .int .u8 0, .int .u8 0, .int .u8 0, .int .u8 0, .int .u8 0, .int .u8 0]) := by rw [ha]; exact putSel_on (e := (8, 26, .agg #[.int .u8 2, .int .u8 0, .int .u8 0, .int .u8 0, .int .u8 0, .int .u8 0, .int .u8 0, .int .u8 0])) 8 rfl rfl (hon 8 (by kernel_rfl)) rfl
      have e27 : a.tmps[27]? = some (.agg #[.int .u8 0, .int .u8 0, .int .u8 0, .int .u8 0, .int .u8 0, .int .u8 0, .int .u8 0, .int .u8 0]) := by rw [ha]; exact putSel_on (e := (9, 27, .agg #[.int .u8 0, .int .u8 0, .int .u8 0, .int .u8 0, .int .u8 0, .int .u8 0, .int .u8 0, .int .u8 0])) 9 rfl rfl (hon 9 (by kernel_rfl)) rfl
      have e28 : a.tmps[28]? = some (.agg #[.int .u8 0, .int .u8 0, .int .u8 0, .int .u8 0, .int .u8 0, .int .u8 0, .int .u8 0, .int .u8 0]) := by rw [ha]; exact putSel_on (e := (10, 28, .agg #[.int .u8 0, .int .u8 0, .int .u8 0, .int .u8 0, .int .u8 0, .int .u8 0, .int .u8 0, .int .u8 0])) 10 rfl rfl (hon 10 (by kernel_rfl)) rfl
      have e29 : a.tmps[29]? = some (.agg #[.int .u8 0, .int .u8 0, .int .u8 0, .int .u8 0, .int .u8 0, .int .u8 0, .int .u8 0, .int .u8 0]) := by rw [ha]; exact putSel_on (e := (11, 29, .agg #[.int .u8 0, .int .u8 0, .int .u8 0, .int .u8 0, .int .u8 0, .int .u8 0, .int .u8 0, .int .u8 0])) 11 rfl rfl (hon 11 (by kernel_rfl)) rfl
      replace ha := Aside0.mk ha
      have BK161 := Aside0.mk Q_BK161
      have BK162 := Aside0.mk Q_BK162
      have BK163 := Aside0.mk Q_BK163
      have HB := Aside0.mk Q_HB
      refine Kd.R_lit_step k59 _ 59 ?hg (N := 30) ?hd (xs := ([(⟨0, 0, 0, 0, 0, 0, 0, 0⟩ : S59), (⟨2, 0, 0, 0, 0, 0, 0, 0⟩ : S59), (⟨0, 0, 0, 0, 0, 0, 0, 0⟩ : S59), (⟨0, 0, 0, 0, 0, 0, 0, 0⟩ : S59), (⟨0, 0, 0, 0, 0, 0, 0, 0⟩ : S59)] : List (S59))) (inner := [.int .u8 0, .int .u8 0, .int .u8 0, .int .u8 0, .int .u8 0, .int .u8 0, .int .u8 0, .int .u8 0, .int .u8 2, .int .u8 0, .int .u8 0, .int .u8 0, .int .u8 0, .int .u8 0, .int .u8 0, .int .u8 0, .int .u8 0, .int .u8 0, .int .u8 0, .int .u8 0, .int .u8 0, .int .u8 0, .int .u8 0, .int .u8 0, .int .u8 0, .int .u8 0, .int .u8 0, .int .u8 0, .int .u8 0, .int .u8 0, .int .u8 0, .int .u8 0, .int .u8 0, .int .u8 0, .int .u8 0, .int .u8 0, .int .u8 0, .int .u8 0, .int .u8 0, .int .u8 0]) (ok := fun _ => True) (okp := fun _ => True) ?hr ?hp (fun _ hk => hk) trivial (Below.refl _ _) (Nat.le_refl _) (by simp) ?_; (case hd => rfl); (case hg => rfl); (case hr => first | (go_simp; done) | (go_simp; rfl)); (case hp => exact (Reps.c8 (show Kd.M k59 _ _ _ (⟨0, 0, 0, 0, 0, 0, 0, 0⟩ : S59) [.int .u8 0, .int .u8 0, .int .u8 0, .int .u8 0, .int .u8 0, .int .u8 0, .int .u8 0, .int .u8 0] from (k59_mkM _ _ _ (⟨0, 0, 0, 0, 0, 0, 0, 0⟩ : S59) )) (Reps.c8 (show Kd.M k59 _ _ _ (⟨2, 0, 0, 0, 0, 0, 0, 0⟩ : S59) [.int .u8 2, .int .u8 0, .int .u8 0, .int .u8 0, .int .u8 0, .int .u8 0, .int .u8 0, .int .u8 0] from (k59_mkM _ _ _ (⟨2, 0, 0, 0, 0, 0, 0, 0⟩ : S59) )) (Reps.c8 (show Kd.M k59 _ _ _ (⟨0, 0, 0, 0, 0, 0, 0, 0⟩ : S59) [.int .u8 0, .int .u8 0, .int .u8 0, .int .u8 0, .int .u8 0, .int .u8 0, .int .u8 0, .int .u8 0] from (k59_mkM _ _ _ (⟨0, 0, 0, 0, 0, 0, 0, 0⟩ : S59) )) (Reps.c8 (show Kd.M k59 _ _ _ (⟨0, 0, 0, 0, 0, 0, 0, 0⟩ : S59) [.int .u8 0, .int .u8 0, .int .u8 0, .int .u8 0, .int .u8 0, .int .u8 0, .int .u8 0, .int .u8 0] from (k59_mkM _ _ _ (⟨0, 0, 0, 0, 0, 0, 0, 0⟩ : S59) )) (Reps.c8 (show Kd.M k59 _ _ _ (⟨0, 0, 0, 0, 0, 0, 0, 0⟩ : S59) [.int .u8 0, .int .u8 0, .int .u8 0, .int .u8 0, .int .u8 0, .int .u8 0, .int .u8 0, .int .u8 0] from (k59_mkM _ _ _ (⟨0, 0, 0, 0, 0, 0, 0, 0⟩ : S59) )) (Reps.none _ _)))))))
      intro v171 w17 ho18 hb hg_ hnew_
      clear hg_ hnew_
      (first | rw [← Ny170.out] at ho18 | (simp only [Int.reduceToNat] at ho18; rw [← Ny170.out] at ho18))
      have n0_ := Aside0.mk (Kd.R_lower (Kd.R_newB (Kd.R_newB (Kd.R_newB ho18 (g := gb161) (o := .cells #[.int .u8 1, .int .u8 0, .int .u8 0, .int .u8 0, .int .u8 0, .int .u8 0, .int .u8 0, .int .u8 0] 59 (0, 0)) (zk BK161)) (g := gb162) (o := .cells #[.int .u8 2, .int .u8 0, .int .u8 0, .int .u8 0, .int .u8 0, .int .u8 0, .int .u8 0, .int .u8 0] 59 (0, 0)) (zk BK162)) (g := gb163) (o := .cells #[.int .u8 3, .int .u8 0, .int .u8 0, .int .u8 0, .int .u8 0, .int .u8 0, .int .u8 0, .int .u8 0] 59 (0, 0)) (zk BK163)) (below_size (zb HB)))
      have n1_ := Aside0.mk (blk_below (zk BK161) hb)
      have n2_ := Aside0.mk (blk_below (zk BK162) hb)
      have n3_ := Aside0.mk (blk_below (zk BK163) hb)
      have n4_ := Aside0.mk (below_step (zb HB) hb)
      have z_HO166 := fun (h0_ : b 5 = true) (h1_ : b 6 = false) => (show Kd.R k59 59 w17 w.heap.size (fun k_ => k_ ≠ gb161 ∧ k_ ≠ gb162 ∧ k_ ≠ gb163) v165 y164 from by first | exact (Kd.R_elder' (zr (Q_HO166 h0_ h1_)) (Kd.R_base ho18) hb) | exact Kd.R_mono (Kd.R_elder' (zr (Q_HO166 h0_ h1_)) (Kd.R_base ho18) hb) (fun _ h_ => by first | trivial | exact h_ | exact h_.1))
      have z_HO169 := fun (h0_ : b 6 = true) => (show Kd.N (Kd.slice 59 k59) 56 w17 w.heap.size (fun k_ => k_ ≠ gb161 ∧ k_ ≠ gb162 ∧ k_ ≠ gb163) v168 y167 from by first | exact (Kd.N_elder' (zn (Q_HO169 h0_)) (Kd.R_base ho18) hb) | exact Kd.N_mono (Kd.N_elder' (zn (Q_HO169 h0_)) (Kd.R_base ho18) hb) (fun _ h_ => by first | trivial | exact h_ | exact h_.1))
      clear BK161
      clear BK162
      clear BK163
      clear HB
      have HO172 := n0_
      have BK161 := n1_
      have BK162 := n2_
      have BK163 := n3_
      have HB := n4_
      clear n0_ n1_ n2_ n3_ n4_
      clear hb ho18
      refine hK.out _ _ ⟨v165, v168, v171, v174, m14_, m15_, (by rw [ha.out]; exact putSel_upk 12 hb_ rfl rfl rfl), (zk BK161), (zk BK162), (zk BK163), (zb HB), z_HO166, z_HO169, fun _ _ => (by (with_reducible repeat (first | apply Kd.R_alloc | apply Kd.R_drewN | apply Kd.R_drew)); exact Kd.R_mono HO172.out (fun _ hk => ⟨hk.1.1.2, ⟨hk.1.2, hk.2⟩⟩)), fun h0_ => absurd ((hoff 13 (by kernel_rfl)).symm.trans h0_) (by decide), Q_X14_, fun h0_ => absurd ((hoff 15 (by kernel_rfl)).symm.trans h0_) (by decide)⟩
    refine steps_cons ?_ ?_
    · rintro b a w' ⟨v165, v168, v171, v174, m14_, m15_, ha, Q_BK161, Q_BK162, Q_BK163, Q_HB, Q_HO166, Q_HO169, Q_HO172, Q_HO175, Q_X14_, Q_X15_⟩ hb_ hon hoff
      refine ⟨_, rfl, fun K hK => ?_⟩
      have e30 : a.tmps[30]? = some (v171) := by rw [ha]; exact putSel_on (e := (12, 30, v171)) 12 rfl rfl (hon 12 (by kernel_rfl)) rfl
      replace ha := Aside0.mk ha
      have BK161 := Aside0.mk Q_BK161
      have BK162 := Aside0.mk Q_BK162
      have BK163 := Aside0.mk Q_BK163
      have HB := Aside0.mk Q_HB
      have HO172 := Aside0.mk (Q_HO172 (hon 12 (by kernel_rfl)) hb_)
      obtain ⟨Ao20, co20, eo20⟩ := Kd.R_slice HO172.out
      (first | subst eo20 | (injection eo20 with f1_ f2_ f3_; have f4_ := f1_.symm; have f5_ := f3_.symm; clear f1_ f2_ f3_; subst f4_; subst f5_))
      refine Kd.N_lit_step (Kd.slice 59 k59) _ 56 ?hg (N' := 31) ?hd (xs := ([y170] : List (List (S59)))) (inner := [.slice Ao20 y170.length co20]) (ok := (fun k_ => k_ ≠ gb161 ∧ k_ ≠ gb162 ∧ k_ ≠ gb163)) (okp := (fun k_ => k_ ≠ gb161 ∧ k_ ≠ gb162 ∧ k_ ≠ gb163)) ?hr ?hp (fun _ hk => hk) ((show ∀ k_, w'.heap.size ≤ k_ → (fun k_ => k_ ≠ gb161 ∧ k_ ≠ gb162 ∧ k_ ≠ gb163) k_ from fun k_ hk => ⟨Kd.freshB (g := gb161) (o := .cells #[.int .u8 1, .int .u8 0, .int .u8 0, .int .u8 0, .int .u8 0, .int .u8 0, .int .u8 0, .int .u8 0] 59 (0, 0)) (zk BK161) k_ hk, Kd.freshB (g := gb162) (o := .cells #[.int .u8 2, .int .u8 0, .int .u8 0, .int .u8 0, .int .u8 0, .int .u8 0, .int .u8 0, .int .u8 0] 59 (0, 0)) (zk BK162) k_ hk, Kd.freshB (g := gb163) (o := .cells #[.int .u8 3, .int .u8 0, .int .u8 0, .int .u8 0, .int .u8 0, .int .u8 0, .int .u8 0, .int .u8 0] 59 (0, 0)) (zk BK163) k_ hk⟩) _ (Nat.le_refl _)) (Below.refl _ _) (Nat.le_refl _) (by simp) ?_; (case hd => rfl); (case hg => rfl); (case hr => first | (go_simp; done) | (go_simp; rfl)); (case hp => exact (Reps.one (show Kd.FK (Kd.slice 59 k59) _ _ y170 [.slice Ao20 y170.length co20] from (Kd.FK_slice_mk (Kd.R_reads' (Kd.R_mono (ok' := (fun k_ => k_ ≠ gb161 ∧ k_ ≠ gb162 ∧ k_ ≠ gb163)) (HO172.out) (fun k_ hk => ⟨hk.1, ⟨hk.2.1, hk.2.2⟩⟩))).2.1 (Kd.R_F (Kd.R_mono (ok' := (fun k_ => k_ ≠ gb161 ∧ k_ ≠ gb162 ∧ k_ ≠ gb163)) (HO172.out) (fun k_ hk => ⟨hk.1, ⟨hk.2.1, hk.2.2⟩⟩))))) (Reps.none _ _)))
      intro v174 w21 ho22 hb hg_ hnew_
      clear hg_ hnew_
      (first | rw [← Ny173.out] at ho22 | (simp only [Int.reduceToNat] at ho22; rw [← Ny173.out] at ho22))
      have n0_ := Aside0.mk (Kd.N_lower ho22 (below_size (zb HB)))
      have n1_ := Aside0.mk (blk_below (zk BK161) hb)
      have n2_ := Aside0.mk (blk_below (zk BK162) hb)
      have n3_ := Aside0.mk (blk_below (zk BK163) hb)
      have n4_ := Aside0.mk (below_step (zb HB) hb)
      have z_HO166 := fun (h0_ : b 5 = true) (h1_ : b 6 = false) => (show Kd.R k59 59 w21 w.heap.size (fun k_ => k_ ≠ gb161 ∧ k_ ≠ gb162 ∧ k_ ≠ gb163) v165 y164 from by first | exact (Kd.R_below (zr (Q_HO166 h0_ h1_)) hb) | exact Kd.R_mono (Kd.R_below (zr (Q_HO166 h0_ h1_)) hb) (fun _ h_ => by first | trivial | exact h_ | exact h_.1))
      have z_HO169 := fun (h0_ : b 6 = true) => (show Kd.N (Kd.slice 59 k59) 56 w21 w.heap.size (fun k_ => k_ ≠ gb161 ∧ k_ ≠ gb162 ∧ k_ ≠ gb163) v168 y167 from by first | exact (Kd.N_elder' (zn (Q_HO169 h0_)) (Kd.N_base ho22) hb) | exact Kd.N_mono (Kd.N_elder' (zn (Q_HO169 h0_)) (Kd.N_base ho22) hb) (fun _ h_ => by first | trivial | exact h_ | exact h_.1))
      clear BK161
      clear BK162
      clear BK163
      clear HB
      clear HO172
      have HO175 := n0_
      have BK161 := n1_
      have BK162 := n2_
      have BK163 := n3_
      have HB := n4_
      clear n0_ n1_ n2_ n3_ n4_
      clear hb ho22
      refine hK.out _ _ ⟨v165, v168, .slice Ao20 y170.length co20, v174, m14_, m15_, (by rw [ha.out]; exact putSel_upk 13 hb_ rfl rfl rfl), (zk BK161), (zk BK162), (zk BK163), (zb HB), z_HO166, z_HO169, fun _ h1_ => absurd ((up_self b 13).symm.trans h1_) (by decide), fun _ => (zn HO175.out), Q_X14_, fun h0_ => absurd ((hoff 15 (by kernel_rfl)).symm.trans h0_) (by decide)⟩
    refine steps_cons ?_ ?_
    · rintro b a w' ⟨v165, v168, v171, v174, m14_, m15_, ha, Q_BK161, Q_BK162, Q_BK163, Q_HB, Q_HO166, Q_HO169, Q_HO172, Q_HO175, Q_X14_, Q_X15_⟩ hb_ hon hoff
      refine ⟨_, rfl, fun K hK => ?_⟩
      have e24 : a.tmps[24]? = some (v168) := by rw [ha]; exact putSel_on (e := (6, 24, v168)) 6 rfl rfl (hon 6 (by kernel_rfl)) rfl
      replace ha := Aside0.mk ha
      have BK161 := Aside0.mk Q_BK161
      have BK162 := Aside0.mk Q_BK162
      have BK163 := Aside0.mk Q_BK163
      have HB := Aside0.mk Q_HB
      have HO169 := Aside0.mk (Q_HO169 (hon 6 (by kernel_rfl)))
      refine value_ (w1 := w') (v := v168) (by rfl) rfl ?_ ?_
      · go_simp
        (try simp only [i64_w])
        try rfl
      refine hK.out _ _ ⟨v165, v168, v171, v174, (v168), m15_, (by rw [ha.out]; exact putSel_upk 14 hb_ rfl rfl rfl), Q_BK161, Q_BK162, Q_BK163, Q_HB, fun _ h1_ => absurd ((hon 6 (by kernel_rfl)).symm.trans h1_) (by decide), Q_HO169, Q_HO172, Q_HO175, fun _ => rfl, fun h0_ => absurd ((hoff 15 (by kernel_rfl)).symm.trans h0_) (by decide)⟩
    refine steps_cons ?_ ?_
    · rintro b a w' ⟨v165, v168, v171, v174, m14_, m15_, ha, Q_BK161, Q_BK162, Q_BK163, Q_HB, Q_HO166, Q_HO169, Q_HO172, Q_HO175, Q_X14_, Q_X15_⟩ hb_ hon hoff
      refine ⟨_, rfl, fun K hK => ?_⟩
      have e31 : a.tmps[31]? = some (v174) := by rw [ha]; exact putSel_on (e := (13, 31, v174)) 13 rfl rfl (hon 13 (by kernel_rfl)) rfl
      replace ha := Aside0.mk ha
      have BK161 := Aside0.mk Q_BK161
      have BK162 := Aside0.mk Q_BK162
      have BK163 := Aside0.mk Q_BK163
      have HB := Aside0.mk Q_HB
      have HO169 := Aside0.mk (Q_HO169 (hon 6 (by kernel_rfl)))
      have HO175 := Aside0.mk (Q_HO175 (hon 13 (by kernel_rfl)))
      refine value_ (w1 := w') (v := v174) (by rfl) rfl ?_ ?_
      · go_simp
        (try simp only [i64_w])
        try rfl
      refine hK.out _ _ ⟨v165, v168, v171, v174, m14_, (v174), (by rw [ha.out]; exact putSel_upk 15 hb_ rfl rfl rfl), Q_BK161, Q_BK162, Q_BK163, Q_HB, fun _ h1_ => absurd ((hon 6 (by kernel_rfl)).symm.trans h1_) (by decide), Q_HO169, fun _ h1_ => absurd ((hon 13 (by kernel_rfl)).symm.trans h1_) (by decide), Q_HO175, Q_X14_, fun _ => rfl⟩
    exact steps_nil
  rintro b a w27 hall ⟨v165, v168, v171, v174, m14_, m15_, ha, Q_BK161, Q_BK162, Q_BK163, Q_HB, Q_HO166, Q_HO169, Q_HO172, Q_HO175, Q_X14_, Q_X15_⟩
  clear BK161 BK162 BK163 HB
  have hb0_ := hall 0 (by kernel_rfl)
  have hb1_ := hall 1 (by kernel_rfl)
  have hb2_ := hall 2 (by kernel_rfl)
  have hb3_ := hall 3 (by kernel_rfl)
  have hb4_ := hall 4 (by kernel_rfl)
  have hb5_ := hall 5 (by kernel_rfl)
  have hb6_ := hall 6 (by kernel_rfl)
  have hb7_ := hall 7 (by kernel_rfl)
  have hb8_ := hall 8 (by kernel_rfl)
  have hb9_ := hall 9 (by kernel_rfl)
  have hb10_ := hall 10 (by kernel_rfl)
  have hb11_ := hall 11 (by kernel_rfl)
  have hb12_ := hall 12 (by kernel_rfl)
  have hb13_ := hall 13 (by kernel_rfl)
  have hb14_ := hall 14 (by kernel_rfl)
  have hb15_ := hall 15 (by kernel_rfl)
  subst ha
  obtain rfl := (Q_X14_ hb14_).symm
  obtain rfl := (Q_X15_ hb15_).symm
  simp only [putSel, hb0_, hb1_, hb2_, hb3_, hb4_, hb5_, hb6_, hb7_, hb8_, hb9_, hb10_, hb11_, hb12_, hb13_, hb14_, hb15_, if_true, Act.put, List.setIfInBounds_toArray, List.set_cons_zero, List.set_cons_succ]
  have BK161 := Aside0.mk Q_BK161
  clear Q_BK161
  have BK162 := Aside0.mk Q_BK162
  clear Q_BK162
  have BK163 := Aside0.mk Q_BK163
  clear Q_BK163
  have HB := Aside0.mk Q_HB
  clear Q_HB
  clear Q_HO166
  have HO169 := Aside0.mk (Q_HO169 hb6_)
  clear Q_HO169
  clear Q_HO172
  have HO175 := Aside0.mk (Q_HO175 hb13_)
  clear Q_HO175
  clear hall hb0_ hb1_ hb2_ hb3_ hb4_ hb5_ hb6_ hb7_ hb8_ hb9_ hb10_ hb11_ hb12_ hb13_ hb14_ hb15_
  go_upto_region 8 with (first | ((with_reducible refine gate_dst (N := 34) rfl ?_); (try (refine gate_guard (by rfl) ?_; dsimp only)); refine Kd.R_lit k61 _ 61 ?hg (N := 34) ?hd (xs := ([(⟨0, 2⟩ : S61), (⟨4, 1⟩ : S61)] : List (S61))) (inner := [.int .i64 0, .int .i64 2, .int .i64 4, .int .i64 1]) (ok := fun _ => True) (okp := fun _ => True) ?hr ?hp (fun _ hk => hk) trivial (Below.refl _ _) (Nat.le_refl _) (by simp) ?_; (case hd => rfl); (case hg => rfl); (case hr => first | (go_simp; done) | (go_simp; rfl)); (case hp => exact (Reps.c2 (show Kd.M k61 _ _ _ (⟨0, 2⟩ : S61) [.int .i64 0, .int .i64 2] from (k61_mkM _ _ _ (⟨0, 2⟩ : S61) )) (Reps.c2 (show Kd.M k61 _ _ _ (⟨4, 1⟩ : S61) [.int .i64 4, .int .i64 1] from (k61_mkM _ _ _ (⟨4, 1⟩ : S61) )) (Reps.none _ _)))); intro v177 w28 ho29 hb hg_ hnew_; clear hg_ hnew_; (first | rw [← Ny176.out] at ho29 | (simp only [Int.reduceToNat] at ho29; rw [← Ny176.out] at ho29)); have HO178 := Aside0.mk (Kd.R_lower ho29 (below_size (zb HB))); replace HO169 := Aside0.mk (Kd.N_elder' (zn HO169.out) (Kd.R_base ho29) hb); replace HO175 := Aside0.mk (Kd.N_elder' (zn HO175.out) (Kd.R_base ho29) hb); replace BK161 := Aside0.mk (blk_below (zk BK161) hb); replace BK162 := Aside0.mk (blk_below (zk BK162) hb); replace BK163 := Aside0.mk (blk_below (zk BK163) hb); replace HB := Aside0.mk (below_step (zb HB) hb); clear hb ho29; obtain ⟨Ao30, co30, eo30⟩ := Kd.R_slice HO178.out; subst eo30) | ((with_reducible refine gate_dst (N := 35) rfl ?_); (try (refine gate_guard (by rfl) ?_; dsimp only)); refine Kd.N_lit (Kd.slice 61 k61) _ 57 ?hg (N' := 35) ?hd (xs := ([y176] : List (List (S61)))) (inner := [.slice Ao30 y176.length co30]) (ok := (fun k_ => some k_ ≠ (v168 : Value).ownBlock ∧ some k_ ≠ (v174 : Value).ownBlock ∧ k_ ≠ gb161 ∧ k_ ≠ gb162 ∧ k_ ≠ gb163)) (okp := (fun k_ => some k_ ≠ (v168 : Value).ownBlock ∧ some k_ ≠ (v174 : Value).ownBlock ∧ k_ ≠ gb161 ∧ k_ ≠ gb162 ∧ k_ ≠ gb163)) ?hr ?hp (fun _ hk => hk) ((show ∀ k_, w28.heap.size ≤ k_ → (fun k_ => some k_ ≠ (v168 : Value).ownBlock ∧ some k_ ≠ (v174 : Value).ownBlock ∧ k_ ≠ gb161 ∧ k_ ≠ gb162 ∧ k_ ≠ gb163) k_ from fun k_ hk => ⟨Kd.fresh' (Kd.N_lt (zn HO169.out)) k_ hk, Kd.fresh' (Kd.N_lt (zn HO175.out)) k_ hk, Kd.freshB (g := gb161) (o := .cells #[.int .u8 1, .int .u8 0, .int .u8 0, .int .u8 0, .int .u8 0, .int .u8 0, .int .u8 0, .int .u8 0] 59 (0, 0)) (zk BK161) k_ hk, Kd.freshB (g := gb162) (o := .cells #[.int .u8 2, .int .u8 0, .int .u8 0, .int .u8 0, .int .u8 0, .int .u8 0, .int .u8 0, .int .u8 0] 59 (0, 0)) (zk BK162) k_ hk, Kd.freshB (g := gb163) (o := .cells #[.int .u8 3, .int .u8 0, .int .u8 0, .int .u8 0, .int .u8 0, .int .u8 0, .int .u8 0, .int .u8 0] 59 (0, 0)) (zk BK163) k_ hk⟩) _ (Nat.le_refl _)) (Below.refl _ _) (Nat.le_refl _) (by simp) ?_; (case hd => rfl); (case hg => rfl); (case hr => first | (go_simp; done) | (go_simp; rfl)); (case hp => exact (Reps.one (show Kd.FK (Kd.slice 61 k61) _ _ y176 [.slice Ao30 y176.length co30] from (Kd.FK_slice_mk (Kd.R_reads' (Kd.R_mono (ok' := (fun k_ => some k_ ≠ (v168 : Value).ownBlock ∧ some k_ ≠ (v174 : Value).ownBlock ∧ k_ ≠ gb161 ∧ k_ ≠ gb162 ∧ k_ ≠ gb163)) (Kd.R_types (Kd.R_types (Kd.R_types (Kd.R_apart' (Kd.R_apart' (HO178.out) (Kd.N_typed HO169.out) (by decide)) (Kd.N_typed HO175.out) (by decide)) BK161.out (by decide)) BK162.out (by decide)) BK163.out (by decide)) (fun k_ hk => ⟨hk.1.1.1.1.2, ⟨hk.1.1.1.2, ⟨hk.1.1.2, ⟨hk.1.2, hk.2⟩⟩⟩⟩))).2.1 (Kd.R_F (Kd.R_mono (ok' := (fun k_ => some k_ ≠ (v168 : Value).ownBlock ∧ some k_ ≠ (v174 : Value).ownBlock ∧ k_ ≠ gb161 ∧ k_ ≠ gb162 ∧ k_ ≠ gb163)) (Kd.R_types (Kd.R_types (Kd.R_types (Kd.R_apart' (Kd.R_apart' (HO178.out) (Kd.N_typed HO169.out) (by decide)) (Kd.N_typed HO175.out) (by decide)) BK161.out (by decide)) BK162.out (by decide)) BK163.out (by decide)) (fun k_ hk => ⟨hk.1.1.1.1.2, ⟨hk.1.1.1.2, ⟨hk.1.1.2, ⟨hk.1.2, hk.2⟩⟩⟩⟩))))) (Reps.none _ _))); intro v180 w31 ho32 hb hg_ hnew_; clear hg_ hnew_; (first | rw [← Ny179.out] at ho32 | (simp only [Int.reduceToNat] at ho32; rw [← Ny179.out] at ho32)); have n0_ := Aside0.mk (Kd.N_elder' (zn HO169.out) (Kd.N_base ho32) hb); have n1_ := Aside0.mk (Kd.N_elder' (zn HO175.out) (Kd.N_base ho32) hb); have n2_ := Aside0.mk (Kd.N_lower ho32 (below_size (zb HB))); have n3_ := Aside0.mk (blk_below (zk BK161) hb); have n4_ := Aside0.mk (blk_below (zk BK162) hb); have n5_ := Aside0.mk (blk_below (zk BK163) hb); have n6_ := Aside0.mk (below_step (zb HB) hb); clear HO169; clear HO175; clear BK161; clear BK162; clear BK163; clear HB; clear HO178; have HO169 := n0_; have HO175 := n1_; have HO181 := n2_; have BK161 := n3_; have BK162 := n4_; have BK163 := n5_; have HB := n6_; clear n0_ n1_ n2_ n3_ n4_ n5_ n6_; clear hb ho32; obtain ⟨Ao33, co33, eo33⟩ := Kd.N_slice HO169.out; subst eo33; obtain ⟨Ao34, co34, eo34⟩ := Kd.N_slice HO181.out; subst eo34) | ((with_reducible refine gate_callee (f := 8) rfl ?_); refine zG (some 39) Tryz.func8 #[.slice Ao33 y167.length co33, .slice Ao34 y179.length co34] ?_; (with_reducible refine (resync_Writes.calls _ _ y167 _ _ y179 t182 t183 _ ?side1 ?side2 ?side3 ?side4 A1.out).mono ?_); (case side1 => repeat (first | exact (Kd.N_reads' HO169.out).2.2 | (with_reducible refine Kd.C_alloc ?_ _) | (with_reducible refine Kd.C_drewN ?_ _) | (with_reducible refine Kd.C_drew ?_))); (case side2 => exact (Kd.N_reads' HO169.out).2.1); (case side3 => repeat (first | exact (Kd.N_reads' HO181.out).2.2 | (with_reducible refine Kd.C_alloc ?_ _) | (with_reducible refine Kd.C_drewN ?_ _) | (with_reducible refine Kd.C_drew ?_))); (case side4 => exact (Kd.N_reads' HO181.out).2.1); rintro e w35 ⟨v184, rfl, ho0, hb⟩; refine ⟨_, rfl, ?_⟩; have HO185 := Aside0.mk (Kd.N_lower (Kd.N_mono (ok' := fun k_ => some k_ ≠ (.slice Ao33 y167.length co33 : Value).ownBlock ∧ some k_ ≠ (v174 : Value).ownBlock ∧ some k_ ≠ (.slice Ao34 y179.length co34 : Value).ownBlock ∧ k_ ≠ gb161 ∧ k_ ≠ gb162 ∧ k_ ≠ gb163) (Kd.S_N (Kd.S_bound ho0)) (fun k_ hk_ => ⟨(Kd.fresh' (Kd.N_lt (zn HO169.out)) k_ hk_.2.1), (Kd.fresh' (Kd.N_lt (zn HO175.out)) k_ hk_.2.1), (Kd.fresh' (Kd.N_lt (zn HO181.out)) k_ hk_.2.1), (Kd.freshB (g := gb161) (o := .cells #[.int .u8 1, .int .u8 0, .int .u8 0, .int .u8 0, .int .u8 0, .int .u8 0, .int .u8 0, .int .u8 0] 59 (0, 0)) (zk BK161) k_ hk_.2.1), (Kd.freshB (g := gb162) (o := .cells #[.int .u8 2, .int .u8 0, .int .u8 0, .int .u8 0, .int .u8 0, .int .u8 0, .int .u8 0, .int .u8 0] 59 (0, 0)) (zk BK162) k_ hk_.2.1), (Kd.freshB (g := gb163) (o := .cells #[.int .u8 3, .int .u8 0, .int .u8 0, .int .u8 0, .int .u8 0, .int .u8 0, .int .u8 0, .int .u8 0] 59 (0, 0)) (zk BK163) k_ hk_.2.1)⟩)) (below_size (zb HB))); replace HO169 := Aside0.mk (Kd.N_elder' (zn HO169.out) (Kd.N_base (Kd.S_N ho0)) hb); replace HO175 := Aside0.mk (Kd.N_elder' (zn HO175.out) (Kd.N_base (Kd.S_N ho0)) hb); replace HO181 := Aside0.mk (Kd.N_elder' (zn HO181.out) (Kd.N_base (Kd.S_N ho0)) hb); replace BK161 := Aside0.mk (blk_below (zk BK161) hb); replace BK162 := Aside0.mk (blk_below (zk BK162) hb); replace BK163 := Aside0.mk (blk_below (zk BK163) hb); replace HB := Aside0.mk (below_step (zb HB) hb); clear hb ho0; obtain ⟨Ao36, co36, eo36⟩ := Kd.N_slice HO175.out; subst eo36) | ((with_reducible refine gate_callee (f := 20) rfl ?_); refine zG (some 46) Tryz.func20 #[.slice Ao33 y167.length co33, .slice Ao36 y173.length co36, .slice Ao34 y179.length co34] ?_; (with_reducible refine (resync_Needed.calls _ _ y167 _ _ y173 _ _ y179 t186 t187 _ ?side1 ?side2 ?side3 ?side4 ?side5 ?side6 A2.out).mono ?_); (case side1 => repeat (first | exact (Kd.N_reads' HO169.out).2.2 | (with_reducible refine Kd.C_alloc ?_ _) | (with_reducible refine Kd.C_drewN ?_ _) | (with_reducible refine Kd.C_drew ?_))); (case side2 => exact (Kd.N_reads' HO169.out).2.1); (case side3 => repeat (first | exact (Kd.N_reads' HO175.out).2.2 | (with_reducible refine Kd.C_alloc ?_ _) | (with_reducible refine Kd.C_drewN ?_ _) | (with_reducible refine Kd.C_drew ?_))); (case side4 => exact (Kd.N_reads' HO175.out).2.1); (case side5 => repeat (first | exact (Kd.N_reads' HO181.out).2.2 | (with_reducible refine Kd.C_alloc ?_ _) | (with_reducible refine Kd.C_drewN ?_ _) | (with_reducible refine Kd.C_drew ?_))); (case side6 => exact (Kd.N_reads' HO181.out).2.1); rintro e w37 ⟨v188, rfl, ho0, hb⟩; refine ⟨_, rfl, ?_⟩; have HO189 := Aside0.mk (Kd.N_lower (Kd.N_mono (ok' := fun k_ => some k_ ≠ (.slice Ao33 y167.length co33 : Value).ownBlock ∧ some k_ ≠ (.slice Ao36 y173.length co36 : Value).ownBlock ∧ some k_ ≠ (.slice Ao34 y179.length co34 : Value).ownBlock ∧ some k_ ≠ (v184 : Value).ownBlock ∧ k_ ≠ gb161 ∧ k_ ≠ gb162 ∧ k_ ≠ gb163) (Kd.S_N (Kd.S_bound ho0)) (fun k_ hk_ => ⟨(Kd.fresh' (Kd.N_lt (zn HO169.out)) k_ hk_.2.1), (Kd.fresh' (Kd.N_lt (zn HO175.out)) k_ hk_.2.1), (Kd.fresh' (Kd.N_lt (zn HO181.out)) k_ hk_.2.1), (Kd.fresh' (Kd.N_lt (zn HO185.out)) k_ hk_.2.1), (Kd.freshB (g := gb161) (o := .cells #[.int .u8 1, .int .u8 0, .int .u8 0, .int .u8 0, .int .u8 0, .int .u8 0, .int .u8 0, .int .u8 0] 59 (0, 0)) (zk BK161) k_ hk_.2.1), (Kd.freshB (g := gb162) (o := .cells #[.int .u8 2, .int .u8 0, .int .u8 0, .int .u8 0, .int .u8 0, .int .u8 0, .int .u8 0, .int .u8 0] 59 (0, 0)) (zk BK162) k_ hk_.2.1), (Kd.freshB (g := gb163) (o := .cells #[.int .u8 3, .int .u8 0, .int .u8 0, .int .u8 0, .int .u8 0, .int .u8 0, .int .u8 0, .int .u8 0] 59 (0, 0)) (zk BK163) k_ hk_.2.1)⟩)) (below_size (zb HB))); replace HO169 := Aside0.mk (Kd.N_elder' (zn HO169.out) (Kd.N_base (Kd.S_N ho0)) hb); replace HO175 := Aside0.mk (Kd.N_elder' (zn HO175.out) (Kd.N_base (Kd.S_N ho0)) hb); replace HO181 := Aside0.mk (Kd.N_elder' (zn HO181.out) (Kd.N_base (Kd.S_N ho0)) hb); replace HO185 := Aside0.mk (Kd.N_elder' (zn HO185.out) (Kd.N_base (Kd.S_N ho0)) hb); replace BK161 := Aside0.mk (blk_below (zk BK161) hb); replace BK162 := Aside0.mk (blk_below (zk BK162) hb); replace BK163 := Aside0.mk (blk_below (zk BK163) hb); replace HB := Aside0.mk (below_step (zb HB) hb); clear hb ho0; obtain ⟨Ao38, co38, eo38⟩ := Kd.N_slice HO189.out; subst eo38) | ((with_reducible refine gate_callee (f := 21) rfl ?_); refine zG (some 53) Tryz.func21 #[.slice Ao33 y167.length co33, .slice Ao36 y173.length co36, .slice Ao38 t186.length co38] ?_; (with_reducible refine (resync_Exact.calls _ _ y167 _ _ y173 _ _ t186 t190 t191 _ ?side1 ?side2 ?side3 ?side4 ?side5 ?side6 A3.out).mono ?_); (case side1 => repeat (first | exact (Kd.N_reads' HO169.out).2.2 | (with_reducible refine Kd.C_alloc ?_ _) | (with_reducible refine Kd.C_drewN ?_ _) | (with_reducible refine Kd.C_drew ?_))); (case side2 => exact (Kd.N_reads' HO169.out).2.1); (case side3 => repeat (first | exact (Kd.N_reads' HO175.out).2.2 | (with_reducible refine Kd.C_alloc ?_ _) | (with_reducible refine Kd.C_drewN ?_ _) | (with_reducible refine Kd.C_drew ?_))); (case side4 => exact (Kd.N_reads' HO175.out).2.1); (case side5 => repeat (first | exact (Kd.N_reads' HO189.out).2.2 | (with_reducible refine Kd.C_alloc ?_ _) | (with_reducible refine Kd.C_drewN ?_ _) | (with_reducible refine Kd.C_drew ?_))); (case side6 => exact (Kd.N_reads' HO189.out).2.1); rintro e w39 ⟨rfl, hb⟩; refine ⟨_, rfl, ?_⟩; replace HO169 := Aside0.mk (Kd.N_below (zn HO169.out) hb); replace HO175 := Aside0.mk (Kd.N_below (zn HO175.out) hb); replace HO181 := Aside0.mk (Kd.N_below (zn HO181.out) hb); replace HO185 := Aside0.mk (Kd.N_below (zn HO185.out) hb); replace HO189 := Aside0.mk (Kd.N_below (zn HO189.out) hb); replace BK161 := Aside0.mk (blk_below (zk BK161) hb); replace BK162 := Aside0.mk (blk_below (zk BK162) hb); replace BK163 := Aside0.mk (blk_below (zk BK163) hb); replace HB := Aside0.mk (below_step (zb HB) hb); clear hb) | ((with_reducible refine gate_callee (f := 21) rfl ?_); refine zG (some 60) Tryz.func21 #[.slice Ao33 y167.length co33, .slice Ao36 y173.length co36, .slice Ao34 y179.length co34] ?_; (with_reducible refine (resync_Exact.calls _ _ y167 _ _ y173 _ _ y179 t192 t193 _ ?side1 ?side2 ?side3 ?side4 ?side5 ?side6 A4.out).mono ?_); (case side1 => repeat (first | exact (Kd.N_reads' HO169.out).2.2 | (with_reducible refine Kd.C_alloc ?_ _) | (with_reducible refine Kd.C_drewN ?_ _) | (with_reducible refine Kd.C_drew ?_))); (case side2 => exact (Kd.N_reads' HO169.out).2.1); (case side3 => repeat (first | exact (Kd.N_reads' HO175.out).2.2 | (with_reducible refine Kd.C_alloc ?_ _) | (with_reducible refine Kd.C_drewN ?_ _) | (with_reducible refine Kd.C_drew ?_))); (case side4 => exact (Kd.N_reads' HO175.out).2.1); (case side5 => repeat (first | exact (Kd.N_reads' HO181.out).2.2 | (with_reducible refine Kd.C_alloc ?_ _) | (with_reducible refine Kd.C_drewN ?_ _) | (with_reducible refine Kd.C_drew ?_))); (case side6 => exact (Kd.N_reads' HO181.out).2.1); rintro e w40 ⟨rfl, hb⟩; refine ⟨_, rfl, ?_⟩; replace HO169 := Aside0.mk (Kd.N_below (zn HO169.out) hb); replace HO175 := Aside0.mk (Kd.N_below (zn HO175.out) hb); replace HO181 := Aside0.mk (Kd.N_below (zn HO181.out) hb); replace HO185 := Aside0.mk (Kd.N_below (zn HO185.out) hb); replace HO189 := Aside0.mk (Kd.N_below (zn HO189.out) hb); replace BK161 := Aside0.mk (blk_below (zk BK161) hb); replace BK162 := Aside0.mk (blk_below (zk BK162) hb); replace BK163 := Aside0.mk (blk_below (zk BK163) hb); replace HB := Aside0.mk (below_step (zb HB) hb); clear hb))
  (try simp only [Act.put, List.setIfInBounds_toArray, List.set_cons_zero, List.set_cons_succ])
  go_cut [83] (fun v83 wc => ∃ (kq : Nat) (x83_4 : Bool), v83 = .bool x83_4 ∧ Aside0 (standbylaw45_awake.j0 kq y179 t186 t190 t192 x83_4 = some r) ∧ Aside0 (kq ≤ k) ∧ Aside0 (Kd.N (Kd.slice 61 k61) 57 wc w.heap.size (fun k_ => some k_ ≠ ((.slice Ao38 t186.length co38) : Value).ownBlock ∧ k_ ≠ gb161 ∧ k_ ≠ gb162 ∧ k_ ≠ gb163) (.slice Ao34 y179.length co34) y179) ∧ Aside0 (Kd.N (Kd.slice 61 k61) 57 wc w.heap.size (fun k_ => some k_ ≠ ((.slice Ao34 y179.length co34) : Value).ownBlock ∧ k_ ≠ gb161 ∧ k_ ≠ gb162 ∧ k_ ≠ gb163) (.slice Ao38 t186.length co38) t186) ∧ Aside0 (wc.heap[gb161]? = some (.cells #[.int .u8 1, .int .u8 0, .int .u8 0, .int .u8 0, .int .u8 0, .int .u8 0, .int .u8 0, .int .u8 0] 59 (0, 0))) ∧ Aside0 (wc.heap[gb162]? = some (.cells #[.int .u8 2, .int .u8 0, .int .u8 0, .int .u8 0, .int .u8 0, .int .u8 0, .int .u8 0, .int .u8 0] 59 (0, 0))) ∧ Aside0 (wc.heap[gb163]? = some (.cells #[.int .u8 3, .int .u8 0, .int .u8 0, .int .u8 0, .int .u8 0, .int .u8 0, .int .u8 0, .int .u8 0] 59 (0, 0))) ∧ Aside0 (Below w.heap.size w wc))
  case first =>
    have H := HC5.out
    clear HC5
    by_cases c41 : (wrap64 ((wrap64 ((wrap64 (t183 + t187)) + t191)) + t193)) = 0
    · rw [if_pos c41] at H
      have c41b0 : ((wrap64 ((wrap64 ((wrap64 (t183 + t187)) + t191)) + t193)) == 0) = true := beq_iff_eq.mpr c41
      have c41b1 : ((wrap64 ((wrap64 ((wrap64 (t183 + t187)) + t191)) + t193)) != 0) = false := bne_eq_false_iff_eq.mpr c41
      clear c41
      (first | rw [c41b0] | (simp only [i64_w, i32_w]; rw [c41b0]) | skip)
      obtain ⟨y194, hy194⟩ : ∃ y_ : List (S59), y_ = (([(⟨1, 0, 0, 0, 0, 0, 0, 0⟩ : S59), (⟨2, 0, 0, 0, 0, 0, 0, 0⟩ : S59)] : List (S59))) := ⟨_, rfl⟩
      replace H : ((standbyref22_Same.f k t182 (([(⟨0, 0, y194⟩ : S66), (⟨0, 4, (([(⟨3, 0, 0, 0, 0, 0, 0, 0⟩ : S59)] : List (S59)))⟩ : S66)] : List (S66)))).bind fun t203 => (standbylaw45_awake.j0 k y179 t186 t190 t192 (!t203))) = some r := by first | (rw [hy194]; with_reducible exact H) | (have H2_ := (Option.bind_some _ _).symm.trans H; rw [hy194]; with_reducible exact H2_) | (have H2_ := (Option.bind_some _ _).symm.trans H; with_reducible exact H2_) | with_reducible exact H | (rw [hy194]; exact H) | exact H
      have Ny194 := Aside0.mk hy194
      clear hy194
      obtain ⟨y197, hy197⟩ : ∃ y_ : List (S59), y_ = (([(⟨3, 0, 0, 0, 0, 0, 0, 0⟩ : S59)] : List (S59))) := ⟨_, rfl⟩
      replace H : ((standbyref22_Same.f k t182 (([(⟨0, 0, y194⟩ : S66), (⟨0, 4, y197⟩ : S66)] : List (S66)))).bind fun t203 => (standbylaw45_awake.j0 k y179 t186 t190 t192 (!t203))) = some r := by first | (rw [hy197]; with_reducible exact H) | (have H2_ := (Option.bind_some _ _).symm.trans H; rw [hy197]; with_reducible exact H2_) | (have H2_ := (Option.bind_some _ _).symm.trans H; with_reducible exact H2_) | with_reducible exact H | (rw [hy197]; exact H) | exact H
      have Ny197 := Aside0.mk hy197
      clear hy197
      obtain ⟨y200, hy200⟩ : ∃ y_ : List (S66), y_ = (([(⟨0, 0, y194⟩ : S66), (⟨0, 4, y197⟩ : S66)] : List (S66))) := ⟨_, rfl⟩
      replace H : ((standbyref22_Same.f k t182 y200).bind fun t203 => (standbylaw45_awake.j0 k y179 t186 t190 t192 (!t203))) = some r := by first | (rw [hy200]; with_reducible exact H) | (have H2_ := (Option.bind_some _ _).symm.trans H; rw [hy200]; with_reducible exact H2_) | (have H2_ := (Option.bind_some _ _).symm.trans H; with_reducible exact H2_) | with_reducible exact H | (rw [hy200]; exact H) | exact H
      have Ny200 := Aside0.mk hy200
      clear hy200
      replace H := Option.bind_eq_some_iff.mp H
      obtain ⟨t203, A420, H⟩ := H
      replace H : (standbylaw45_awake.j0 k y179 t186 t190 t192 (!t203)) = some r := H
      have A42 := Aside0.mk A420
      clear A420
      have H' := Aside0.mk H
      clear H
      have hnb43 := NB161_162.out
      have hnc43 := NB162_161.out
      have hnb44 := NB161_163.out
      have hnc44 := NB163_161.out
      obtain ⟨⟨hcz45_0, hcz45_1, hcz45_2, hcz45_3, hcz45_4, hcz45_5, hcz45_6, hcz45_7⟩, hfz45_0, hfz45_1, hfz45_2, hfz45_3, hfz45_4, hfz45_5, hfz45_6, hfz45_7⟩ := zc8 BK161
      have hnb46 := NB162_163.out
      have hnc46 := NB163_162.out
      obtain ⟨⟨hcz47_0, hcz47_1, hcz47_2, hcz47_3, hcz47_4, hcz47_5, hcz47_6, hcz47_7⟩, hfz47_0, hfz47_1, hfz47_2, hfz47_3, hfz47_4, hfz47_5, hfz47_6, hfz47_7⟩ := zc8 BK162
      go_wp2_with (first | ((with_reducible refine gate_dst (N := 75) rfl ?_); (try (refine gate_guard (by rfl) ?_; dsimp only)); refine Kd.R_lit k59 _ 59 ?hg (N := 75) ?hd (xs := ([(⟨1, 0, 0, 0, 0, 0, 0, 0⟩ : S59), (⟨2, 0, 0, 0, 0, 0, 0, 0⟩ : S59)] : List (S59))) (inner := [.int .u8 1, .int .u8 0, .int .u8 0, .int .u8 0, .int .u8 0, .int .u8 0, .int .u8 0, .int .u8 0, .int .u8 2, .int .u8 0, .int .u8 0, .int .u8 0, .int .u8 0, .int .u8 0, .int .u8 0, .int .u8 0]) (ok := fun _ => True) (okp := fun _ => True) ?hr ?hp (fun _ hk => hk) trivial (Below.refl _ _) (Nat.le_refl _) (by simp) ?_; (case hd => rfl); (case hg => rfl); (case hr => first | (go_simp; done) | (go_simp; rfl)); (case hp => exact (Reps.c8 (show Kd.M k59 _ _ _ (⟨1, 0, 0, 0, 0, 0, 0, 0⟩ : S59) [.int .u8 1, .int .u8 0, .int .u8 0, .int .u8 0, .int .u8 0, .int .u8 0, .int .u8 0, .int .u8 0] from (k59_mkM _ _ _ (⟨1, 0, 0, 0, 0, 0, 0, 0⟩ : S59) )) (Reps.c8 (show Kd.M k59 _ _ _ (⟨2, 0, 0, 0, 0, 0, 0, 0⟩ : S59) [.int .u8 2, .int .u8 0, .int .u8 0, .int .u8 0, .int .u8 0, .int .u8 0, .int .u8 0, .int .u8 0] from (k59_mkM _ _ _ (⟨2, 0, 0, 0, 0, 0, 0, 0⟩ : S59) )) (Reps.none _ _)))); intro v195 w48 ho49 hb hg_ hnew_; clear hg_ hnew_; (first | rw [← Ny194.out] at ho49 | (simp only [Int.reduceToNat] at ho49; rw [← Ny194.out] at ho49)); have HO196 := Aside0.mk (Kd.R_lower (Kd.R_newB (Kd.R_newB (Kd.R_newB ho49 (g := gb161) (o := .cells #[.int .u8 1, .int .u8 0, .int .u8 0, .int .u8 0, .int .u8 0, .int .u8 0, .int .u8 0, .int .u8 0] 59 (0, 0)) (zk BK161)) (g := gb162) (o := .cells #[.int .u8 2, .int .u8 0, .int .u8 0, .int .u8 0, .int .u8 0, .int .u8 0, .int .u8 0, .int .u8 0] 59 (0, 0)) (zk BK162)) (g := gb163) (o := .cells #[.int .u8 3, .int .u8 0, .int .u8 0, .int .u8 0, .int .u8 0, .int .u8 0, .int .u8 0, .int .u8 0] 59 (0, 0)) (zk BK163)) (below_size (zb HB))); replace HO169 := Aside0.mk (Kd.N_elder' (zn HO169.out) (Kd.R_base ho49) hb); replace HO175 := Aside0.mk (Kd.N_elder' (zn HO175.out) (Kd.R_base ho49) hb); replace HO181 := Aside0.mk (Kd.N_elder' (zn HO181.out) (Kd.R_base ho49) hb); replace HO185 := Aside0.mk (Kd.N_elder' (zn HO185.out) (Kd.R_base ho49) hb); replace HO189 := Aside0.mk (Kd.N_elder' (zn HO189.out) (Kd.R_base ho49) hb); replace BK161 := Aside0.mk (blk_below (zk BK161) hb); replace BK162 := Aside0.mk (blk_below (zk BK162) hb); replace BK163 := Aside0.mk (blk_below (zk BK163) hb); replace HB := Aside0.mk (below_step (zb HB) hb); clear hb ho49; obtain ⟨Ao50, co50, eo50⟩ := Kd.R_slice HO196.out; subst eo50; obtain ⟨⟨hcz51_0, hcz51_1, hcz51_2, hcz51_3, hcz51_4, hcz51_5, hcz51_6, hcz51_7⟩, hfz51_0, hfz51_1, hfz51_2, hfz51_3, hfz51_4, hfz51_5, hfz51_6, hfz51_7⟩ := zc8 BK163) | ((with_reducible refine gate_dst (N := 78) rfl ?_); (try (refine gate_guard (by rfl) ?_; dsimp only)); refine Kd.R_lit k59 _ 59 ?hg (N := 78) ?hd (xs := ([(⟨3, 0, 0, 0, 0, 0, 0, 0⟩ : S59)] : List (S59))) (inner := [.int .u8 3, .int .u8 0, .int .u8 0, .int .u8 0, .int .u8 0, .int .u8 0, .int .u8 0, .int .u8 0]) (ok := fun _ => True) (okp := fun _ => True) ?hr ?hp (fun _ hk => hk) trivial (Below.refl _ _) (Nat.le_refl _) (by simp) ?_; (case hd => rfl); (case hg => rfl); (case hr => first | (go_simp; done) | (go_simp; rfl)); (case hp => exact (Reps.c8 (show Kd.M k59 _ _ _ (⟨3, 0, 0, 0, 0, 0, 0, 0⟩ : S59) [.int .u8 3, .int .u8 0, .int .u8 0, .int .u8 0, .int .u8 0, .int .u8 0, .int .u8 0, .int .u8 0] from (k59_mkM _ _ _ (⟨3, 0, 0, 0, 0, 0, 0, 0⟩ : S59) )) (Reps.none _ _))); intro v198 w52 ho53 hb hg_ hnew_; clear hg_ hnew_; (first | rw [← Ny197.out] at ho53 | (simp only [Int.reduceToNat] at ho53; rw [← Ny197.out] at ho53)); have HO199 := Aside0.mk (Kd.R_lower (Kd.R_newB (Kd.R_newB (Kd.R_newB (Kd.R_new' ho53 (Kd.R_lt (zr HO196.out))) (g := gb161) (o := .cells #[.int .u8 1, .int .u8 0, .int .u8 0, .int .u8 0, .int .u8 0, .int .u8 0, .int .u8 0, .int .u8 0] 59 (0, 0)) (zk BK161)) (g := gb162) (o := .cells #[.int .u8 2, .int .u8 0, .int .u8 0, .int .u8 0, .int .u8 0, .int .u8 0, .int .u8 0, .int .u8 0] 59 (0, 0)) (zk BK162)) (g := gb163) (o := .cells #[.int .u8 3, .int .u8 0, .int .u8 0, .int .u8 0, .int .u8 0, .int .u8 0, .int .u8 0, .int .u8 0] 59 (0, 0)) (zk BK163)) (below_size (zb HB))); replace HO169 := Aside0.mk (Kd.N_elder' (zn HO169.out) (Kd.R_base ho53) hb); replace HO175 := Aside0.mk (Kd.N_elder' (zn HO175.out) (Kd.R_base ho53) hb); replace HO181 := Aside0.mk (Kd.N_elder' (zn HO181.out) (Kd.R_base ho53) hb); replace HO185 := Aside0.mk (Kd.N_elder' (zn HO185.out) (Kd.R_base ho53) hb); replace HO189 := Aside0.mk (Kd.N_elder' (zn HO189.out) (Kd.R_base ho53) hb); replace HO196 := Aside0.mk (Kd.R_elder' (zr HO196.out) (Kd.R_base ho53) hb); replace BK161 := Aside0.mk (blk_below (zk BK161) hb); replace BK162 := Aside0.mk (blk_below (zk BK162) hb); replace BK163 := Aside0.mk (blk_below (zk BK163) hb); replace HB := Aside0.mk (below_step (zb HB) hb); clear hb ho53; obtain ⟨Ao54, co54, eo54⟩ := Kd.R_slice HO199.out; subst eo54) | ((with_reducible refine gate_dst (N := 80) rfl ?_); (try (refine gate_guard (by rfl) ?_; dsimp only)); refine Kd.N_lit k66 _ 66 ?hg (N' := 80) ?hd (xs := ([(⟨0, 0, y194⟩ : S66), (⟨0, 4, y197⟩ : S66)] : List (S66))) (inner := [.int .i64 0, .int .i64 0, .slice Ao50 y194.length co50, .int .i64 0, .int .i64 4, .slice Ao54 y197.length co54]) (ok := (fun k_ => some k_ ≠ (.slice Ao33 y167.length co33 : Value).ownBlock ∧ some k_ ≠ (.slice Ao36 y173.length co36 : Value).ownBlock ∧ some k_ ≠ (.slice Ao34 y179.length co34 : Value).ownBlock ∧ some k_ ≠ (v184 : Value).ownBlock ∧ some k_ ≠ (.slice Ao38 t186.length co38 : Value).ownBlock ∧ k_ ≠ gb161 ∧ k_ ≠ gb162 ∧ k_ ≠ gb163)) (okp := (fun k_ => some k_ ≠ (.slice Ao33 y167.length co33 : Value).ownBlock ∧ some k_ ≠ (.slice Ao36 y173.length co36 : Value).ownBlock ∧ some k_ ≠ (.slice Ao34 y179.length co34 : Value).ownBlock ∧ some k_ ≠ (v184 : Value).ownBlock ∧ some k_ ≠ (.slice Ao38 t186.length co38 : Value).ownBlock ∧ k_ ≠ gb161 ∧ k_ ≠ gb162 ∧ k_ ≠ gb163)) ?hr ?hp (fun _ hk => hk) ((show ∀ k_, w52.heap.size ≤ k_ → (fun k_ => some k_ ≠ (.slice Ao33 y167.length co33 : Value).ownBlock ∧ some k_ ≠ (.slice Ao36 y173.length co36 : Value).ownBlock ∧ some k_ ≠ (.slice Ao34 y179.length co34 : Value).ownBlock ∧ some k_ ≠ (v184 : Value).ownBlock ∧ some k_ ≠ (.slice Ao38 t186.length co38 : Value).ownBlock ∧ k_ ≠ gb161 ∧ k_ ≠ gb162 ∧ k_ ≠ gb163) k_ from fun k_ hk => ⟨Kd.fresh' (Kd.N_lt (zn HO169.out)) k_ hk, Kd.fresh' (Kd.N_lt (zn HO175.out)) k_ hk, Kd.fresh' (Kd.N_lt (zn HO181.out)) k_ hk, Kd.fresh' (Kd.N_lt (zn HO185.out)) k_ hk, Kd.fresh' (Kd.N_lt (zn HO189.out)) k_ hk, Kd.freshB (g := gb161) (o := .cells #[.int .u8 1, .int .u8 0, .int .u8 0, .int .u8 0, .int .u8 0, .int .u8 0, .int .u8 0, .int .u8 0] 59 (0, 0)) (zk BK161) k_ hk, Kd.freshB (g := gb162) (o := .cells #[.int .u8 2, .int .u8 0, .int .u8 0, .int .u8 0, .int .u8 0, .int .u8 0, .int .u8 0, .int .u8 0] 59 (0, 0)) (zk BK162) k_ hk, Kd.freshB (g := gb163) (o := .cells #[.int .u8 3, .int .u8 0, .int .u8 0, .int .u8 0, .int .u8 0, .int .u8 0, .int .u8 0, .int .u8 0] 59 (0, 0)) (zk BK163) k_ hk⟩) _ (Nat.le_refl _)) (Below.refl _ _) (Nat.le_refl _) (by simp) ?_; (case hd => rfl); (case hg => rfl); (case hr => first | (go_simp; done) | (go_simp; rfl)); (case hp => exact (Reps.c3 (show Kd.FK k66 _ _ (⟨0, 0, y194⟩ : S66) [.int .i64 0, .int .i64 0, .slice Ao50 y194.length co50] from (k66_mkF _ _ (⟨0, 0, y194⟩ : S66) (Kd.R_reads' (Kd.R_mono (ok' := (fun k_ => some k_ ≠ (.slice Ao33 y167.length co33 : Value).ownBlock ∧ some k_ ≠ (.slice Ao36 y173.length co36 : Value).ownBlock ∧ some k_ ≠ (.slice Ao34 y179.length co34 : Value).ownBlock ∧ some k_ ≠ (v184 : Value).ownBlock ∧ some k_ ≠ (.slice Ao38 t186.length co38 : Value).ownBlock ∧ k_ ≠ gb161 ∧ k_ ≠ gb162 ∧ k_ ≠ gb163)) (Kd.R_apart' (Kd.R_apart' (Kd.R_apart' (Kd.R_apart' (Kd.R_apart' (HO196.out) (Kd.N_typed HO169.out) (by decide)) (Kd.N_typed HO175.out) (by decide)) (Kd.N_typed HO181.out) (by decide)) (Kd.N_typed HO185.out) (by decide)) (Kd.N_typed HO189.out) (by decide)) (fun k_ hk => ⟨hk.1.1.1.1.2, ⟨hk.1.1.1.2, ⟨hk.1.1.2, ⟨hk.1.2, ⟨hk.2, ⟨hk.1.1.1.1.1.1.1.1.2, ⟨hk.1.1.1.1.1.1.1.2, hk.1.1.1.1.1.1.2⟩⟩⟩⟩⟩⟩⟩))).2.1 (Kd.R_F (Kd.R_mono (ok' := (fun k_ => some k_ ≠ (.slice Ao33 y167.length co33 : Value).ownBlock ∧ some k_ ≠ (.slice Ao36 y173.length co36 : Value).ownBlock ∧ some k_ ≠ (.slice Ao34 y179.length co34 : Value).ownBlock ∧ some k_ ≠ (v184 : Value).ownBlock ∧ some k_ ≠ (.slice Ao38 t186.length co38 : Value).ownBlock ∧ k_ ≠ gb161 ∧ k_ ≠ gb162 ∧ k_ ≠ gb163)) (Kd.R_apart' (Kd.R_apart' (Kd.R_apart' (Kd.R_apart' (Kd.R_apart' (HO196.out) (Kd.N_typed HO169.out) (by decide)) (Kd.N_typed HO175.out) (by decide)) (Kd.N_typed HO181.out) (by decide)) (Kd.N_typed HO185.out) (by decide)) (Kd.N_typed HO189.out) (by decide)) (fun k_ hk => ⟨hk.1.1.1.1.2, ⟨hk.1.1.1.2, ⟨hk.1.1.2, ⟨hk.1.2, ⟨hk.2, ⟨hk.1.1.1.1.1.1.1.1.2, ⟨hk.1.1.1.1.1.1.1.2, hk.1.1.1.1.1.1.2⟩⟩⟩⟩⟩⟩⟩))))) (Reps.c3 (show Kd.FK k66 _ _ (⟨0, 4, y197⟩ : S66) [.int .i64 0, .int .i64 4, .slice Ao54 y197.length co54] from (k66_mkF _ _ (⟨0, 4, y197⟩ : S66) (Kd.R_reads' (Kd.R_mono (ok' := (fun k_ => some k_ ≠ (.slice Ao33 y167.length co33 : Value).ownBlock ∧ some k_ ≠ (.slice Ao36 y173.length co36 : Value).ownBlock ∧ some k_ ≠ (.slice Ao34 y179.length co34 : Value).ownBlock ∧ some k_ ≠ (v184 : Value).ownBlock ∧ some k_ ≠ (.slice Ao38 t186.length co38 : Value).ownBlock ∧ k_ ≠ gb161 ∧ k_ ≠ gb162 ∧ k_ ≠ gb163)) (Kd.R_apart' (Kd.R_apart' (Kd.R_apart' (Kd.R_apart' (Kd.R_apart' (HO199.out) (Kd.N_typed HO169.out) (by decide)) (Kd.N_typed HO175.out) (by decide)) (Kd.N_typed HO181.out) (by decide)) (Kd.N_typed HO185.out) (by decide)) (Kd.N_typed HO189.out) (by decide)) (fun k_ hk => ⟨hk.1.1.1.1.2, ⟨hk.1.1.1.2, ⟨hk.1.1.2, ⟨hk.1.2, ⟨hk.2, ⟨hk.1.1.1.1.1.1.1.2, ⟨hk.1.1.1.1.1.1.2, hk.1.1.1.1.1.2⟩⟩⟩⟩⟩⟩⟩))).2.1 (Kd.R_F (Kd.R_mono (ok' := (fun k_ => some k_ ≠ (.slice Ao33 y167.length co33 : Value).ownBlock ∧ some k_ ≠ (.slice Ao36 y173.length co36 : Value).ownBlock ∧ some k_ ≠ (.slice Ao34 y179.length co34 : Value).ownBlock ∧ some k_ ≠ (v184 : Value).ownBlock ∧ some k_ ≠ (.slice Ao38 t186.length co38 : Value).ownBlock ∧ k_ ≠ gb161 ∧ k_ ≠ gb162 ∧ k_ ≠ gb163)) (Kd.R_apart' (Kd.R_apart' (Kd.R_apart' (Kd.R_apart' (Kd.R_apart' (HO199.out) (Kd.N_typed HO169.out) (by decide)) (Kd.N_typed HO175.out) (by decide)) (Kd.N_typed HO181.out) (by decide)) (Kd.N_typed HO185.out) (by decide)) (Kd.N_typed HO189.out) (by decide)) (fun k_ hk => ⟨hk.1.1.1.1.2, ⟨hk.1.1.1.2, ⟨hk.1.1.2, ⟨hk.1.2, ⟨hk.2, ⟨hk.1.1.1.1.1.1.1.2, ⟨hk.1.1.1.1.1.1.2, hk.1.1.1.1.1.2⟩⟩⟩⟩⟩⟩⟩))))) (Reps.none _ _)))); intro v201 w55 ho56 hb hg_ hnew_; clear hg_ hnew_; (first | rw [← Ny200.out] at ho56 | (simp only [Int.reduceToNat] at ho56; rw [← Ny200.out] at ho56)); have n0_ := Aside0.mk (Kd.N_elder' (zn HO169.out) (Kd.N_base ho56) hb); have n1_ := Aside0.mk (Kd.N_elder' (zn HO175.out) (Kd.N_base ho56) hb); have n2_ := Aside0.mk (Kd.N_elder' (zn HO181.out) (Kd.N_base ho56) hb); have n3_ := Aside0.mk (Kd.N_elder' (zn HO185.out) (Kd.N_base ho56) hb); have n4_ := Aside0.mk (Kd.N_elder' (zn HO189.out) (Kd.N_base ho56) hb); have n5_ := Aside0.mk (Kd.N_lower ho56 (below_size (zb HB))); have n6_ := Aside0.mk (blk_below (zk BK161) hb); have n7_ := Aside0.mk (blk_below (zk BK162) hb); have n8_ := Aside0.mk (blk_below (zk BK163) hb); have n9_ := Aside0.mk (below_step (zb HB) hb); clear HO169; clear HO175; clear HO181; clear HO185; clear HO189; clear BK161; clear BK162; clear BK163; clear HB; clear HO196; clear HO199; have HO169 := n0_; have HO175 := n1_; have HO181 := n2_; have HO185 := n3_; have HO189 := n4_; have HO202 := n5_; have BK161 := n6_; have BK162 := n7_; have BK163 := n8_; have HB := n9_; clear n0_ n1_ n2_ n3_ n4_ n5_ n6_ n7_ n8_ n9_; clear hb ho56; obtain ⟨Ao57, co57, eo57⟩ := Kd.N_slice HO185.out; subst eo57; obtain ⟨Ao58, co58, eo58⟩ := Kd.N_slice HO202.out; subst eo58) | (go_at_call 12; (with_reducible refine (standbyref22_Same.calls k _ _ t182 _ _ y200 t203 _ ?side1 ?side2 ?side3 ?side4 A42.out).mono ?_); (case side1 => repeat (first | exact (Kd.N_reads' HO185.out).2.2 | (with_reducible refine Kd.C_alloc ?_ _) | (with_reducible refine Kd.C_drewN ?_ _) | (with_reducible refine Kd.C_drew ?_))); (case side2 => exact (Kd.N_reads' HO185.out).2.1); (case side3 => repeat (first | exact (Kd.N_reads' HO202.out).2.2 | (with_reducible refine Kd.C_alloc ?_ _) | (with_reducible refine Kd.C_drewN ?_ _) | (with_reducible refine Kd.C_drew ?_))); (case side4 => exact (Kd.N_reads' HO202.out).2.1); rintro e w59 ⟨rfl, hb⟩; replace HO169 := Aside0.mk (Kd.N_below (zn HO169.out) hb); replace HO175 := Aside0.mk (Kd.N_below (zn HO175.out) hb); replace HO181 := Aside0.mk (Kd.N_below (zn HO181.out) hb); replace HO185 := Aside0.mk (Kd.N_below (zn HO185.out) hb); replace HO189 := Aside0.mk (Kd.N_below (zn HO189.out) hb); replace HO202 := Aside0.mk (Kd.N_below (zn HO202.out) hb); replace BK161 := Aside0.mk (blk_below (zk BK161) hb); replace BK162 := Aside0.mk (blk_below (zk BK162) hb); replace BK163 := Aside0.mk (blk_below (zk BK163) hb); replace HB := Aside0.mk (below_step (zb HB) hb); clear hb))
      go_meet
      case rel => exact ⟨_, (!t203), (by first | rfl | (simp; done) | (simp [*]; done)), H', ⟨by first | omega | exact Nat.le_refl _⟩, ⟨by (with_reducible repeat (first | apply Kd.N_alloc | apply Kd.N_drewN | apply Kd.N_drew)); exact Kd.N_mono HO181.out (fun _ hk => ⟨hk.1.1.1.2, ⟨hk.1.1.1.1.1.2.2.1, ⟨hk.1.1.1.1.1.2.2.2.1, hk.1.1.1.1.1.2.2.2.2⟩⟩⟩)⟩, ⟨by (with_reducible repeat (first | apply Kd.N_alloc | apply Kd.N_drewN | apply Kd.N_drew)); exact Kd.N_mono HO189.out (fun _ hk => ⟨hk.1.1.1.2.2.1, ⟨hk.1.1.1.2.2.2.2.1, ⟨hk.1.1.1.2.2.2.2.2.1, hk.1.1.1.2.2.2.2.2.2⟩⟩⟩)⟩, ⟨by (with_reducible repeat (first | refine blk_drewN ?_ _ | refine blk_drew ?_ | refine blk_alloc ?_ _)); exact BK161.out⟩, ⟨by (with_reducible repeat (first | refine blk_drewN ?_ _ | refine blk_drew ?_ | refine blk_alloc ?_ _)); exact BK162.out⟩, ⟨by (with_reducible repeat (first | refine blk_drewN ?_ _ | refine blk_drew ?_ | refine blk_alloc ?_ _)); exact BK163.out⟩, ⟨zb HB⟩⟩
    · rw [if_neg c41] at H
      have c41b0 : ((wrap64 ((wrap64 ((wrap64 (t183 + t187)) + t191)) + t193)) == 0) = false := beq_eq_false_iff_ne.mpr c41
      have c41b1 : ((wrap64 ((wrap64 ((wrap64 (t183 + t187)) + t191)) + t193)) != 0) = true := bne_iff_ne.mpr c41
      (first | rw [c41b0] | (simp only [i64_w, i32_w]; rw [c41b0]) | skip)
      have H' := Aside0.mk H
      clear H
      go_wp2
      go_meet
      case rel => exact ⟨_, (true), (by first | rfl | (simp; done) | (simp [*]; done)), H', ⟨by first | omega | exact Nat.le_refl _⟩, ⟨by (with_reducible repeat (first | apply Kd.N_alloc | apply Kd.N_drewN | apply Kd.N_drew)); exact Kd.N_mono HO181.out (fun _ hk => ⟨hk.2, ⟨hk.1.1.2.2.1, ⟨hk.1.1.2.2.2.1, hk.1.1.2.2.2.2⟩⟩⟩)⟩, ⟨by (with_reducible repeat (first | apply Kd.N_alloc | apply Kd.N_drewN | apply Kd.N_drew)); exact Kd.N_mono HO189.out (fun _ hk => ⟨hk.2.2.1, ⟨hk.2.2.2.2.1, ⟨hk.2.2.2.2.2.1, hk.2.2.2.2.2.2⟩⟩⟩)⟩, ⟨by (with_reducible repeat (first | refine blk_drewN ?_ _ | refine blk_drew ?_ | refine blk_alloc ?_ _)); exact BK161.out⟩, ⟨by (with_reducible repeat (first | refine blk_drewN ?_ _ | refine blk_drew ?_ | refine blk_alloc ?_ _)); exact BK162.out⟩, ⟨by (with_reducible repeat (first | refine blk_drewN ?_ _ | refine blk_drew ?_ | refine blk_alloc ?_ _)); exact BK163.out⟩, ⟨zb HB⟩⟩
  case rest =>
    clear HC5
    try clear c1
    try clear c2
    try clear p2
    try clear c3
    try clear c4
    try clear c5
    try clear c6
    try clear p6
    try clear c7
    try clear c8
    try clear c9
    try clear c10
    try clear c12
    try clear c20
    try clear c21
    try clear c41
    try clear c41b0
    try clear c41b1
    try clear c43
    try clear c44
    try clear c46
    try clear hcz11_0
    try clear hcz11_1
    try clear hcz11_2
    try clear hcz11_3
    try clear hcz11_4
    try clear hcz11_5
    try clear hcz11_6
    try clear hcz11_7
    try clear hcz13_0
    try clear hcz13_1
    try clear hcz13_2
    try clear hcz13_3
    try clear hcz13_4
    try clear hcz13_5
    try clear hcz13_6
    try clear hcz13_7
    try clear hcz14_0
    try clear hcz14_1
    try clear hcz14_2
    try clear hcz14_3
    try clear hcz14_4
    try clear hcz14_5
    try clear hcz14_6
    try clear hcz14_7
    try clear hcz45_0
    try clear hcz45_1
    try clear hcz45_2
    try clear hcz45_3
    try clear hcz45_4
    try clear hcz45_5
    try clear hcz45_6
    try clear hcz45_7
    try clear hcz47_0
    try clear hcz47_1
    try clear hcz47_2
    try clear hcz47_3
    try clear hcz47_4
    try clear hcz47_5
    try clear hcz47_6
    try clear hcz47_7
    try clear hcz51_0
    try clear hcz51_1
    try clear hcz51_2
    try clear hcz51_3
    try clear hcz51_4
    try clear hcz51_5
    try clear hcz51_6
    try clear hcz51_7
    try clear hfz11_0
    try clear hfz11_1
    try clear hfz11_2
    try clear hfz11_3
    try clear hfz11_4
    try clear hfz11_5
    try clear hfz11_6
    try clear hfz11_7
    try clear hfz13_0
    try clear hfz13_1
    try clear hfz13_2
    try clear hfz13_3
    try clear hfz13_4
    try clear hfz13_5
    try clear hfz13_6
    try clear hfz13_7
    try clear hfz14_0
    try clear hfz14_1
    try clear hfz14_2
    try clear hfz14_3
    try clear hfz14_4
    try clear hfz14_5
    try clear hfz14_6
    try clear hfz14_7
    try clear hfz45_0
    try clear hfz45_1
    try clear hfz45_2
    try clear hfz45_3
    try clear hfz45_4
    try clear hfz45_5
    try clear hfz45_6
    try clear hfz45_7
    try clear hfz47_0
    try clear hfz47_1
    try clear hfz47_2
    try clear hfz47_3
    try clear hfz47_4
    try clear hfz47_5
    try clear hfz47_6
    try clear hfz47_7
    try clear hfz51_0
    try clear hfz51_1
    try clear hfz51_2
    try clear hfz51_3
    try clear hfz51_4
    try clear hfz51_5
    try clear hfz51_6
    try clear hfz51_7
    obtain ⟨kq, x83_4, rfl, HA, HJ4, HO_6, HO_9, BK161, BK162, BK163, HB⟩ := hcut
    cases kq with
    | zero => exact absurd HA.out (by simp [standbylaw45_awake.j0])
    | succ kj4 =>
      have H := HA.out
      clear HA
      simp only [standbylaw45_awake.j0] at H
      by_cases c60 : x83_4 = true
      · subst c60
        have H1 : (some false) = some r := by rw [if_pos rfl] at H; exact H
        exact absurd ((Option.some.inj H1).trans hr_) (by decide)
      · replace c60 := Bool.eq_false_iff.mpr c60
        subst c60
        have H1 : ((standbyref36_SameExtents.f kj4 t186 (([(([(⟨0, 1⟩ : S61), (⟨4, 1⟩ : S61)] : List (S61)))] : List (List (S61))))).bind fun t210 => (if t210 = true then (if t190 = true then (if t192 = true then (some false) else ((resync_Cost.f y179).bind fun t211 => (if t211 = 3 then ((resync_Cost.f t186).bind fun t212 => (some (t212 == 2))) else (some false)))) else (some false)) else (some false))) = some r := by rw [if_neg (show ¬ (false = true) by decide)] at H; exact H
        clear H
        have H := H1
        clear H1
        obtain ⟨y204, hy204⟩ : ∃ y_ : List (S61), y_ = (([(⟨0, 1⟩ : S61), (⟨4, 1⟩ : S61)] : List (S61))) := ⟨_, rfl⟩
        replace H : ((standbyref36_SameExtents.f kj4 t186 (([y204] : List (List (S61))))).bind fun t210 => (if t210 = true then (if t190 = true then (if t192 = true then (some false) else ((resync_Cost.f y179).bind fun t211 => (if t211 = 3 then ((resync_Cost.f t186).bind fun t212 => (some (t212 == 2))) else (some false)))) else (some false)) else (some false))) = some r := by first | (rw [hy204]; with_reducible exact H) | (have H2_ := (Option.bind_some _ _).symm.trans H; rw [hy204]; with_reducible exact H2_) | (have H2_ := (Option.bind_some _ _).symm.trans H; with_reducible exact H2_) | with_reducible exact H | (rw [hy204]; exact H) | exact H
        have Ny204 := Aside0.mk hy204
        clear hy204
        obtain ⟨y207, hy207⟩ : ∃ y_ : List (List (S61)), y_ = (([y204] : List (List (S61)))) := ⟨_, rfl⟩
        replace H : ((standbyref36_SameExtents.f kj4 t186 y207).bind fun t210 => (if t210 = true then (if t190 = true then (if t192 = true then (some false) else ((resync_Cost.f y179).bind fun t211 => (if t211 = 3 then ((resync_Cost.f t186).bind fun t212 => (some (t212 == 2))) else (some false)))) else (some false)) else (some false))) = some r := by first | (rw [hy207]; with_reducible exact H) | (have H2_ := (Option.bind_some _ _).symm.trans H; rw [hy207]; with_reducible exact H2_) | (have H2_ := (Option.bind_some _ _).symm.trans H; with_reducible exact H2_) | with_reducible exact H | (rw [hy207]; exact H) | exact H
        have Ny207 := Aside0.mk hy207
        clear hy207
        replace H := Option.bind_eq_some_iff.mp H
        obtain ⟨t210, A610, H⟩ := H
        replace H : (if t210 = true then (if t190 = true then (if t192 = true then (some false) else ((resync_Cost.f y179).bind fun t211 => (if t211 = 3 then ((resync_Cost.f t186).bind fun t212 => (some (t212 == 2))) else (some false)))) else (some false)) else (some false)) = some r := H
        have A61 := Aside0.mk A610
        clear A610
        by_cases c62 : t210 = true
        · subst c62
          have H1 : (if t190 = true then (if t192 = true then (some false) else ((resync_Cost.f y179).bind fun t211 => (if t211 = 3 then ((resync_Cost.f t186).bind fun t212 => (some (t212 == 2))) else (some false)))) else (some false)) = some r := by rw [if_pos rfl] at H; exact H
          clear H
          have H := H1
          clear H1
          by_cases c63 : t190 = true
          · subst c63
            have H1 : (if t192 = true then (some false) else ((resync_Cost.f y179).bind fun t211 => (if t211 = 3 then ((resync_Cost.f t186).bind fun t212 => (some (t212 == 2))) else (some false)))) = some r := by rw [if_pos rfl] at H; exact H
            clear H
            have H := H1
            clear H1
            by_cases c64 : t192 = true
            · subst c64
              have H1 : (some false) = some r := by rw [if_pos rfl] at H; exact H
              exact absurd ((Option.some.inj H1).trans hr_) (by decide)
            · replace c64 := Bool.eq_false_iff.mpr c64
              subst c64
              have H1 : ((resync_Cost.f y179).bind fun t211 => (if t211 = 3 then ((resync_Cost.f t186).bind fun t212 => (some (t212 == 2))) else (some false))) = some r := by rw [if_neg (show ¬ (false = true) by decide)] at H; exact H
              clear H
              have H := H1
              clear H1
              replace H := Option.bind_eq_some_iff.mp H
              obtain ⟨t211, A710, H⟩ := H
              replace H : (if t211 = 3 then ((resync_Cost.f t186).bind fun t212 => (some (t212 == 2))) else (some false)) = some r := H
              have A71 := Aside0.mk A710
              clear A710
              by_cases c72 : t211 = 3
              · rw [if_pos c72] at H
                have c72b0 : (t211 == 3) = true := beq_iff_eq.mpr c72
                have c72b1 : (t211 != 3) = false := bne_eq_false_iff_eq.mpr c72
                clear c72
                replace H := Option.bind_eq_some_iff.mp H
                obtain ⟨t212, A730, H⟩ := H
                replace H : (some (t212 == 2)) = some r := H
                have A73 := Aside0.mk A730
                clear A730
                obtain rfl := Option.some.inj H
                go_wp2_with (first | ((with_reducible refine gate_dst (N := 87) rfl ?_); (try (refine gate_guard (by rfl) ?_; dsimp only)); refine Kd.R_lit k61 _ 61 ?hg (N := 87) ?hd (xs := ([(⟨0, 1⟩ : S61), (⟨4, 1⟩ : S61)] : List (S61))) (inner := [.int .i64 0, .int .i64 1, .int .i64 4, .int .i64 1]) (ok := fun _ => True) (okp := fun _ => True) ?hr ?hp (fun _ hk => hk) trivial (Below.refl _ _) (Nat.le_refl _) (by simp) ?_; (case hd => rfl); (case hg => rfl); (case hr => first | (go_simp; done) | (go_simp; rfl)); (case hp => exact (Reps.c2 (show Kd.M k61 _ _ _ (⟨0, 1⟩ : S61) [.int .i64 0, .int .i64 1] from (k61_mkM _ _ _ (⟨0, 1⟩ : S61) )) (Reps.c2 (show Kd.M k61 _ _ _ (⟨4, 1⟩ : S61) [.int .i64 4, .int .i64 1] from (k61_mkM _ _ _ (⟨4, 1⟩ : S61) )) (Reps.none _ _)))); intro v205 w74 ho75 hb hg_ hnew_; clear hg_ hnew_; (first | rw [← Ny204.out] at ho75 | (simp only [Int.reduceToNat] at ho75; rw [← Ny204.out] at ho75)); have HO206 := Aside0.mk (Kd.R_lower ho75 (below_size (zb HB))); replace HO_6 := Aside0.mk (Kd.N_elder' (zn HO_6.out) (Kd.R_base ho75) hb); replace HO_9 := Aside0.mk (Kd.N_elder' (zn HO_9.out) (Kd.R_base ho75) hb); replace BK161 := Aside0.mk (blk_below (zk BK161) hb); replace BK162 := Aside0.mk (blk_below (zk BK162) hb); replace BK163 := Aside0.mk (blk_below (zk BK163) hb); replace HB := Aside0.mk (below_step (zb HB) hb); clear hb ho75; obtain ⟨Ao76, co76, eo76⟩ := Kd.R_slice HO206.out; subst eo76) | ((with_reducible refine gate_dst (N := 88) rfl ?_); (try (refine gate_guard (by rfl) ?_; dsimp only)); refine Kd.N_lit (Kd.slice 61 k61) _ 57 ?hg (N' := 88) ?hd (xs := ([y204] : List (List (S61)))) (inner := [.slice Ao76 y204.length co76]) (ok := (fun k_ => some k_ ≠ (.slice Ao34 y179.length co34 : Value).ownBlock ∧ some k_ ≠ (.slice Ao38 t186.length co38 : Value).ownBlock ∧ k_ ≠ gb161 ∧ k_ ≠ gb162 ∧ k_ ≠ gb163)) (okp := (fun k_ => some k_ ≠ (.slice Ao34 y179.length co34 : Value).ownBlock ∧ some k_ ≠ (.slice Ao38 t186.length co38 : Value).ownBlock ∧ k_ ≠ gb161 ∧ k_ ≠ gb162 ∧ k_ ≠ gb163)) ?hr ?hp (fun _ hk => hk) ((show ∀ k_, w74.heap.size ≤ k_ → (fun k_ => some k_ ≠ (.slice Ao34 y179.length co34 : Value).ownBlock ∧ some k_ ≠ (.slice Ao38 t186.length co38 : Value).ownBlock ∧ k_ ≠ gb161 ∧ k_ ≠ gb162 ∧ k_ ≠ gb163) k_ from fun k_ hk => ⟨Kd.fresh' (Kd.N_lt (zn HO_6.out)) k_ hk, Kd.fresh' (Kd.N_lt (zn HO_9.out)) k_ hk, Kd.freshB (g := gb161) (o := .cells #[.int .u8 1, .int .u8 0, .int .u8 0, .int .u8 0, .int .u8 0, .int .u8 0, .int .u8 0, .int .u8 0] 59 (0, 0)) (zk BK161) k_ hk, Kd.freshB (g := gb162) (o := .cells #[.int .u8 2, .int .u8 0, .int .u8 0, .int .u8 0, .int .u8 0, .int .u8 0, .int .u8 0, .int .u8 0] 59 (0, 0)) (zk BK162) k_ hk, Kd.freshB (g := gb163) (o := .cells #[.int .u8 3, .int .u8 0, .int .u8 0, .int .u8 0, .int .u8 0, .int .u8 0, .int .u8 0, .int .u8 0] 59 (0, 0)) (zk BK163) k_ hk⟩) _ (Nat.le_refl _)) (Below.refl _ _) (Nat.le_refl _) (by simp) ?_; (case hd => rfl); (case hg => rfl); (case hr => first | (go_simp; done) | (go_simp; rfl)); (case hp => exact (Reps.one (show Kd.FK (Kd.slice 61 k61) _ _ y204 [.slice Ao76 y204.length co76] from (Kd.FK_slice_mk (Kd.R_reads' (Kd.R_mono (ok' := (fun k_ => some k_ ≠ (.slice Ao34 y179.length co34 : Value).ownBlock ∧ some k_ ≠ (.slice Ao38 t186.length co38 : Value).ownBlock ∧ k_ ≠ gb161 ∧ k_ ≠ gb162 ∧ k_ ≠ gb163)) (Kd.R_types (Kd.R_types (Kd.R_types (Kd.R_apart' (Kd.R_apart' (HO206.out) (Kd.N_typed HO_6.out) (by decide)) (Kd.N_typed HO_9.out) (by decide)) BK161.out (by decide)) BK162.out (by decide)) BK163.out (by decide)) (fun k_ hk => ⟨hk.1.1.1.1.2, ⟨hk.1.1.1.2, ⟨hk.1.1.2, ⟨hk.1.2, hk.2⟩⟩⟩⟩))).2.1 (Kd.R_F (Kd.R_mono (ok' := (fun k_ => some k_ ≠ (.slice Ao34 y179.length co34 : Value).ownBlock ∧ some k_ ≠ (.slice Ao38 t186.length co38 : Value).ownBlock ∧ k_ ≠ gb161 ∧ k_ ≠ gb162 ∧ k_ ≠ gb163)) (Kd.R_types (Kd.R_types (Kd.R_types (Kd.R_apart' (Kd.R_apart' (HO206.out) (Kd.N_typed HO_6.out) (by decide)) (Kd.N_typed HO_9.out) (by decide)) BK161.out (by decide)) BK162.out (by decide)) BK163.out (by decide)) (fun k_ hk => ⟨hk.1.1.1.1.2, ⟨hk.1.1.1.2, ⟨hk.1.1.2, ⟨hk.1.2, hk.2⟩⟩⟩⟩))))) (Reps.none _ _))); intro v208 w77 ho78 hb hg_ hnew_; clear hg_ hnew_; (first | rw [← Ny207.out] at ho78 | (simp only [Int.reduceToNat] at ho78; rw [← Ny207.out] at ho78)); have n0_ := Aside0.mk (Kd.N_elder' (zn HO_6.out) (Kd.N_base ho78) hb); have n1_ := Aside0.mk (Kd.N_elder' (zn HO_9.out) (Kd.N_base ho78) hb); have n2_ := Aside0.mk (Kd.N_lower ho78 (below_size (zb HB))); have n3_ := Aside0.mk (blk_below (zk BK161) hb); have n4_ := Aside0.mk (blk_below (zk BK162) hb); have n5_ := Aside0.mk (blk_below (zk BK163) hb); have n6_ := Aside0.mk (below_step (zb HB) hb); clear HO_6; clear HO_9; clear BK161; clear BK162; clear BK163; clear HB; clear HO206; have HO_6 := n0_; have HO_9 := n1_; have HO209 := n2_; have BK161 := n3_; have BK162 := n4_; have BK163 := n5_; have HB := n6_; clear n0_ n1_ n2_ n3_ n4_ n5_ n6_; clear hb ho78; obtain ⟨Ao79, co79, eo79⟩ := Kd.N_slice HO209.out; subst eo79) | ((with_reducible refine gate_callee (f := 22) rfl ?_); refine zG (some 89) Tryz.func22 #[.slice Ao38 t186.length co38, .slice Ao79 y207.length co79] ?_; (with_reducible refine (standbyref36_SameExtents.calls kj4 _ _ t186 _ _ y207 true _ ?side1 ?side2 ?side3 ?side4 A61.out).mono ?_); (case side1 => repeat (first | exact (Kd.N_reads' HO_9.out).2.2 | (with_reducible refine Kd.C_alloc ?_ _) | (with_reducible refine Kd.C_drewN ?_ _) | (with_reducible refine Kd.C_drew ?_))); (case side2 => exact (Kd.N_reads' HO_9.out).2.1); (case side3 => repeat (first | exact (Kd.N_reads' HO209.out).2.2 | (with_reducible refine Kd.C_alloc ?_ _) | (with_reducible refine Kd.C_drewN ?_ _) | (with_reducible refine Kd.C_drew ?_))); (case side4 => exact (Kd.N_reads' HO209.out).2.1); rintro e w' ⟨rfl, ⟨nd, rfl⟩⟩; refine ⟨_, rfl, ?_⟩) | (go_at_call 23; (with_reducible refine (resync_Cost.calls _ _ y179 t211 _ ?side1 ?side2 A71.out).mono ?_); (case side1 => repeat (first | exact (Kd.N_reads' HO_6.out).2.2 | (with_reducible refine Kd.C_alloc ?_ _) | (with_reducible refine Kd.C_drewN ?_ _) | (with_reducible refine Kd.C_drew ?_))); (case side2 => exact (Kd.N_reads' HO_6.out).2.1); rintro e w80 ⟨rfl, hb⟩; replace HO_6 := Aside0.mk (Kd.N_below (zn HO_6.out) hb); replace HO_9 := Aside0.mk (Kd.N_below (zn HO_9.out) hb); replace HO209 := Aside0.mk (Kd.N_below (zn HO209.out) hb); replace BK161 := Aside0.mk (blk_below (zk BK161) hb); replace BK162 := Aside0.mk (blk_below (zk BK162) hb); replace BK163 := Aside0.mk (blk_below (zk BK163) hb); replace HB := Aside0.mk (below_step (zb HB) hb); clear hb) | (go_at_call 23; (with_reducible refine (resync_Cost.calls _ _ t186 t212 _ ?side1 ?side2 A73.out).mono ?_); (case side1 => repeat (first | exact (Kd.N_reads' HO_9.out).2.2 | (with_reducible refine Kd.C_alloc ?_ _) | (with_reducible refine Kd.C_drewN ?_ _) | (with_reducible refine Kd.C_drew ?_))); (case side2 => exact (Kd.N_reads' HO_9.out).2.1); rintro e w81 ⟨rfl, hb⟩; replace HO_6 := Aside0.mk (Kd.N_below (zn HO_6.out) hb); replace HO_9 := Aside0.mk (Kd.N_below (zn HO_9.out) hb); replace HO209 := Aside0.mk (Kd.N_below (zn HO209.out) hb); replace BK161 := Aside0.mk (blk_below (zk BK161) hb); replace BK162 := Aside0.mk (blk_below (zk BK162) hb); replace BK163 := Aside0.mk (blk_below (zk BK163) hb); replace HB := Aside0.mk (below_step (zb HB) hb); clear hb))
                go_ret
                exact ⟨by first | rfl | (simp [errW_none, errW_some] <;> rfl) | (simp [*, errW_none, errW_some] <;> rfl), zb HB⟩
              · rw [if_neg c72] at H
                exact absurd ((Option.some.inj H).trans hr_) (by decide)
          · replace c63 := Bool.eq_false_iff.mpr c63
            subst c63
            have H1 : (some false) = some r := by rw [if_neg (show ¬ (false = true) by decide)] at H; exact H
            exact absurd ((Option.some.inj H1).trans hr_) (by decide)
        · replace c62 := Bool.eq_false_iff.mpr c62
          subst c62
          have H1 : (some false) = some r := by rw [if_neg (show ¬ (false = true) by decide)] at H; exact H
          exact absurd ((Option.some.inj H1).trans hr_) (by decide)
end Go.Proofs.YtdplnbmioioniaaGreat.Pq
end
section
namespace Go.Proofs.YtdplnbmioioniaaGreat.Pq
open Go.RowKit Go.Proofs.YtdplnbmioioniaaGreatW.PrintWords Go.Proofs.YtdplnbmioioniaaGreatW.PrintLast Go.Proofs.YtdplnbmioioniaaGreatW.PrintMore
attribute [local go_sem] max2_int min2_int max_two min_two max_three min_three max_four min_four
set_option linter.unusedVariables false
set_option linter.unusedSimpArgs false
attribute [local go_sem high] eqA59
def standbyref23_SameInts.l0 : Nat → List Int → List Int → Int → Option (Bool)
  | 0, _, _, _ => none
  | k + 1, x0, x1, x5 => if x5 < (x0.length : Int) then (if 0 ≤ x5 then (if x5 < (x1.length : Int) then (if (rd x0 x5) = (rd x1 x5) then (standbyref23_SameInts.l0 k x0 x1 (wrap64 (x5 + 1))) else (some false)) else (none)) else (none)) else (some true)
def standbyref23_SameInts.f (k : Nat) (l0 : List Int) (l1 : List Int) : Option (Bool) := if (l0.length : Int) = (l1.length : Int) then (standbyref23_SameInts.l0 k l0 l1 0) else (some false)
set_option maxHeartbeats 8000000 in
set_option maxRecDepth 100000 in
theorem standbyref23_SameInts.calls (k : Nat) (A0 : Option Addr) (c0 : Nat) (l0 : List Int) (A1 : Option Addr) (c1 : Nat) (l1 : List Int) (r : Bool) (w : World) (hr0 : Kd.C (Kd.int .i64) w A0 l0.length l0) (hc0 : l0.length ≤ c0) (hr1 : Kd.C (Kd.int .i64) w A1 l1.length l1) (hc1 : l1.length ≤ c1) (h : standbyref23_SameInts.f k l0 l1 = some r) :
    Calls Tryz.prog 15 #[.slice A0 l0.length c0, .slice A1 l1.length c1] w fun e w' => e = .returned (.bool r) ∧ Drawn0 w w' := by
  have HR0 := Aside0.mk hr0
  have HC0 := Aside0.mk hc0
  clear hr0 hc0
  have HR1 := Aside0.mk hr1
  have HC1 := Aside0.mk hc1
  clear hr1 hc1
  have H : (if (l0.length : Int) = (l1.length : Int) then (standbyref23_SameInts.l0 k l0 l1 0) else (some false)) = some r := h
  clear h
  by_cases c3 : (l0.length : Int) = (l1.length : Int)
  · rw [if_pos c3] at H
    have c3b0 : ((l0.length : Int) == (l1.length : Int)) = true := beq_iff_eq.mpr c3
    have c3b1 : ((l0.length : Int) != (l1.length : Int)) = false := bne_eq_false_iff_eq.mpr c3
    have c3b2 : (l0.length == l1.length) = true := by first | simpa using c3 | (simp at c3 ⊢; omega)
    clear c3
    have H' := Aside0.mk H
    clear H
    go_enter Tryz.func15, Tryz.ntmps15
    go_wp2
    repeat (go_quiet (fail); try go_wp2)
    go_loopg [5] k (fun kq v5 w' => ∃ (x5_1 : Int), v5 = .int .i64 x5_1 ∧ Aside0 (standbyref23_SameInts.l0 kq l0 l1 x5_1 = some r) ∧ Aside0 (kq ≤ k) ∧ Drawn0 w w')
    case atStart => exact ⟨(0), (by first | rfl | (simp; done) | (simp [*]; done)), H', ⟨Nat.le_refl _⟩, by repeat (first | exact Drawn0.refl _ | apply Drawn0.step)⟩
    case round =>
      clear H'
      try clear c1
      try clear p2
      try clear c3
      try clear c3b0
      try clear c3b1
      try clear c3b2
      obtain ⟨x5_1, rfl, HA, HK1, ⟨m1, rfl⟩⟩ := hrel
      cases gk with
      | zero => exact absurd HA.out (by simp [standbyref23_SameInts.l0])
      | succ k1 =>
        have H := HA.out
        clear HA
        simp only [standbyref23_SameInts.l0] at H
        by_cases c4 : x5_1 < (l0.length : Int)
        · rw [if_pos c4] at H
          have c4b0 : decide (x5_1 < (l0.length : Int)) = true := decide_eq_true c4
          clear c4
          by_cases c5 : 0 ≤ x5_1
          · rw [if_pos c5] at H
            have c5b0 : decide (0 ≤ x5_1) = true := decide_eq_true c5
            clear c5
            by_cases c6 : x5_1 < (l1.length : Int)
            · rw [if_pos c6] at H
              have c6b0 : decide (x5_1 < (l1.length : Int)) = true := decide_eq_true c6
              clear c6
              by_cases c7 : (rd l0 x5_1) = (rd l1 x5_1)
              · rw [if_pos c7] at H
                have c7b0 : ((rd l0 x5_1) == (rd l1 x5_1)) = true := beq_iff_eq.mpr c7
                have c7b1 : ((rd l0 x5_1) != (rd l1 x5_1)) = false := bne_eq_false_iff_eq.mpr c7
                clear c7
                have H' := Aside0.mk H
                clear H
                have p213 : 0 ≤ (x5_1 : Int) := of_decide_eq_true (by first | (with_reducible assumption) | assumption)
                have q213 : x5_1 < (l0.length : Int) := of_decide_eq_true (by first | (with_reducible assumption) | assumption)
                obtain ⟨ad213, e213, hx213_0⟩ := Kd.at_int HR0.out x5_1 p213 q213
                cases e213
                replace p213 := eq_true p213
                replace q213 := eq_true q213
                have p214 : 0 ≤ (x5_1 : Int) := of_decide_eq_true (by first | (with_reducible assumption) | assumption)
                have q214 : x5_1 < (l1.length : Int) := of_decide_eq_true (by first | (with_reducible assumption) | assumption)
                obtain ⟨ad214, e214, hx214_0⟩ := Kd.at_int HR1.out x5_1 p214 q214
                cases e214
                replace p214 := eq_true p214
                replace q214 := eq_true q214
                go_wp2
                repeat (go_quiet (fail); try go_wp2)
                go_roundg k1
                case measure => have := HK1.out; omega
                case rel => exact ⟨(wrap64 (x5_1 + 1)), (by first | rfl | (simp; done) | (simp [*]; done)), H', ⟨by have := HK1.out; omega⟩, by repeat (first | exact Drawn0.refl _ | apply Drawn0.step)⟩
              · rw [if_neg c7] at H
                have c7b0 : ((rd l0 x5_1) == (rd l1 x5_1)) = false := beq_eq_false_iff_ne.mpr c7
                have c7b1 : ((rd l0 x5_1) != (rd l1 x5_1)) = true := bne_iff_ne.mpr c7
                obtain rfl := Option.some.inj H
                have p213 : 0 ≤ (x5_1 : Int) := of_decide_eq_true (by first | (with_reducible assumption) | assumption)
                have q213 : x5_1 < (l0.length : Int) := of_decide_eq_true (by first | (with_reducible assumption) | assumption)
                obtain ⟨ad213, e213, hx213_0⟩ := Kd.at_int HR0.out x5_1 p213 q213
                cases e213
                replace p213 := eq_true p213
                replace q213 := eq_true q213
                have p214 : 0 ≤ (x5_1 : Int) := of_decide_eq_true (by first | (with_reducible assumption) | assumption)
                have q214 : x5_1 < (l1.length : Int) := of_decide_eq_true (by first | (with_reducible assumption) | assumption)
                obtain ⟨ad214, e214, hx214_0⟩ := Kd.at_int HR1.out x5_1 p214 q214
                cases e214
                replace p214 := eq_true p214
                replace q214 := eq_true q214
                go_wp2
                repeat (go_quiet (fail); try go_wp2)
                go_ret
                exact ⟨by first | rfl | (simp; done) | (simp [*]; done), by repeat (first | exact Drawn0.refl _ | apply Drawn0.step)⟩
            · rw [if_neg c6] at H
              exact absurd H (by simp)
          · rw [if_neg c5] at H
            exact absurd H (by simp)
        · rw [if_neg c4] at H
          have c4b0 : decide (x5_1 < (l0.length : Int)) = false := decide_eq_false c4
          clear c4
          obtain rfl := Option.some.inj H
          go_wp2
          repeat (go_quiet (fail); try go_wp2)
          go_ret
          exact ⟨by first | rfl | (simp; done) | (simp [*]; done), by repeat (first | exact Drawn0.refl _ | apply Drawn0.step)⟩
  · rw [if_neg c3] at H
    have c3b0 : ((l0.length : Int) == (l1.length : Int)) = false := beq_eq_false_iff_ne.mpr c3
    have c3b1 : ((l0.length : Int) != (l1.length : Int)) = true := bne_iff_ne.mpr c3
    have c3b2 : (l0.length == l1.length) = false := by first | simpa using c3 | (simp at c3 ⊢; omega)
    obtain rfl := Option.some.inj H
    go_enter Tryz.func15, Tryz.ntmps15
    go_wp2
    repeat (go_quiet (fail); try go_wp2)
    go_ret
    exact ⟨by first | rfl | (simp; done) | (simp [*]; done), by repeat (first | exact Drawn0.refl _ | apply Drawn0.step)⟩
end Go.Proofs.YtdplnbmioioniaaGreat.Pq
end
