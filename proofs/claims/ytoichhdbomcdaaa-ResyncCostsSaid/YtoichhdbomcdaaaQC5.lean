import Derived.Test.YtoichhdbomcdaaaQC4
section
namespace Go.Proofs.Ytoichhdbomcdaaa.Pq
open Go.RowKit Go.Proofs.YtoichhdbomcdaaaW.PrintWords Go.Proofs.YtoichhdbomcdaaaW.PrintLast Go.Proofs.YtoichhdbomcdaaaW.PrintMore
attribute [local go_sem] max2_int min2_int max_two min_two max_three min_three max_four min_four
set_option linter.unusedVariables false
set_option linter.unusedSimpArgs false
def standbyref22_Same.f (k : Nat) (l0 : List (S57)) (l1 : List (S57)) : Option (Bool) := (standbyref03_SameWrites.f k l0 l1).bind fun t150 => (some t150)
set_option maxHeartbeats 8000000 in
set_option maxRecDepth 100000 in
theorem standbyref22_Same.calls (k : Nat) (A0 : Option Addr) (c0 : Nat) (l0 : List (S57)) (A1 : Option Addr) (c1 : Nat) (l1 : List (S57)) (r : Bool) (w : World) (hr0 : Kd.C k57 w A0 l0.length l0) (hc0 : l0.length ≤ c0) (hr1 : Kd.C k57 w A1 l1.length l1) (hc1 : l1.length ≤ c1) (h : standbyref22_Same.f k l0 l1 = some r) :
    Calls Try.prog 21 #[.slice A0 l0.length c0, .slice A1 l1.length c1] w fun e w' => e = .returned (.bool r) ∧ Below w.heap.size w w' := by
  have HR0 := Aside0.mk hr0
  have HC0 := Aside0.mk hc0
  clear hr0 hc0
  have HR1 := Aside0.mk hr1
  have HC1 := Aside0.mk hc1
  clear hr1 hc1
  have HB := Aside0.mk (Below.refl w.heap.size w)
  have H : ((standbyref03_SameWrites.f k l0 l1).bind fun t150 => (some t150)) = some r := h
  clear h
  replace H := Option.bind_eq_some_iff.mp H
  obtain ⟨t150, A30, H⟩ := H
  replace H : (some t150) = some r := H
  have A3 := Aside0.mk A30
  clear A30
  obtain rfl := Option.some.inj H
  go_enter Try.func21, Try.ntmps21
  go_wp2_with (first | ((with_reducible refine gate_callee (f := 45) rfl ?_); refine goesL_ (some 7) rfl rfl Try.func45 (by kernel_rfl) rfl #[.slice A0 l0.length c0, .slice A1 l1.length c1] rfl (by (try simp only [List.map_toArray, List.map_cons, List.map_nil]); first | done | rfl | (simp only [List.length_drop, List.length_take]; rfl)) ?_; (with_reducible refine (standbyref03_SameWrites.calls k _ _ l0 _ _ l1 t150 _ ?side1 ?side2 ?side3 ?side4 A3.out).mono ?_); (case side1 => repeat (first | exact HR0.out | (with_reducible refine Kd.C_alloc ?_ _) | (with_reducible refine Kd.C_drewN ?_ _) | (with_reducible refine Kd.C_drew ?_))); (case side2 => exact HC0.out); (case side3 => repeat (first | exact HR1.out | (with_reducible refine Kd.C_alloc ?_ _) | (with_reducible refine Kd.C_drewN ?_ _) | (with_reducible refine Kd.C_drew ?_))); (case side4 => exact HC1.out); rintro e w4 ⟨rfl, hb⟩; refine ⟨_, rfl, ?_⟩; have n0_ := Aside0.mk (below_step (by repeat (first | (with_reducible first | exact HB.out | apply below_alloc | apply pw_below_drewN | apply below_drew1) | exact HB.out)) hb); clear HB; have HB := n0_; clear n0_; (try clear hb); (try clear hb2); (try clear hk); (try clear hi)))
  go_ret
  exact ⟨by first | rfl | (simp [errW_none, errW_some] <;> rfl) | (simp [*, errW_none, errW_some] <;> rfl), by repeat (first | (with_reducible first | exact HB.out | apply below_alloc | apply pw_below_drewN | apply below_drew1) | exact HB.out)⟩
def standbylaw45_awake.j0 : Nat → List (List (S54)) → List (List (S54)) → Bool → Bool → Bool → Option (Bool)
  | 0, _, _, _, _, _ => none
  | k + 1, x6, x9, x11, x13, x83 => if x83 = true then (some false) else ((standbyref36_SameExtents.f k x9 (([(([(⟨0, 1⟩ : S54), (⟨4, 1⟩ : S54)] : List (S54)))] : List (List (S54))))).bind fun t200 => (if t200 = true then (if x11 = true then (if x13 = true then (some false) else ((resync_Cost.f x6).bind fun t201 => (if t201 = 3 then ((resync_Cost.f x9).bind fun t202 => (some (t202 == 2))) else (some false)))) else (some false)) else (some false)))
def standbylaw45_awake.f (k : Nat)  : Option (Bool) := (some (([(([(⟨1, 0, 0, 0, 0, 0, 0, 0⟩ : S52), (⟨2, 0, 0, 0, 0, 0, 0, 0⟩ : S52), (⟨0, 0, 0, 0, 0, 0, 0, 0⟩ : S52), (⟨0, 0, 0, 0, 0, 0, 0, 0⟩ : S52), (⟨3, 0, 0, 0, 0, 0, 0, 0⟩ : S52)] : List (S52)))] : List (List (S52))) : List (List (S52)))).bind fun y157 => ((some (([(([(⟨0, 0, 0, 0, 0, 0, 0, 0⟩ : S52), (⟨2, 0, 0, 0, 0, 0, 0, 0⟩ : S52), (⟨0, 0, 0, 0, 0, 0, 0, 0⟩ : S52), (⟨0, 0, 0, 0, 0, 0, 0, 0⟩ : S52), (⟨0, 0, 0, 0, 0, 0, 0, 0⟩ : S52)] : List (S52)))] : List (List (S52))) : List (List (S52)))).bind fun y163 => ((some (([(([(⟨0, 2⟩ : S54), (⟨4, 1⟩ : S54)] : List (S54)))] : List (List (S54))) : List (List (S54)))).bind fun y169 => ((resync_Writes.f y157 y169).bind fun bt172 => ((resync_Needed.f y157 y163 y169).bind fun bt176 => ((resync_Exact.f y157 y163 bt176.1).bind fun bt180 => ((resync_Exact.f y157 y163 y169).bind fun bt182 => (if (wrap64 ((wrap64 ((wrap64 (bt172.2 + bt176.2)) + bt180.2)) + bt182.2)) = 0 then ((standbyref22_Same.f k bt172.1 (([(⟨0, 0, (([(⟨1, 0, 0, 0, 0, 0, 0, 0⟩ : S52), (⟨2, 0, 0, 0, 0, 0, 0, 0⟩ : S52)] : List (S52)))⟩ : S57), (⟨0, 4, (([(⟨3, 0, 0, 0, 0, 0, 0, 0⟩ : S52)] : List (S52)))⟩ : S57)] : List (S57)))).bind fun t193 => (standbylaw45_awake.j0 k y169 bt176.1 bt180.1 bt182.1 (!t193))) else (standbylaw45_awake.j0 k y169 bt176.1 bt180.1 bt182.1 true))))))))
def standbylaw45_awake.T2 : Bool × List (List Nat × List Nat) := (true, [([], []), ([], []), ([], []), ([], []), ([], []), ([0, 1, 2, 3, 4], [0, 1, 2, 3, 4]), ([5], [5]), ([], []), ([], []), ([], []), ([], []), ([], []), ([7, 8, 9, 10, 11], [7, 8, 9, 10, 11]), ([12], [12]), ([6, 0, 1, 2, 3, 4, 5, 6], [6]), ([13, 14, 0, 1, 2, 3, 4, 5, 6, 7, 8, 9, 10, 11, 12, 13, 14], [13])])
def standbylaw45_awake.B2 : List Nat := [0, 0, 0, 0, 0, 31, 63, 0, 0, 0, 0, 0, 3968, 8064, 127, 32767]
theorem standbylaw45_awake.tab2 : rtab .any (opsOf Try.f8 2) = standbylaw45_awake.T2 := by kernel_rfl
theorem standbylaw45_awake.bits2 : waitsOk standbylaw45_awake.T2.2 standbylaw45_awake.B2 = true := by kernel_rfl
set_option maxHeartbeats 8000000 in
set_option maxRecDepth 100000 in
theorem standbylaw45_awake.calls (k : Nat)  (r : Bool) (w : World) (h : standbylaw45_awake.f k  = some r) :
    Calls Try.prog 8 #[] w fun e w' => e = .returned (.bool r) ∧ Below w.heap.size w w' := by
  have hu52 := Try.underlying52
  have hu54 := Try.underlying54
  have hu57 := Try.underlying57
  have HB := Aside0.mk (Below.refl w.heap.size w)
  have H : ((some (([(([(⟨1, 0, 0, 0, 0, 0, 0, 0⟩ : S52), (⟨2, 0, 0, 0, 0, 0, 0, 0⟩ : S52), (⟨0, 0, 0, 0, 0, 0, 0, 0⟩ : S52), (⟨0, 0, 0, 0, 0, 0, 0, 0⟩ : S52), (⟨3, 0, 0, 0, 0, 0, 0, 0⟩ : S52)] : List (S52)))] : List (List (S52))) : List (List (S52)))).bind fun y157 => ((some (([(([(⟨0, 0, 0, 0, 0, 0, 0, 0⟩ : S52), (⟨2, 0, 0, 0, 0, 0, 0, 0⟩ : S52), (⟨0, 0, 0, 0, 0, 0, 0, 0⟩ : S52), (⟨0, 0, 0, 0, 0, 0, 0, 0⟩ : S52), (⟨0, 0, 0, 0, 0, 0, 0, 0⟩ : S52)] : List (S52)))] : List (List (S52))) : List (List (S52)))).bind fun y163 => ((some (([(([(⟨0, 2⟩ : S54), (⟨4, 1⟩ : S54)] : List (S54)))] : List (List (S54))) : List (List (S54)))).bind fun y169 => ((resync_Writes.f y157 y169).bind fun bt172 => ((resync_Needed.f y157 y163 y169).bind fun bt176 => ((resync_Exact.f y157 y163 bt176.1).bind fun bt180 => ((resync_Exact.f y157 y163 y169).bind fun bt182 => (if (wrap64 ((wrap64 ((wrap64 (bt172.2 + bt176.2)) + bt180.2)) + bt182.2)) = 0 then ((standbyref22_Same.f k bt172.1 (([(⟨0, 0, (([(⟨1, 0, 0, 0, 0, 0, 0, 0⟩ : S52), (⟨2, 0, 0, 0, 0, 0, 0, 0⟩ : S52)] : List (S52)))⟩ : S57), (⟨0, 4, (([(⟨3, 0, 0, 0, 0, 0, 0, 0⟩ : S52)] : List (S52)))⟩ : S57)] : List (S57)))).bind fun t193 => (standbylaw45_awake.j0 k y169 bt176.1 bt180.1 bt182.1 (!t193))) else (standbylaw45_awake.j0 k y169 bt176.1 bt180.1 bt182.1 true))))))))) = some r := h
  clear h
  obtain ⟨y154, hy154⟩ : ∃ y_ : List (S52), y_ = (([(⟨1, 0, 0, 0, 0, 0, 0, 0⟩ : S52), (⟨2, 0, 0, 0, 0, 0, 0, 0⟩ : S52), (⟨0, 0, 0, 0, 0, 0, 0, 0⟩ : S52), (⟨0, 0, 0, 0, 0, 0, 0, 0⟩ : S52), (⟨3, 0, 0, 0, 0, 0, 0, 0⟩ : S52)] : List (S52))) := ⟨_, rfl⟩
  replace H : ((some (([y154] : List (List (S52))) : List (List (S52)))).bind fun y157 => ((some (([(([(⟨0, 0, 0, 0, 0, 0, 0, 0⟩ : S52), (⟨2, 0, 0, 0, 0, 0, 0, 0⟩ : S52), (⟨0, 0, 0, 0, 0, 0, 0, 0⟩ : S52), (⟨0, 0, 0, 0, 0, 0, 0, 0⟩ : S52), (⟨0, 0, 0, 0, 0, 0, 0, 0⟩ : S52)] : List (S52)))] : List (List (S52))) : List (List (S52)))).bind fun y163 => ((some (([(([(⟨0, 2⟩ : S54), (⟨4, 1⟩ : S54)] : List (S54)))] : List (List (S54))) : List (List (S54)))).bind fun y169 => ((resync_Writes.f y157 y169).bind fun bt172 => ((resync_Needed.f y157 y163 y169).bind fun bt176 => ((resync_Exact.f y157 y163 bt176.1).bind fun bt180 => ((resync_Exact.f y157 y163 y169).bind fun bt182 => (if (wrap64 ((wrap64 ((wrap64 (bt172.2 + bt176.2)) + bt180.2)) + bt182.2)) = 0 then ((standbyref22_Same.f k bt172.1 (([(⟨0, 0, (([(⟨1, 0, 0, 0, 0, 0, 0, 0⟩ : S52), (⟨2, 0, 0, 0, 0, 0, 0, 0⟩ : S52)] : List (S52)))⟩ : S57), (⟨0, 4, (([(⟨3, 0, 0, 0, 0, 0, 0, 0⟩ : S52)] : List (S52)))⟩ : S57)] : List (S57)))).bind fun t193 => (standbylaw45_awake.j0 k y169 bt176.1 bt180.1 bt182.1 (!t193))) else (standbylaw45_awake.j0 k y169 bt176.1 bt180.1 bt182.1 true))))))))) = some r := by first | (rw [hy154]; with_reducible exact H) | (have H2_ := (Option.bind_some _ _).symm.trans H; rw [hy154]; with_reducible exact H2_) | (have H2_ := (Option.bind_some _ _).symm.trans H; with_reducible exact H2_) | with_reducible exact H | (rw [hy154]; exact H) | exact H
  have Ny154 := Aside0.mk hy154
  clear hy154
  obtain ⟨y157, hy157⟩ : ∃ y_ : List (List (S52)), y_ = (([y154] : List (List (S52)))) := ⟨_, rfl⟩
  replace H : ((some (([(([(⟨0, 0, 0, 0, 0, 0, 0, 0⟩ : S52), (⟨2, 0, 0, 0, 0, 0, 0, 0⟩ : S52), (⟨0, 0, 0, 0, 0, 0, 0, 0⟩ : S52), (⟨0, 0, 0, 0, 0, 0, 0, 0⟩ : S52), (⟨0, 0, 0, 0, 0, 0, 0, 0⟩ : S52)] : List (S52)))] : List (List (S52))) : List (List (S52)))).bind fun y163 => ((some (([(([(⟨0, 2⟩ : S54), (⟨4, 1⟩ : S54)] : List (S54)))] : List (List (S54))) : List (List (S54)))).bind fun y169 => ((resync_Writes.f y157 y169).bind fun bt172 => ((resync_Needed.f y157 y163 y169).bind fun bt176 => ((resync_Exact.f y157 y163 bt176.1).bind fun bt180 => ((resync_Exact.f y157 y163 y169).bind fun bt182 => (if (wrap64 ((wrap64 ((wrap64 (bt172.2 + bt176.2)) + bt180.2)) + bt182.2)) = 0 then ((standbyref22_Same.f k bt172.1 (([(⟨0, 0, (([(⟨1, 0, 0, 0, 0, 0, 0, 0⟩ : S52), (⟨2, 0, 0, 0, 0, 0, 0, 0⟩ : S52)] : List (S52)))⟩ : S57), (⟨0, 4, (([(⟨3, 0, 0, 0, 0, 0, 0, 0⟩ : S52)] : List (S52)))⟩ : S57)] : List (S57)))).bind fun t193 => (standbylaw45_awake.j0 k y169 bt176.1 bt180.1 bt182.1 (!t193))) else (standbylaw45_awake.j0 k y169 bt176.1 bt180.1 bt182.1 true)))))))) = some r := by first | (rw [hy157]; with_reducible exact H) | (have H2_ := (Option.bind_some _ _).symm.trans H; rw [hy157]; with_reducible exact H2_) | (have H2_ := (Option.bind_some _ _).symm.trans H; with_reducible exact H2_) | with_reducible exact H | (rw [hy157]; exact H) | exact H
  have Ny157 := Aside0.mk hy157
  clear hy157
  obtain ⟨y160, hy160⟩ : ∃ y_ : List (S52), y_ = (([(⟨0, 0, 0, 0, 0, 0, 0, 0⟩ : S52), (⟨2, 0, 0, 0, 0, 0, 0, 0⟩ : S52), (⟨0, 0, 0, 0, 0, 0, 0, 0⟩ : S52), (⟨0, 0, 0, 0, 0, 0, 0, 0⟩ : S52), (⟨0, 0, 0, 0, 0, 0, 0, 0⟩ : S52)] : List (S52))) := ⟨_, rfl⟩
  replace H : ((some (([y160] : List (List (S52))) : List (List (S52)))).bind fun y163 => ((some (([(([(⟨0, 2⟩ : S54), (⟨4, 1⟩ : S54)] : List (S54)))] : List (List (S54))) : List (List (S54)))).bind fun y169 => ((resync_Writes.f y157 y169).bind fun bt172 => ((resync_Needed.f y157 y163 y169).bind fun bt176 => ((resync_Exact.f y157 y163 bt176.1).bind fun bt180 => ((resync_Exact.f y157 y163 y169).bind fun bt182 => (if (wrap64 ((wrap64 ((wrap64 (bt172.2 + bt176.2)) + bt180.2)) + bt182.2)) = 0 then ((standbyref22_Same.f k bt172.1 (([(⟨0, 0, (([(⟨1, 0, 0, 0, 0, 0, 0, 0⟩ : S52), (⟨2, 0, 0, 0, 0, 0, 0, 0⟩ : S52)] : List (S52)))⟩ : S57), (⟨0, 4, (([(⟨3, 0, 0, 0, 0, 0, 0, 0⟩ : S52)] : List (S52)))⟩ : S57)] : List (S57)))).bind fun t193 => (standbylaw45_awake.j0 k y169 bt176.1 bt180.1 bt182.1 (!t193))) else (standbylaw45_awake.j0 k y169 bt176.1 bt180.1 bt182.1 true)))))))) = some r := by first | (rw [hy160]; with_reducible exact H) | (have H2_ := (Option.bind_some _ _).symm.trans H; rw [hy160]; with_reducible exact H2_) | (have H2_ := (Option.bind_some _ _).symm.trans H; with_reducible exact H2_) | with_reducible exact H | (rw [hy160]; exact H) | exact H
  have Ny160 := Aside0.mk hy160
  clear hy160
  obtain ⟨y163, hy163⟩ : ∃ y_ : List (List (S52)), y_ = (([y160] : List (List (S52)))) := ⟨_, rfl⟩
  replace H : ((some (([(([(⟨0, 2⟩ : S54), (⟨4, 1⟩ : S54)] : List (S54)))] : List (List (S54))) : List (List (S54)))).bind fun y169 => ((resync_Writes.f y157 y169).bind fun bt172 => ((resync_Needed.f y157 y163 y169).bind fun bt176 => ((resync_Exact.f y157 y163 bt176.1).bind fun bt180 => ((resync_Exact.f y157 y163 y169).bind fun bt182 => (if (wrap64 ((wrap64 ((wrap64 (bt172.2 + bt176.2)) + bt180.2)) + bt182.2)) = 0 then ((standbyref22_Same.f k bt172.1 (([(⟨0, 0, (([(⟨1, 0, 0, 0, 0, 0, 0, 0⟩ : S52), (⟨2, 0, 0, 0, 0, 0, 0, 0⟩ : S52)] : List (S52)))⟩ : S57), (⟨0, 4, (([(⟨3, 0, 0, 0, 0, 0, 0, 0⟩ : S52)] : List (S52)))⟩ : S57)] : List (S57)))).bind fun t193 => (standbylaw45_awake.j0 k y169 bt176.1 bt180.1 bt182.1 (!t193))) else (standbylaw45_awake.j0 k y169 bt176.1 bt180.1 bt182.1 true))))))) = some r := by first | (rw [hy163]; with_reducible exact H) | (have H2_ := (Option.bind_some _ _).symm.trans H; rw [hy163]; with_reducible exact H2_) | (have H2_ := (Option.bind_some _ _).symm.trans H; with_reducible exact H2_) | with_reducible exact H | (rw [hy163]; exact H) | exact H
  have Ny163 := Aside0.mk hy163
  clear hy163
  obtain ⟨y166, hy166⟩ : ∃ y_ : List (S54), y_ = (([(⟨0, 2⟩ : S54), (⟨4, 1⟩ : S54)] : List (S54))) := ⟨_, rfl⟩
  replace H : ((some (([y166] : List (List (S54))) : List (List (S54)))).bind fun y169 => ((resync_Writes.f y157 y169).bind fun bt172 => ((resync_Needed.f y157 y163 y169).bind fun bt176 => ((resync_Exact.f y157 y163 bt176.1).bind fun bt180 => ((resync_Exact.f y157 y163 y169).bind fun bt182 => (if (wrap64 ((wrap64 ((wrap64 (bt172.2 + bt176.2)) + bt180.2)) + bt182.2)) = 0 then ((standbyref22_Same.f k bt172.1 (([(⟨0, 0, (([(⟨1, 0, 0, 0, 0, 0, 0, 0⟩ : S52), (⟨2, 0, 0, 0, 0, 0, 0, 0⟩ : S52)] : List (S52)))⟩ : S57), (⟨0, 4, (([(⟨3, 0, 0, 0, 0, 0, 0, 0⟩ : S52)] : List (S52)))⟩ : S57)] : List (S57)))).bind fun t193 => (standbylaw45_awake.j0 k y169 bt176.1 bt180.1 bt182.1 (!t193))) else (standbylaw45_awake.j0 k y169 bt176.1 bt180.1 bt182.1 true))))))) = some r := by first | (rw [hy166]; with_reducible exact H) | (have H2_ := (Option.bind_some _ _).symm.trans H; rw [hy166]; with_reducible exact H2_) | (have H2_ := (Option.bind_some _ _).symm.trans H; with_reducible exact H2_) | with_reducible exact H | (rw [hy166]; exact H) | exact H
  have Ny166 := Aside0.mk hy166
  clear hy166
  obtain ⟨y169, hy169⟩ : ∃ y_ : List (List (S54)), y_ = (([y166] : List (List (S54)))) := ⟨_, rfl⟩
  replace H : ((resync_Writes.f y157 y169).bind fun bt172 => ((resync_Needed.f y157 y163 y169).bind fun bt176 => ((resync_Exact.f y157 y163 bt176.1).bind fun bt180 => ((resync_Exact.f y157 y163 y169).bind fun bt182 => (if (wrap64 ((wrap64 ((wrap64 (bt172.2 + bt176.2)) + bt180.2)) + bt182.2)) = 0 then ((standbyref22_Same.f k bt172.1 (([(⟨0, 0, (([(⟨1, 0, 0, 0, 0, 0, 0, 0⟩ : S52), (⟨2, 0, 0, 0, 0, 0, 0, 0⟩ : S52)] : List (S52)))⟩ : S57), (⟨0, 4, (([(⟨3, 0, 0, 0, 0, 0, 0, 0⟩ : S52)] : List (S52)))⟩ : S57)] : List (S57)))).bind fun t193 => (standbylaw45_awake.j0 k y169 bt176.1 bt180.1 bt182.1 (!t193))) else (standbylaw45_awake.j0 k y169 bt176.1 bt180.1 bt182.1 true)))))) = some r := by first | (rw [hy169]; with_reducible exact H) | (have H2_ := (Option.bind_some _ _).symm.trans H; rw [hy169]; with_reducible exact H2_) | (have H2_ := (Option.bind_some _ _).symm.trans H; with_reducible exact H2_) | with_reducible exact H | (rw [hy169]; exact H) | exact H
  have Ny169 := Aside0.mk hy169
  clear hy169
  replace H := Option.bind_eq_some_iff.mp H
  obtain ⟨⟨t172, t173⟩, A10, H⟩ := H
  replace H : ((resync_Needed.f y157 y163 y169).bind fun bt176 => ((resync_Exact.f y157 y163 bt176.1).bind fun bt180 => ((resync_Exact.f y157 y163 y169).bind fun bt182 => (if (wrap64 ((wrap64 ((wrap64 (t173 + bt176.2)) + bt180.2)) + bt182.2)) = 0 then ((standbyref22_Same.f k t172 (([(⟨0, 0, (([(⟨1, 0, 0, 0, 0, 0, 0, 0⟩ : S52), (⟨2, 0, 0, 0, 0, 0, 0, 0⟩ : S52)] : List (S52)))⟩ : S57), (⟨0, 4, (([(⟨3, 0, 0, 0, 0, 0, 0, 0⟩ : S52)] : List (S52)))⟩ : S57)] : List (S57)))).bind fun t193 => (standbylaw45_awake.j0 k y169 bt176.1 bt180.1 bt182.1 (!t193))) else (standbylaw45_awake.j0 k y169 bt176.1 bt180.1 bt182.1 true))))) = some r := H
  have A1 := Aside0.mk A10
  clear A10
  replace H := Option.bind_eq_some_iff.mp H
  obtain ⟨⟨t176, t177⟩, A20, H⟩ := H
  replace H : ((resync_Exact.f y157 y163 t176).bind fun bt180 => ((resync_Exact.f y157 y163 y169).bind fun bt182 => (if (wrap64 ((wrap64 ((wrap64 (t173 + t177)) + bt180.2)) + bt182.2)) = 0 then ((standbyref22_Same.f k t172 (([(⟨0, 0, (([(⟨1, 0, 0, 0, 0, 0, 0, 0⟩ : S52), (⟨2, 0, 0, 0, 0, 0, 0, 0⟩ : S52)] : List (S52)))⟩ : S57), (⟨0, 4, (([(⟨3, 0, 0, 0, 0, 0, 0, 0⟩ : S52)] : List (S52)))⟩ : S57)] : List (S57)))).bind fun t193 => (standbylaw45_awake.j0 k y169 t176 bt180.1 bt182.1 (!t193))) else (standbylaw45_awake.j0 k y169 t176 bt180.1 bt182.1 true)))) = some r := H
  have A2 := Aside0.mk A20
  clear A20
  replace H := Option.bind_eq_some_iff.mp H
  obtain ⟨⟨t180, t181⟩, A30, H⟩ := H
  replace H : ((resync_Exact.f y157 y163 y169).bind fun bt182 => (if (wrap64 ((wrap64 ((wrap64 (t173 + t177)) + t181)) + bt182.2)) = 0 then ((standbyref22_Same.f k t172 (([(⟨0, 0, (([(⟨1, 0, 0, 0, 0, 0, 0, 0⟩ : S52), (⟨2, 0, 0, 0, 0, 0, 0, 0⟩ : S52)] : List (S52)))⟩ : S57), (⟨0, 4, (([(⟨3, 0, 0, 0, 0, 0, 0, 0⟩ : S52)] : List (S52)))⟩ : S57)] : List (S57)))).bind fun t193 => (standbylaw45_awake.j0 k y169 t176 t180 bt182.1 (!t193))) else (standbylaw45_awake.j0 k y169 t176 t180 bt182.1 true))) = some r := H
  have A3 := Aside0.mk A30
  clear A30
  replace H := Option.bind_eq_some_iff.mp H
  obtain ⟨⟨t182, t183⟩, A40, H⟩ := H
  replace H : (if (wrap64 ((wrap64 ((wrap64 (t173 + t177)) + t181)) + t183)) = 0 then ((standbyref22_Same.f k t172 (([(⟨0, 0, (([(⟨1, 0, 0, 0, 0, 0, 0, 0⟩ : S52), (⟨2, 0, 0, 0, 0, 0, 0, 0⟩ : S52)] : List (S52)))⟩ : S57), (⟨0, 4, (([(⟨3, 0, 0, 0, 0, 0, 0, 0⟩ : S52)] : List (S52)))⟩ : S57)] : List (S57)))).bind fun t193 => (standbylaw45_awake.j0 k y169 t176 t180 t182 (!t193))) else (standbylaw45_awake.j0 k y169 t176 t180 t182 true)) = some r := H
  have A4 := Aside0.mk A40
  clear A40
  have HC5 := Aside0.mk H
  clear H
  go_enter Try.func8, Try.ntmps8
  try go_wp2_with (first | ((with_reducible refine gate_dst (N := 1) rfl ?_); (try (refine gate_guard (by rfl) ?_; dsimp only)); refine box_event ?hg (N := 1) ?hd (cs := #[.int .u8 0, .int .u8 0, .int .u8 0, .int .u8 0, .int .u8 0, .int .u8 0, .int .u8 0, .int .u8 0]) (t := 52) ?hr ?_; (case hd => rfl); (case hg => rfl); (case hr => first | (go_simp; done) | (go_simp; rfl)); intro gb151 hg w6 hbox hb; have n0_ := Aside0.mk (below_step (by repeat (first | (with_reducible first | exact HB.out | apply below_alloc | apply pw_below_drewN | apply below_drew1) | exact HB.out)) hb); have n1_ := Aside0.mk (hbox); have n2_ := Aside0.mk ((by rw [hg]; exact (below_size (by repeat (first | (with_reducible first | exact HB.out | apply below_alloc | apply pw_below_drewN | apply below_drew1) | exact HB.out))) : w.heap.size ≤ gb151)); have n3_ := Aside0.mk ((by rw [hg]; exact (below_size (by repeat (first | (with_reducible first | exact HB.out | apply below_alloc | apply pw_below_drewN | apply below_drew1) | exact HB.out))) : w.heap.size ≤ gb151)); clear HB; have HB := n0_; have BK151 := n1_; have GW151 := n2_; have GE151 := n3_; clear n0_ n1_ n2_ n3_; clear hb hbox hg) | ((with_reducible refine gate_dst (N := 2) rfl ?_); (try (refine gate_guard (by rfl) ?_; dsimp only)); refine box_event ?hg (N := 2) ?hd (cs := #[.int .u8 0, .int .u8 0, .int .u8 0, .int .u8 0, .int .u8 0, .int .u8 0, .int .u8 0, .int .u8 0]) (t := 52) ?hr ?_; (case hd => rfl); (case hg => rfl); (case hr => first | (go_simp; done) | (go_simp; rfl)); intro gb152 hg w7 hbox hb; have n0_ := Aside0.mk (blk_below (g := gb151) (o := .cells #[.int .u8 0, .int .u8 0, .int .u8 0, .int .u8 0, .int .u8 0, .int .u8 0, .int .u8 0, .int .u8 0] 52 (0, 0)) (by (with_reducible repeat (first | refine blk_drewN ?_ _ | refine blk_drew ?_ | refine blk_alloc ?_ _)); exact BK151.out) hb); have n1_ := Aside0.mk (below_step (by repeat (first | (with_reducible first | exact HB.out | apply below_alloc | apply pw_below_drewN | apply below_drew1 | refine below_set ?_ GE151.out) | exact HB.out)) hb); have n2_ := Aside0.mk (hbox); have n3_ := Aside0.mk ((by rw [hg]; exact (below_size (by repeat (first | (with_reducible first | exact HB.out | apply below_alloc | apply pw_below_drewN | apply below_drew1 | refine below_set ?_ GE151.out) | exact HB.out))) : w.heap.size ≤ gb152)); have n4_ := Aside0.mk ((by rw [hg]; exact (below_size (by repeat (first | (with_reducible first | exact HB.out | apply below_alloc | apply pw_below_drewN | apply below_drew1 | refine below_set ?_ GE151.out) | exact HB.out))) : w.heap.size ≤ gb152)); have n5_ := Aside0.mk ((by rw [hg]; exact Nat.ne_of_lt (blk_lt (g := gb151) (o := .cells #[.int .u8 0, .int .u8 0, .int .u8 0, .int .u8 0, .int .u8 0, .int .u8 0, .int .u8 0, .int .u8 0] 52 (0, 0)) (by (with_reducible repeat (first | refine blk_drewN ?_ _ | refine blk_drew ?_ | refine blk_alloc ?_ _)); exact BK151.out)) : gb151 ≠ gb152)); have n6_ := Aside0.mk ((by rw [hg]; exact Nat.ne_of_gt (blk_lt (g := gb151) (o := .cells #[.int .u8 0, .int .u8 0, .int .u8 0, .int .u8 0, .int .u8 0, .int .u8 0, .int .u8 0, .int .u8 0] 52 (0, 0)) (by (with_reducible repeat (first | refine blk_drewN ?_ _ | refine blk_drew ?_ | refine blk_alloc ?_ _)); exact BK151.out)) : gb152 ≠ gb151)); clear BK151; clear HB; have BK151 := n0_; have HB := n1_; have BK152 := n2_; have GW152 := n3_; have GE152 := n4_; have NB151_152 := n5_; have NB152_151 := n6_; clear n0_ n1_ n2_ n3_ n4_ n5_ n6_; clear hb hbox hg) | ((with_reducible refine gate_dst (N := 3) rfl ?_); (try (refine gate_guard (by rfl) ?_; dsimp only)); refine box_event ?hg (N := 3) ?hd (cs := #[.int .u8 0, .int .u8 0, .int .u8 0, .int .u8 0, .int .u8 0, .int .u8 0, .int .u8 0, .int .u8 0]) (t := 52) ?hr ?_; (case hd => rfl); (case hg => rfl); (case hr => first | (go_simp; done) | (go_simp; rfl)); intro gb153 hg w8 hbox hb; have n0_ := Aside0.mk (blk_below (g := gb151) (o := .cells #[.int .u8 0, .int .u8 0, .int .u8 0, .int .u8 0, .int .u8 0, .int .u8 0, .int .u8 0, .int .u8 0] 52 (0, 0)) (by (with_reducible repeat (first | refine blk_drewN ?_ _ | refine blk_drew ?_ | refine blk_alloc ?_ _)); exact BK151.out) hb); have n1_ := Aside0.mk (blk_below (g := gb152) (o := .cells #[.int .u8 0, .int .u8 0, .int .u8 0, .int .u8 0, .int .u8 0, .int .u8 0, .int .u8 0, .int .u8 0] 52 (0, 0)) (by (with_reducible repeat (first | refine blk_drewN ?_ _ | refine blk_drew ?_ | refine blk_alloc ?_ _)); exact BK152.out) hb); have n2_ := Aside0.mk (below_step (by repeat (first | (with_reducible first | exact HB.out | apply below_alloc | apply pw_below_drewN | apply below_drew1 | refine below_set ?_ GE151.out | refine below_set ?_ GE152.out) | exact HB.out)) hb); have n3_ := Aside0.mk (hbox); have n4_ := Aside0.mk ((by rw [hg]; exact (below_size (by repeat (first | (with_reducible first | exact HB.out | apply below_alloc | apply pw_below_drewN | apply below_drew1 | refine below_set ?_ GE151.out | refine below_set ?_ GE152.out) | exact HB.out))) : w.heap.size ≤ gb153)); have n5_ := Aside0.mk ((by rw [hg]; exact (below_size (by repeat (first | (with_reducible first | exact HB.out | apply below_alloc | apply pw_below_drewN | apply below_drew1 | refine below_set ?_ GE151.out | refine below_set ?_ GE152.out) | exact HB.out))) : w.heap.size ≤ gb153)); have n6_ := Aside0.mk ((by rw [hg]; exact Nat.ne_of_lt (blk_lt (g := gb151) (o := .cells #[.int .u8 0, .int .u8 0, .int .u8 0, .int .u8 0, .int .u8 0, .int .u8 0, .int .u8 0, .int .u8 0] 52 (0, 0)) (by (with_reducible repeat (first | refine blk_drewN ?_ _ | refine blk_drew ?_ | refine blk_alloc ?_ _)); exact BK151.out)) : gb151 ≠ gb153)); have n7_ := Aside0.mk ((by rw [hg]; exact Nat.ne_of_gt (blk_lt (g := gb151) (o := .cells #[.int .u8 0, .int .u8 0, .int .u8 0, .int .u8 0, .int .u8 0, .int .u8 0, .int .u8 0, .int .u8 0] 52 (0, 0)) (by (with_reducible repeat (first | refine blk_drewN ?_ _ | refine blk_drew ?_ | refine blk_alloc ?_ _)); exact BK151.out)) : gb153 ≠ gb151)); have n8_ := Aside0.mk ((by rw [hg]; exact Nat.ne_of_lt (blk_lt (g := gb152) (o := .cells #[.int .u8 0, .int .u8 0, .int .u8 0, .int .u8 0, .int .u8 0, .int .u8 0, .int .u8 0, .int .u8 0] 52 (0, 0)) (by (with_reducible repeat (first | refine blk_drewN ?_ _ | refine blk_drew ?_ | refine blk_alloc ?_ _)); exact BK152.out)) : gb152 ≠ gb153)); have n9_ := Aside0.mk ((by rw [hg]; exact Nat.ne_of_gt (blk_lt (g := gb152) (o := .cells #[.int .u8 0, .int .u8 0, .int .u8 0, .int .u8 0, .int .u8 0, .int .u8 0, .int .u8 0, .int .u8 0] 52 (0, 0)) (by (with_reducible repeat (first | refine blk_drewN ?_ _ | refine blk_drew ?_ | refine blk_alloc ?_ _)); exact BK152.out)) : gb153 ≠ gb152)); clear BK151; clear BK152; clear HB; have BK151 := n0_; have BK152 := n1_; have HB := n2_; have BK153 := n3_; have GW153 := n4_; have GE153 := n5_; have NB151_153 := n6_; have NB153_151 := n7_; have NB152_153 := n8_; have NB153_152 := n9_; clear n0_ n1_ n2_ n3_ n4_ n5_ n6_ n7_ n8_ n9_; clear hb hbox hg; have hnb9 := NB151_152.out; have hnc9 := NB152_151.out; have hnb10 := NB151_153.out; have hnc10 := NB153_151.out; have hcz11_0 : w8.cell? ⟨gb151, 0, none⟩ = some (.int .u8 0) := (blk_cell BK151.out 0).trans rfl; have hcz11_1 : w8.cell? ⟨gb151, 1, none⟩ = some (.int .u8 0) := (blk_cell BK151.out 1).trans rfl; have hcz11_2 : w8.cell? ⟨gb151, 2, none⟩ = some (.int .u8 0) := (blk_cell BK151.out 2).trans rfl; have hcz11_3 : w8.cell? ⟨gb151, 3, none⟩ = some (.int .u8 0) := (blk_cell BK151.out 3).trans rfl; have hcz11_4 : w8.cell? ⟨gb151, 4, none⟩ = some (.int .u8 0) := (blk_cell BK151.out 4).trans rfl; have hcz11_5 : w8.cell? ⟨gb151, 5, none⟩ = some (.int .u8 0) := (blk_cell BK151.out 5).trans rfl; have hcz11_6 : w8.cell? ⟨gb151, 6, none⟩ = some (.int .u8 0) := (blk_cell BK151.out 6).trans rfl; have hcz11_7 : w8.cell? ⟨gb151, 7, none⟩ = some (.int .u8 0) := (blk_cell BK151.out 7).trans rfl; have hfz11_0 := blk_frozen BK151.out 0; have hfz11_1 := blk_frozen BK151.out 1; have hfz11_2 := blk_frozen BK151.out 2; have hfz11_3 := blk_frozen BK151.out 3; have hfz11_4 := blk_frozen BK151.out 4; have hfz11_5 := blk_frozen BK151.out 5; have hfz11_6 := blk_frozen BK151.out 6; have hfz11_7 := blk_frozen BK151.out 7; have hnb12 := NB152_153.out; have hnc12 := NB153_152.out; have hcz13_0 : w8.cell? ⟨gb152, 0, none⟩ = some (.int .u8 0) := (blk_cell BK152.out 0).trans rfl; have hcz13_1 : w8.cell? ⟨gb152, 1, none⟩ = some (.int .u8 0) := (blk_cell BK152.out 1).trans rfl; have hcz13_2 : w8.cell? ⟨gb152, 2, none⟩ = some (.int .u8 0) := (blk_cell BK152.out 2).trans rfl; have hcz13_3 : w8.cell? ⟨gb152, 3, none⟩ = some (.int .u8 0) := (blk_cell BK152.out 3).trans rfl; have hcz13_4 : w8.cell? ⟨gb152, 4, none⟩ = some (.int .u8 0) := (blk_cell BK152.out 4).trans rfl; have hcz13_5 : w8.cell? ⟨gb152, 5, none⟩ = some (.int .u8 0) := (blk_cell BK152.out 5).trans rfl; have hcz13_6 : w8.cell? ⟨gb152, 6, none⟩ = some (.int .u8 0) := (blk_cell BK152.out 6).trans rfl; have hcz13_7 : w8.cell? ⟨gb152, 7, none⟩ = some (.int .u8 0) := (blk_cell BK152.out 7).trans rfl; have hfz13_0 := blk_frozen BK152.out 0; have hfz13_1 := blk_frozen BK152.out 1; have hfz13_2 := blk_frozen BK152.out 2; have hfz13_3 := blk_frozen BK152.out 3; have hfz13_4 := blk_frozen BK152.out 4; have hfz13_5 := blk_frozen BK152.out 5; have hfz13_6 := blk_frozen BK152.out 6; have hfz13_7 := blk_frozen BK152.out 7; have hcz14_0 : w8.cell? ⟨gb153, 0, none⟩ = some (.int .u8 0) := (blk_cell BK153.out 0).trans rfl; have hcz14_1 : w8.cell? ⟨gb153, 1, none⟩ = some (.int .u8 0) := (blk_cell BK153.out 1).trans rfl; have hcz14_2 : w8.cell? ⟨gb153, 2, none⟩ = some (.int .u8 0) := (blk_cell BK153.out 2).trans rfl; have hcz14_3 : w8.cell? ⟨gb153, 3, none⟩ = some (.int .u8 0) := (blk_cell BK153.out 3).trans rfl; have hcz14_4 : w8.cell? ⟨gb153, 4, none⟩ = some (.int .u8 0) := (blk_cell BK153.out 4).trans rfl; have hcz14_5 : w8.cell? ⟨gb153, 5, none⟩ = some (.int .u8 0) := (blk_cell BK153.out 5).trans rfl; have hcz14_6 : w8.cell? ⟨gb153, 6, none⟩ = some (.int .u8 0) := (blk_cell BK153.out 6).trans rfl; have hcz14_7 : w8.cell? ⟨gb153, 7, none⟩ = some (.int .u8 0) := (blk_cell BK153.out 7).trans rfl; have hfz14_0 := blk_frozen BK153.out 0; have hfz14_1 := blk_frozen BK153.out 1; have hfz14_2 := blk_frozen BK153.out 2; have hfz14_3 := blk_frozen BK153.out 3; have hfz14_4 := blk_frozen BK153.out 4; have hfz14_5 := blk_frozen BK153.out 5; have hfz14_6 := blk_frozen BK153.out 6; have hfz14_7 := blk_frozen BK153.out 7))
  have n0_ : Aside0 (((((((((((((((((((((((((w8.setCell ⟨gb151, 0, none⟩ (.int .u8 1)).setCell ⟨gb151, 1, none⟩ (.int .u8 0)).setCell ⟨gb151, 2, none⟩ (.int .u8 0)).setCell ⟨gb151, 3, none⟩ (.int .u8 0)).setCell ⟨gb151, 4, none⟩ (.int .u8 0)).setCell ⟨gb151, 5, none⟩ (.int .u8 0)).setCell ⟨gb151, 6, none⟩ (.int .u8 0)).setCell ⟨gb151, 7, none⟩ (.int .u8 0)).setCell ⟨gb152, 0, none⟩ (.int .u8 2)).setCell ⟨gb152, 1, none⟩ (.int .u8 0)).setCell ⟨gb152, 2, none⟩ (.int .u8 0)).setCell ⟨gb152, 3, none⟩ (.int .u8 0)).setCell ⟨gb152, 4, none⟩ (.int .u8 0)).setCell ⟨gb152, 5, none⟩ (.int .u8 0)).setCell ⟨gb152, 6, none⟩ (.int .u8 0)).setCell ⟨gb152, 7, none⟩ (.int .u8 0)).setCell ⟨gb153, 0, none⟩ (.int .u8 3)).setCell ⟨gb153, 1, none⟩ (.int .u8 0)).setCell ⟨gb153, 2, none⟩ (.int .u8 0)).setCell ⟨gb153, 3, none⟩ (.int .u8 0)).setCell ⟨gb153, 4, none⟩ (.int .u8 0)).setCell ⟨gb153, 5, none⟩ (.int .u8 0)).setCell ⟨gb153, 6, none⟩ (.int .u8 0)).setCell ⟨gb153, 7, none⟩ (.int .u8 0)).heap[gb151]? = some (.cells #[.int .u8 1, .int .u8 0, .int .u8 0, .int .u8 0, .int .u8 0, .int .u8 0, .int .u8 0, .int .u8 0] 52 (0, 0))) := ⟨by (with_reducible repeat (first | refine blk_drewN ?_ _ | refine blk_drew ?_ | refine blk_alloc ?_ _)); refine blk_far ?_ NB151_153.out _; (with_reducible repeat (first | refine blk_drewN ?_ _ | refine blk_drew ?_ | refine blk_alloc ?_ _)); refine blk_far ?_ NB151_153.out _; (with_reducible repeat (first | refine blk_drewN ?_ _ | refine blk_drew ?_ | refine blk_alloc ?_ _)); refine blk_far ?_ NB151_153.out _; (with_reducible repeat (first | refine blk_drewN ?_ _ | refine blk_drew ?_ | refine blk_alloc ?_ _)); refine blk_far ?_ NB151_153.out _; (with_reducible repeat (first | refine blk_drewN ?_ _ | refine blk_drew ?_ | refine blk_alloc ?_ _)); refine blk_far ?_ NB151_153.out _; (with_reducible repeat (first | refine blk_drewN ?_ _ | refine blk_drew ?_ | refine blk_alloc ?_ _)); refine blk_far ?_ NB151_153.out _; (with_reducible repeat (first | refine blk_drewN ?_ _ | refine blk_drew ?_ | refine blk_alloc ?_ _)); refine blk_far ?_ NB151_153.out _; (with_reducible repeat (first | refine blk_drewN ?_ _ | refine blk_drew ?_ | refine blk_alloc ?_ _)); refine blk_far ?_ NB151_153.out _; (with_reducible repeat (first | refine blk_drewN ?_ _ | refine blk_drew ?_ | refine blk_alloc ?_ _)); refine blk_far ?_ NB151_152.out _; (with_reducible repeat (first | refine blk_drewN ?_ _ | refine blk_drew ?_ | refine blk_alloc ?_ _)); refine blk_far ?_ NB151_152.out _; (with_reducible repeat (first | refine blk_drewN ?_ _ | refine blk_drew ?_ | refine blk_alloc ?_ _)); refine blk_far ?_ NB151_152.out _; (with_reducible repeat (first | refine blk_drewN ?_ _ | refine blk_drew ?_ | refine blk_alloc ?_ _)); refine blk_far ?_ NB151_152.out _; (with_reducible repeat (first | refine blk_drewN ?_ _ | refine blk_drew ?_ | refine blk_alloc ?_ _)); refine blk_far ?_ NB151_152.out _; (with_reducible repeat (first | refine blk_drewN ?_ _ | refine blk_drew ?_ | refine blk_alloc ?_ _)); refine blk_far ?_ NB151_152.out _; (with_reducible repeat (first | refine blk_drewN ?_ _ | refine blk_drew ?_ | refine blk_alloc ?_ _)); refine blk_far ?_ NB151_152.out _; (with_reducible repeat (first | refine blk_drewN ?_ _ | refine blk_drew ?_ | refine blk_alloc ?_ _)); refine blk_far ?_ NB151_152.out _; (with_reducible repeat (first | refine blk_drewN ?_ _ | refine blk_drew ?_ | refine blk_alloc ?_ _)); refine blk_put (cs := #[.int .u8 1, .int .u8 0, .int .u8 0, .int .u8 0, .int .u8 0, .int .u8 0, .int .u8 0, .int .u8 0]) ?_ 7 _ rfl; (with_reducible repeat (first | refine blk_drewN ?_ _ | refine blk_drew ?_ | refine blk_alloc ?_ _)); refine blk_put (cs := #[.int .u8 1, .int .u8 0, .int .u8 0, .int .u8 0, .int .u8 0, .int .u8 0, .int .u8 0, .int .u8 0]) ?_ 6 _ rfl; (with_reducible repeat (first | refine blk_drewN ?_ _ | refine blk_drew ?_ | refine blk_alloc ?_ _)); refine blk_put (cs := #[.int .u8 1, .int .u8 0, .int .u8 0, .int .u8 0, .int .u8 0, .int .u8 0, .int .u8 0, .int .u8 0]) ?_ 5 _ rfl; (with_reducible repeat (first | refine blk_drewN ?_ _ | refine blk_drew ?_ | refine blk_alloc ?_ _)); refine blk_put (cs := #[.int .u8 1, .int .u8 0, .int .u8 0, .int .u8 0, .int .u8 0, .int .u8 0, .int .u8 0, .int .u8 0]) ?_ 4 _ rfl; (with_reducible repeat (first | refine blk_drewN ?_ _ | refine blk_drew ?_ | refine blk_alloc ?_ _)); refine blk_put (cs := #[.int .u8 1, .int .u8 0, .int .u8 0, .int .u8 0, .int .u8 0, .int .u8 0, .int .u8 0, .int .u8 0]) ?_ 3 _ rfl; (with_reducible repeat (first | refine blk_drewN ?_ _ | refine blk_drew ?_ | refine blk_alloc ?_ _)); refine blk_put (cs := #[.int .u8 1, .int .u8 0, .int .u8 0, .int .u8 0, .int .u8 0, .int .u8 0, .int .u8 0, .int .u8 0]) ?_ 2 _ rfl; (with_reducible repeat (first | refine blk_drewN ?_ _ | refine blk_drew ?_ | refine blk_alloc ?_ _)); refine blk_put (cs := #[.int .u8 1, .int .u8 0, .int .u8 0, .int .u8 0, .int .u8 0, .int .u8 0, .int .u8 0, .int .u8 0]) ?_ 1 _ rfl; (with_reducible repeat (first | refine blk_drewN ?_ _ | refine blk_drew ?_ | refine blk_alloc ?_ _)); refine blk_put (cs := #[.int .u8 0, .int .u8 0, .int .u8 0, .int .u8 0, .int .u8 0, .int .u8 0, .int .u8 0, .int .u8 0]) ?_ 0 _ rfl; (with_reducible repeat (first | refine blk_drewN ?_ _ | refine blk_drew ?_ | refine blk_alloc ?_ _)); exact BK151.out⟩
  have n1_ : Aside0 (((((((((((((((((((((((((w8.setCell ⟨gb151, 0, none⟩ (.int .u8 1)).setCell ⟨gb151, 1, none⟩ (.int .u8 0)).setCell ⟨gb151, 2, none⟩ (.int .u8 0)).setCell ⟨gb151, 3, none⟩ (.int .u8 0)).setCell ⟨gb151, 4, none⟩ (.int .u8 0)).setCell ⟨gb151, 5, none⟩ (.int .u8 0)).setCell ⟨gb151, 6, none⟩ (.int .u8 0)).setCell ⟨gb151, 7, none⟩ (.int .u8 0)).setCell ⟨gb152, 0, none⟩ (.int .u8 2)).setCell ⟨gb152, 1, none⟩ (.int .u8 0)).setCell ⟨gb152, 2, none⟩ (.int .u8 0)).setCell ⟨gb152, 3, none⟩ (.int .u8 0)).setCell ⟨gb152, 4, none⟩ (.int .u8 0)).setCell ⟨gb152, 5, none⟩ (.int .u8 0)).setCell ⟨gb152, 6, none⟩ (.int .u8 0)).setCell ⟨gb152, 7, none⟩ (.int .u8 0)).setCell ⟨gb153, 0, none⟩ (.int .u8 3)).setCell ⟨gb153, 1, none⟩ (.int .u8 0)).setCell ⟨gb153, 2, none⟩ (.int .u8 0)).setCell ⟨gb153, 3, none⟩ (.int .u8 0)).setCell ⟨gb153, 4, none⟩ (.int .u8 0)).setCell ⟨gb153, 5, none⟩ (.int .u8 0)).setCell ⟨gb153, 6, none⟩ (.int .u8 0)).setCell ⟨gb153, 7, none⟩ (.int .u8 0)).heap[gb152]? = some (.cells #[.int .u8 2, .int .u8 0, .int .u8 0, .int .u8 0, .int .u8 0, .int .u8 0, .int .u8 0, .int .u8 0] 52 (0, 0))) := ⟨by (with_reducible repeat (first | refine blk_drewN ?_ _ | refine blk_drew ?_ | refine blk_alloc ?_ _)); refine blk_far ?_ NB152_153.out _; (with_reducible repeat (first | refine blk_drewN ?_ _ | refine blk_drew ?_ | refine blk_alloc ?_ _)); refine blk_far ?_ NB152_153.out _; (with_reducible repeat (first | refine blk_drewN ?_ _ | refine blk_drew ?_ | refine blk_alloc ?_ _)); refine blk_far ?_ NB152_153.out _; (with_reducible repeat (first | refine blk_drewN ?_ _ | refine blk_drew ?_ | refine blk_alloc ?_ _)); refine blk_far ?_ NB152_153.out _; (with_reducible repeat (first | refine blk_drewN ?_ _ | refine blk_drew ?_ | refine blk_alloc ?_ _)); refine blk_far ?_ NB152_153.out _; (with_reducible repeat (first | refine blk_drewN ?_ _ | refine blk_drew ?_ | refine blk_alloc ?_ _)); refine blk_far ?_ NB152_153.out _; (with_reducible repeat (first | refine blk_drewN ?_ _ | refine blk_drew ?_ | refine blk_alloc ?_ _)); refine blk_far ?_ NB152_153.out _; (with_reducible repeat (first | refine blk_drewN ?_ _ | refine blk_drew ?_ | refine blk_alloc ?_ _)); refine blk_far ?_ NB152_153.out _; (with_reducible repeat (first | refine blk_drewN ?_ _ | refine blk_drew ?_ | refine blk_alloc ?_ _)); refine blk_put (cs := #[.int .u8 2, .int .u8 0, .int .u8 0, .int .u8 0, .int .u8 0, .int .u8 0, .int .u8 0, .int .u8 0]) ?_ 7 _ rfl; (with_reducible repeat (first | refine blk_drewN ?_ _ | refine blk_drew ?_ | refine blk_alloc ?_ _)); refine blk_put (cs := #[.int .u8 2, .int .u8 0, .int .u8 0, .int .u8 0, .int .u8 0, .int .u8 0, .int .u8 0, .int .u8 0]) ?_ 6 _ rfl; (with_reducible repeat (first | refine blk_drewN ?_ _ | refine blk_drew ?_ | refine blk_alloc ?_ _)); refine blk_put (cs := #[.int .u8 2, .int .u8 0, .int .u8 0, .int .u8 0, .int .u8 0, .int .u8 0, .int .u8 0, .int .u8 0]) ?_ 5 _ rfl; (with_reducible repeat (first | refine blk_drewN ?_ _ | refine blk_drew ?_ | refine blk_alloc ?_ _)); refine blk_put (cs := #[.int .u8 2, .int .u8 0, .int .u8 0, .int .u8 0, .int .u8 0, .int .u8 0, .int .u8 0, .int .u8 0]) ?_ 4 _ rfl; (with_reducible repeat (first | refine blk_drewN ?_ _ | refine blk_drew ?_ | refine blk_alloc ?_ _)); refine blk_put (cs := #[.int .u8 2, .int .u8 0, .int .u8 0, .int .u8 0, .int .u8 0, .int .u8 0, .int .u8 0, .int .u8 0]) ?_ 3 _ rfl; (with_reducible repeat (first | refine blk_drewN ?_ _ | refine blk_drew ?_ | refine blk_alloc ?_ _)); refine blk_put (cs := #[.int .u8 2, .int .u8 0, .int .u8 0, .int .u8 0, .int .u8 0, .int .u8 0, .int .u8 0, .int .u8 0]) ?_ 2 _ rfl; (with_reducible repeat (first | refine blk_drewN ?_ _ | refine blk_drew ?_ | refine blk_alloc ?_ _)); refine blk_put (cs := #[.int .u8 2, .int .u8 0, .int .u8 0, .int .u8 0, .int .u8 0, .int .u8 0, .int .u8 0, .int .u8 0]) ?_ 1 _ rfl; (with_reducible repeat (first | refine blk_drewN ?_ _ | refine blk_drew ?_ | refine blk_alloc ?_ _)); refine blk_put (cs := #[.int .u8 0, .int .u8 0, .int .u8 0, .int .u8 0, .int .u8 0, .int .u8 0, .int .u8 0, .int .u8 0]) ?_ 0 _ rfl; (with_reducible repeat (first | refine blk_drewN ?_ _ | refine blk_drew ?_ | refine blk_alloc ?_ _)); refine blk_far ?_ NB152_151.out _; (with_reducible repeat (first | refine blk_drewN ?_ _ | refine blk_drew ?_ | refine blk_alloc ?_ _)); refine blk_far ?_ NB152_151.out _; (with_reducible repeat (first | refine blk_drewN ?_ _ | refine blk_drew ?_ | refine blk_alloc ?_ _)); refine blk_far ?_ NB152_151.out _; (with_reducible repeat (first | refine blk_drewN ?_ _ | refine blk_drew ?_ | refine blk_alloc ?_ _)); refine blk_far ?_ NB152_151.out _; (with_reducible repeat (first | refine blk_drewN ?_ _ | refine blk_drew ?_ | refine blk_alloc ?_ _)); refine blk_far ?_ NB152_151.out _; (with_reducible repeat (first | refine blk_drewN ?_ _ | refine blk_drew ?_ | refine blk_alloc ?_ _)); refine blk_far ?_ NB152_151.out _; (with_reducible repeat (first | refine blk_drewN ?_ _ | refine blk_drew ?_ | refine blk_alloc ?_ _)); refine blk_far ?_ NB152_151.out _; (with_reducible repeat (first | refine blk_drewN ?_ _ | refine blk_drew ?_ | refine blk_alloc ?_ _)); refine blk_far ?_ NB152_151.out _; (with_reducible repeat (first | refine blk_drewN ?_ _ | refine blk_drew ?_ | refine blk_alloc ?_ _)); exact BK152.out⟩
  have n2_ : Aside0 (((((((((((((((((((((((((w8.setCell ⟨gb151, 0, none⟩ (.int .u8 1)).setCell ⟨gb151, 1, none⟩ (.int .u8 0)).setCell ⟨gb151, 2, none⟩ (.int .u8 0)).setCell ⟨gb151, 3, none⟩ (.int .u8 0)).setCell ⟨gb151, 4, none⟩ (.int .u8 0)).setCell ⟨gb151, 5, none⟩ (.int .u8 0)).setCell ⟨gb151, 6, none⟩ (.int .u8 0)).setCell ⟨gb151, 7, none⟩ (.int .u8 0)).setCell ⟨gb152, 0, none⟩ (.int .u8 2)).setCell ⟨gb152, 1, none⟩ (.int .u8 0)).setCell ⟨gb152, 2, none⟩ (.int .u8 0)).setCell ⟨gb152, 3, none⟩ (.int .u8 0)).setCell ⟨gb152, 4, none⟩ (.int .u8 0)).setCell ⟨gb152, 5, none⟩ (.int .u8 0)).setCell ⟨gb152, 6, none⟩ (.int .u8 0)).setCell ⟨gb152, 7, none⟩ (.int .u8 0)).setCell ⟨gb153, 0, none⟩ (.int .u8 3)).setCell ⟨gb153, 1, none⟩ (.int .u8 0)).setCell ⟨gb153, 2, none⟩ (.int .u8 0)).setCell ⟨gb153, 3, none⟩ (.int .u8 0)).setCell ⟨gb153, 4, none⟩ (.int .u8 0)).setCell ⟨gb153, 5, none⟩ (.int .u8 0)).setCell ⟨gb153, 6, none⟩ (.int .u8 0)).setCell ⟨gb153, 7, none⟩ (.int .u8 0)).heap[gb153]? = some (.cells #[.int .u8 3, .int .u8 0, .int .u8 0, .int .u8 0, .int .u8 0, .int .u8 0, .int .u8 0, .int .u8 0] 52 (0, 0))) := ⟨by (with_reducible repeat (first | refine blk_drewN ?_ _ | refine blk_drew ?_ | refine blk_alloc ?_ _)); refine blk_put (cs := #[.int .u8 3, .int .u8 0, .int .u8 0, .int .u8 0, .int .u8 0, .int .u8 0, .int .u8 0, .int .u8 0]) ?_ 7 _ rfl; (with_reducible repeat (first | refine blk_drewN ?_ _ | refine blk_drew ?_ | refine blk_alloc ?_ _)); refine blk_put (cs := #[.int .u8 3, .int .u8 0, .int .u8 0, .int .u8 0, .int .u8 0, .int .u8 0, .int .u8 0, .int .u8 0]) ?_ 6 _ rfl; (with_reducible repeat (first | refine blk_drewN ?_ _ | refine blk_drew ?_ | refine blk_alloc ?_ _)); refine blk_put (cs := #[.int .u8 3, .int .u8 0, .int .u8 0, .int .u8 0, .int .u8 0, .int .u8 0, .int .u8 0, .int .u8 0]) ?_ 5 _ rfl; (with_reducible repeat (first | refine blk_drewN ?_ _ | refine blk_drew ?_ | refine blk_alloc ?_ _)); refine blk_put (cs := #[.int .u8 3, .int .u8 0, .int .u8 0, .int .u8 0, .int .u8 0, .int .u8 0, .int .u8 0, .int .u8 0]) ?_ 4 _ rfl; (with_reducible repeat (first | refine blk_drewN ?_ _ | refine blk_drew ?_ | refine blk_alloc ?_ _)); refine blk_put (cs := #[.int .u8 3, .int .u8 0, .int .u8 0, .int .u8 0, .int .u8 0, .int .u8 0, .int .u8 0, .int .u8 0]) ?_ 3 _ rfl; (with_reducible repeat (first | refine blk_drewN ?_ _ | refine blk_drew ?_ | refine blk_alloc ?_ _)); refine blk_put (cs := #[.int .u8 3, .int .u8 0, .int .u8 0, .int .u8 0, .int .u8 0, .int .u8 0, .int .u8 0, .int .u8 0]) ?_ 2 _ rfl; (with_reducible repeat (first | refine blk_drewN ?_ _ | refine blk_drew ?_ | refine blk_alloc ?_ _)); refine blk_put (cs := #[.int .u8 3, .int .u8 0, .int .u8 0, .int .u8 0, .int .u8 0, .int .u8 0, .int .u8 0, .int .u8 0]) ?_ 1 _ rfl; (with_reducible repeat (first | refine blk_drewN ?_ _ | refine blk_drew ?_ | refine blk_alloc ?_ _)); refine blk_put (cs := #[.int .u8 0, .int .u8 0, .int .u8 0, .int .u8 0, .int .u8 0, .int .u8 0, .int .u8 0, .int .u8 0]) ?_ 0 _ rfl; (with_reducible repeat (first | refine blk_drewN ?_ _ | refine blk_drew ?_ | refine blk_alloc ?_ _)); refine blk_far ?_ NB153_152.out _; (with_reducible repeat (first | refine blk_drewN ?_ _ | refine blk_drew ?_ | refine blk_alloc ?_ _)); refine blk_far ?_ NB153_152.out _; (with_reducible repeat (first | refine blk_drewN ?_ _ | refine blk_drew ?_ | refine blk_alloc ?_ _)); refine blk_far ?_ NB153_152.out _; (with_reducible repeat (first | refine blk_drewN ?_ _ | refine blk_drew ?_ | refine blk_alloc ?_ _)); refine blk_far ?_ NB153_152.out _; (with_reducible repeat (first | refine blk_drewN ?_ _ | refine blk_drew ?_ | refine blk_alloc ?_ _)); refine blk_far ?_ NB153_152.out _; (with_reducible repeat (first | refine blk_drewN ?_ _ | refine blk_drew ?_ | refine blk_alloc ?_ _)); refine blk_far ?_ NB153_152.out _; (with_reducible repeat (first | refine blk_drewN ?_ _ | refine blk_drew ?_ | refine blk_alloc ?_ _)); refine blk_far ?_ NB153_152.out _; (with_reducible repeat (first | refine blk_drewN ?_ _ | refine blk_drew ?_ | refine blk_alloc ?_ _)); refine blk_far ?_ NB153_152.out _; (with_reducible repeat (first | refine blk_drewN ?_ _ | refine blk_drew ?_ | refine blk_alloc ?_ _)); refine blk_far ?_ NB153_151.out _; (with_reducible repeat (first | refine blk_drewN ?_ _ | refine blk_drew ?_ | refine blk_alloc ?_ _)); refine blk_far ?_ NB153_151.out _; (with_reducible repeat (first | refine blk_drewN ?_ _ | refine blk_drew ?_ | refine blk_alloc ?_ _)); refine blk_far ?_ NB153_151.out _; (with_reducible repeat (first | refine blk_drewN ?_ _ | refine blk_drew ?_ | refine blk_alloc ?_ _)); refine blk_far ?_ NB153_151.out _; (with_reducible repeat (first | refine blk_drewN ?_ _ | refine blk_drew ?_ | refine blk_alloc ?_ _)); refine blk_far ?_ NB153_151.out _; (with_reducible repeat (first | refine blk_drewN ?_ _ | refine blk_drew ?_ | refine blk_alloc ?_ _)); refine blk_far ?_ NB153_151.out _; (with_reducible repeat (first | refine blk_drewN ?_ _ | refine blk_drew ?_ | refine blk_alloc ?_ _)); refine blk_far ?_ NB153_151.out _; (with_reducible repeat (first | refine blk_drewN ?_ _ | refine blk_drew ?_ | refine blk_alloc ?_ _)); refine blk_far ?_ NB153_151.out _; (with_reducible repeat (first | refine blk_drewN ?_ _ | refine blk_drew ?_ | refine blk_alloc ?_ _)); exact BK153.out⟩
  have n3_ : Aside0 (Below w.heap.size w ((((((((((((((((((((((((w8.setCell ⟨gb151, 0, none⟩ (.int .u8 1)).setCell ⟨gb151, 1, none⟩ (.int .u8 0)).setCell ⟨gb151, 2, none⟩ (.int .u8 0)).setCell ⟨gb151, 3, none⟩ (.int .u8 0)).setCell ⟨gb151, 4, none⟩ (.int .u8 0)).setCell ⟨gb151, 5, none⟩ (.int .u8 0)).setCell ⟨gb151, 6, none⟩ (.int .u8 0)).setCell ⟨gb151, 7, none⟩ (.int .u8 0)).setCell ⟨gb152, 0, none⟩ (.int .u8 2)).setCell ⟨gb152, 1, none⟩ (.int .u8 0)).setCell ⟨gb152, 2, none⟩ (.int .u8 0)).setCell ⟨gb152, 3, none⟩ (.int .u8 0)).setCell ⟨gb152, 4, none⟩ (.int .u8 0)).setCell ⟨gb152, 5, none⟩ (.int .u8 0)).setCell ⟨gb152, 6, none⟩ (.int .u8 0)).setCell ⟨gb152, 7, none⟩ (.int .u8 0)).setCell ⟨gb153, 0, none⟩ (.int .u8 3)).setCell ⟨gb153, 1, none⟩ (.int .u8 0)).setCell ⟨gb153, 2, none⟩ (.int .u8 0)).setCell ⟨gb153, 3, none⟩ (.int .u8 0)).setCell ⟨gb153, 4, none⟩ (.int .u8 0)).setCell ⟨gb153, 5, none⟩ (.int .u8 0)).setCell ⟨gb153, 6, none⟩ (.int .u8 0)).setCell ⟨gb153, 7, none⟩ (.int .u8 0))) := ⟨by repeat (first | (with_reducible first | exact HB.out | apply below_alloc | apply pw_below_drewN | apply below_drew1 | refine below_set ?_ GE151.out | refine below_set ?_ GE152.out | refine below_set ?_ GE153.out) | exact HB.out)⟩
  (try clear BK151)
  (try clear BK152)
  (try clear BK153)
  (try clear HB)
  generalize ((((((((((((((((((((((((w8.setCell ⟨gb151, 0, none⟩ (.int .u8 1)).setCell ⟨gb151, 1, none⟩ (.int .u8 0)).setCell ⟨gb151, 2, none⟩ (.int .u8 0)).setCell ⟨gb151, 3, none⟩ (.int .u8 0)).setCell ⟨gb151, 4, none⟩ (.int .u8 0)).setCell ⟨gb151, 5, none⟩ (.int .u8 0)).setCell ⟨gb151, 6, none⟩ (.int .u8 0)).setCell ⟨gb151, 7, none⟩ (.int .u8 0)).setCell ⟨gb152, 0, none⟩ (.int .u8 2)).setCell ⟨gb152, 1, none⟩ (.int .u8 0)).setCell ⟨gb152, 2, none⟩ (.int .u8 0)).setCell ⟨gb152, 3, none⟩ (.int .u8 0)).setCell ⟨gb152, 4, none⟩ (.int .u8 0)).setCell ⟨gb152, 5, none⟩ (.int .u8 0)).setCell ⟨gb152, 6, none⟩ (.int .u8 0)).setCell ⟨gb152, 7, none⟩ (.int .u8 0)).setCell ⟨gb153, 0, none⟩ (.int .u8 3)).setCell ⟨gb153, 1, none⟩ (.int .u8 0)).setCell ⟨gb153, 2, none⟩ (.int .u8 0)).setCell ⟨gb153, 3, none⟩ (.int .u8 0)).setCell ⟨gb153, 4, none⟩ (.int .u8 0)).setCell ⟨gb153, 5, none⟩ (.int .u8 0)).setCell ⟨gb153, 6, none⟩ (.int .u8 0)).setCell ⟨gb153, 7, none⟩ (.int .u8 0)) = w15 at n0_ n1_ n2_ n3_ ⊢
  have BK151 := n0_
  have BK152 := n1_
  have BK153 := n2_
  have HB := n3_
  clear n0_ n1_ n2_ n3_
  have n0_ := Aside0.mk (blk_drew BK151.out)
  have n1_ := Aside0.mk (blk_drew BK152.out)
  have n2_ := Aside0.mk (blk_drew BK153.out)
  have n3_ := Aside0.mk (below_drew1 HB.out)
  clear BK151
  clear BK152
  clear BK153
  clear HB
  have BK151 := n0_
  have BK152 := n1_
  have BK153 := n2_
  have HB := n3_
  clear n0_ n1_ n2_ n3_
  refine start_ (n := 16) (S := fun w' => True) (ds := []) #[false, false, false, false, false, false, false, false, false, false, false, false, false, false, false, false] (by kernel_rfl) rfl rfl trivial (fun hHeld => ?_); refine with_tabW standbylaw45_awake.tab2 standbylaw45_awake.bits2 (fun HT_ HW_ => ?_)
  generalize w15.drew = w16 at BK151 BK152 BK153 HB hHeld ⊢
  refine inv_at [0, 1, 2, 3, 4, 5, 6, 7, 8, 9, 10, 11, 12, 13, 14, 15] (fun a0_ b a w' => ∃ (v155 : Value) (v158 : Value) (v161 : Value) (v164 : Value) (m14_ : Value) (m15_ : Value), a = putSel a0_ b [(0, 18, .agg #[.int .u8 1, .int .u8 0, .int .u8 0, .int .u8 0, .int .u8 0, .int .u8 0, .int .u8 0, .int .u8 0]), (1, 19, .agg #[.int .u8 2, .int .u8 0, .int .u8 0, .int .u8 0, .int .u8 0, .int .u8 0, .int .u8 0, .int .u8 0]), (2, 20, .agg #[.int .u8 0, .int .u8 0, .int .u8 0, .int .u8 0, .int .u8 0, .int .u8 0, .int .u8 0, .int .u8 0]), (3, 21, .agg #[.int .u8 0, .int .u8 0, .int .u8 0, .int .u8 0, .int .u8 0, .int .u8 0, .int .u8 0, .int .u8 0]), (4, 22, .agg #[.int .u8 3, .int .u8 0, .int .u8 0, .int .u8 0, .int .u8 0, .int .u8 0, .int .u8 0, .int .u8 0]), (5, 23, v155), (6, 24, v158), (7, 25, .agg #[.int .u8 0, .int .u8 0, .int .u8 0, .int .u8 0, .int .u8 0, .int .u8 0, .int .u8 0, .int .u8 0]), (8, 26, .agg #[.int .u8 2, .int .u8 0, .int .u8 0, .int .u8 0, .int .u8 0, .int .u8 0, .int .u8 0, .int .u8 0]), (9, 27, .agg #[.int .u8 0, .int .u8 0, .int .u8 0, .int .u8 0, .int .u8 0, .int .u8 0, .int .u8 0, .int .u8 0]), (10, 28, .agg #[.int .u8 0, .int .u8 0, .int .u8 0, .int .u8 0, .int .u8 0, .int .u8 0, .int .u8 0, .int .u8 0]), (11, 29, .agg #[.int .u8 0, .int .u8 0, .int .u8 0, .int .u8 0, .int .u8 0, .int .u8 0, .int .u8 0, .int .u8 0]), (12, 30, v161), (13, 31, v164), (14, 4, m14_), (15, 5, m15_)] ∧ (w'.heap[gb151]? = some (.cells #[.int .u8 1, .int .u8 0, .int .u8 0, .int .u8 0, .int .u8 0, .int .u8 0, .int .u8 0, .int .u8 0] 52 (0, 0))) ∧ (w'.heap[gb152]? = some (.cells #[.int .u8 2, .int .u8 0, .int .u8 0, .int .u8 0, .int .u8 0, .int .u8 0, .int .u8 0, .int .u8 0] 52 (0, 0))) ∧ (w'.heap[gb153]? = some (.cells #[.int .u8 3, .int .u8 0, .int .u8 0, .int .u8 0, .int .u8 0, .int .u8 0, .int .u8 0, .int .u8 0] 52 (0, 0))) ∧ (Below w.heap.size w w') ∧ (b 5 = true → b 6 = false → Kd.R k52 52 w' w.heap.size (fun k_ => k_ ≠ gb151 ∧ k_ ≠ gb152 ∧ k_ ≠ gb153) v155 y154) ∧ (b 6 = true → Kd.N (Kd.slice 52 k52) 49 w' w.heap.size (fun k_ => k_ ≠ gb151 ∧ k_ ≠ gb152 ∧ k_ ≠ gb153) v158 y157) ∧ (b 12 = true → b 13 = false → Kd.R k52 52 w' w.heap.size (fun k_ => k_ ≠ gb151 ∧ k_ ≠ gb152 ∧ k_ ≠ gb153) v161 y160) ∧ (b 13 = true → Kd.N (Kd.slice 52 k52) 49 w' w.heap.size (fun k_ => k_ ≠ gb151 ∧ k_ ≠ gb152 ∧ k_ ≠ gb153) v164 y163) ∧ (b 14 = true → (m14_ : Value) = v158) ∧ (b 15 = true → (m15_ : Value) = v164)) HT_.out HW_.out (by kernel_rfl) (by kernel_rfl) ?_ ?_ ?_
  · exact ⟨.bool false, .bool false, .bool false, .bool false, .bool false, .bool false, by simp only [putSel, Bool.false_eq_true, if_false], BK151.out, BK152.out, BK153.out, HB.out, fun h_ => absurd h_ (by decide), fun h_ => absurd h_ (by decide), fun h_ => absurd h_ (by decide), fun h_ => absurd h_ (by decide), fun h_ => absurd h_ (by decide), fun h_ => absurd h_ (by decide)⟩
  · skip
    clear BK151 BK152 BK153 HB
    refine steps_cons ?_ ?_
    · rintro b a w' ⟨v155, v158, v161, v164, m14_, m15_, ha, Q_BK151, Q_BK152, Q_BK153, Q_HB, Q_HO156, Q_HO159, Q_HO162, Q_HO165, Q_X14_, Q_X15_⟩ hb_ hon hoff
      refine ⟨_, rfl, fun K hK => ?_⟩
      have e1 : a.tmps[1]? = some (.pointer (some ⟨gb151, 0, none⟩)) := by rw [ha]; exact (putSel_off rfl).trans rfl
      replace ha := Aside0.mk ha
      have BK151 := Aside0.mk Q_BK151
      have BK152 := Aside0.mk Q_BK152
      have BK153 := Aside0.mk Q_BK153
      have HB := Aside0.mk Q_HB
      have hc0_ : w'.cell? ⟨gb151, 0, none⟩ = some (.int .u8 1) := (blk_cell BK151.out 0).trans rfl
      have hc1_ : w'.cell? ⟨gb151, 1, none⟩ = some (.int .u8 0) := (blk_cell BK151.out 1).trans rfl
      have hc2_ : w'.cell? ⟨gb151, 2, none⟩ = some (.int .u8 0) := (blk_cell BK151.out 2).trans rfl
      have hc3_ : w'.cell? ⟨gb151, 3, none⟩ = some (.int .u8 0) := (blk_cell BK151.out 3).trans rfl
      have hc4_ : w'.cell? ⟨gb151, 4, none⟩ = some (.int .u8 0) := (blk_cell BK151.out 4).trans rfl
      have hc5_ : w'.cell? ⟨gb151, 5, none⟩ = some (.int .u8 0) := (blk_cell BK151.out 5).trans rfl
      have hc6_ : w'.cell? ⟨gb151, 6, none⟩ = some (.int .u8 0) := (blk_cell BK151.out 6).trans rfl
      have hc7_ : w'.cell? ⟨gb151, 7, none⟩ = some (.int .u8 0) := (blk_cell BK151.out 7).trans rfl
      refine value_ (w1 := w') (v := .agg #[.int .u8 1, .int .u8 0, .int .u8 0, .int .u8 0, .int .u8 0, .int .u8 0, .int .u8 0, .int .u8 0]) (by rfl) rfl ?_ ?_
      · go_simp
        (try simp only [i64_w])
        try rfl
      refine hK.out _ _ ⟨v155, v158, v161, v164, m14_, m15_, (by rw [ha.out]; exact putSel_upk 0 hb_ rfl rfl rfl), Q_BK151, Q_BK152, Q_BK153, Q_HB, fun h0_ _ => absurd ((hoff 5 (by kernel_rfl)).symm.trans h0_) (by decide), fun h0_ => absurd ((hoff 6 (by kernel_rfl)).symm.trans h0_) (by decide), Q_HO162, Q_HO165, fun h0_ => absurd ((hoff 14 (by kernel_rfl)).symm.trans h0_) (by decide), fun h0_ => absurd ((hoff 15 (by kernel_rfl)).symm.trans h0_) (by decide)⟩
    refine steps_cons ?_ ?_
    · rintro b a w' ⟨v155, v158, v161, v164, m14_, m15_, ha, Q_BK151, Q_BK152, Q_BK153, Q_HB, Q_HO156, Q_HO159, Q_HO162, Q_HO165, Q_X14_, Q_X15_⟩ hb_ hon hoff
      refine ⟨_, rfl, fun K hK => ?_⟩
      have e2 : a.tmps[2]? = some (.pointer (some ⟨gb152, 0, none⟩)) := by rw [ha]; exact (putSel_off rfl).trans rfl
      replace ha := Aside0.mk ha
      have BK151 := Aside0.mk Q_BK151
      have BK152 := Aside0.mk Q_BK152
      have BK153 := Aside0.mk Q_BK153
      have HB := Aside0.mk Q_HB
      have hc0_ : w'.cell? ⟨gb152, 0, none⟩ = some (.int .u8 2) := (blk_cell BK152.out 0).trans rfl
      have hc1_ : w'.cell? ⟨gb152, 1, none⟩ = some (.int .u8 0) := (blk_cell BK152.out 1).trans rfl
      have hc2_ : w'.cell? ⟨gb152, 2, none⟩ = some (.int .u8 0) := (blk_cell BK152.out 2).trans rfl
      have hc3_ : w'.cell? ⟨gb152, 3, none⟩ = some (.int .u8 0) := (blk_cell BK152.out 3).trans rfl
      have hc4_ : w'.cell? ⟨gb152, 4, none⟩ = some (.int .u8 0) := (blk_cell BK152.out 4).trans rfl
      have hc5_ : w'.cell? ⟨gb152, 5, none⟩ = some (.int .u8 0) := (blk_cell BK152.out 5).trans rfl
      have hc6_ : w'.cell? ⟨gb152, 6, none⟩ = some (.int .u8 0) := (blk_cell BK152.out 6).trans rfl
      have hc7_ : w'.cell? ⟨gb152, 7, none⟩ = some (.int .u8 0) := (blk_cell BK152.out 7).trans rfl
      refine value_ (w1 := w') (v := .agg #[.int .u8 2, .int .u8 0, .int .u8 0, .int .u8 0, .int .u8 0, .int .u8 0, .int .u8 0, .int .u8 0]) (by rfl) rfl ?_ ?_
      · go_simp
        (try simp only [i64_w])
        try rfl
      refine hK.out _ _ ⟨v155, v158, v161, v164, m14_, m15_, (by rw [ha.out]; exact putSel_upk 1 hb_ rfl rfl rfl), Q_BK151, Q_BK152, Q_BK153, Q_HB, fun h0_ _ => absurd ((hoff 5 (by kernel_rfl)).symm.trans h0_) (by decide), fun h0_ => absurd ((hoff 6 (by kernel_rfl)).symm.trans h0_) (by decide), Q_HO162, Q_HO165, fun h0_ => absurd ((hoff 14 (by kernel_rfl)).symm.trans h0_) (by decide), fun h0_ => absurd ((hoff 15 (by kernel_rfl)).symm.trans h0_) (by decide)⟩
    refine steps_cons ?_ ?_
    · rintro b a w' ⟨v155, v158, v161, v164, m14_, m15_, ha, Q_BK151, Q_BK152, Q_BK153, Q_HB, Q_HO156, Q_HO159, Q_HO162, Q_HO165, Q_X14_, Q_X15_⟩ hb_ hon hoff
      refine ⟨_, rfl, fun K hK => ?_⟩
      replace ha := Aside0.mk ha
      have BK151 := Aside0.mk Q_BK151
      have BK152 := Aside0.mk Q_BK152
      have BK153 := Aside0.mk Q_BK153
      have HB := Aside0.mk Q_HB
      refine value_ (w1 := w') (v := .agg #[.int .u8 0, .int .u8 0, .int .u8 0, .int .u8 0, .int .u8 0, .int .u8 0, .int .u8 0, .int .u8 0]) (by rfl) rfl ?_ ?_
      · go_simp
        (try simp only [i64_w])
        try rfl
      refine hK.out _ _ ⟨v155, v158, v161, v164, m14_, m15_, (by rw [ha.out]; exact putSel_upk 2 hb_ rfl rfl rfl), Q_BK151, Q_BK152, Q_BK153, Q_HB, fun h0_ _ => absurd ((hoff 5 (by kernel_rfl)).symm.trans h0_) (by decide), fun h0_ => absurd ((hoff 6 (by kernel_rfl)).symm.trans h0_) (by decide), Q_HO162, Q_HO165, fun h0_ => absurd ((hoff 14 (by kernel_rfl)).symm.trans h0_) (by decide), fun h0_ => absurd ((hoff 15 (by kernel_rfl)).symm.trans h0_) (by decide)⟩
    refine steps_cons ?_ ?_
    · rintro b a w' ⟨v155, v158, v161, v164, m14_, m15_, ha, Q_BK151, Q_BK152, Q_BK153, Q_HB, Q_HO156, Q_HO159, Q_HO162, Q_HO165, Q_X14_, Q_X15_⟩ hb_ hon hoff
      refine ⟨_, rfl, fun K hK => ?_⟩
      replace ha := Aside0.mk ha
      have BK151 := Aside0.mk Q_BK151
      have BK152 := Aside0.mk Q_BK152
      have BK153 := Aside0.mk Q_BK153
      have HB := Aside0.mk Q_HB
      refine value_ (w1 := w') (v := .agg #[.int .u8 0, .int .u8 0, .int .u8 0, .int .u8 0, .int .u8 0, .int .u8 0, .int .u8 0, .int .u8 0]) (by rfl) rfl ?_ ?_
      · go_simp
        (try simp only [i64_w])
        try rfl
      refine hK.out _ _ ⟨v155, v158, v161, v164, m14_, m15_, (by rw [ha.out]; exact putSel_upk 3 hb_ rfl rfl rfl), Q_BK151, Q_BK152, Q_BK153, Q_HB, fun h0_ _ => absurd ((hoff 5 (by kernel_rfl)).symm.trans h0_) (by decide), fun h0_ => absurd ((hoff 6 (by kernel_rfl)).symm.trans h0_) (by decide), Q_HO162, Q_HO165, fun h0_ => absurd ((hoff 14 (by kernel_rfl)).symm.trans h0_) (by decide), fun h0_ => absurd ((hoff 15 (by kernel_rfl)).symm.trans h0_) (by decide)⟩
    refine steps_cons ?_ ?_
    · rintro b a w' ⟨v155, v158, v161, v164, m14_, m15_, ha, Q_BK151, Q_BK152, Q_BK153, Q_HB, Q_HO156, Q_HO159, Q_HO162, Q_HO165, Q_X14_, Q_X15_⟩ hb_ hon hoff
      refine ⟨_, rfl, fun K hK => ?_⟩
      have e3 : a.tmps[3]? = some (.pointer (some ⟨gb153, 0, none⟩)) := by rw [ha]; exact (putSel_off rfl).trans rfl
      replace ha := Aside0.mk ha
      have BK151 := Aside0.mk Q_BK151
      have BK152 := Aside0.mk Q_BK152
      have BK153 := Aside0.mk Q_BK153
      have HB := Aside0.mk Q_HB
      have hc0_ : w'.cell? ⟨gb153, 0, none⟩ = some (.int .u8 3) := (blk_cell BK153.out 0).trans rfl
      have hc1_ : w'.cell? ⟨gb153, 1, none⟩ = some (.int .u8 0) := (blk_cell BK153.out 1).trans rfl
      have hc2_ : w'.cell? ⟨gb153, 2, none⟩ = some (.int .u8 0) := (blk_cell BK153.out 2).trans rfl
      have hc3_ : w'.cell? ⟨gb153, 3, none⟩ = some (.int .u8 0) := (blk_cell BK153.out 3).trans rfl
      have hc4_ : w'.cell? ⟨gb153, 4, none⟩ = some (.int .u8 0) := (blk_cell BK153.out 4).trans rfl
      have hc5_ : w'.cell? ⟨gb153, 5, none⟩ = some (.int .u8 0) := (blk_cell BK153.out 5).trans rfl
      have hc6_ : w'.cell? ⟨gb153, 6, none⟩ = some (.int .u8 0) := (blk_cell BK153.out 6).trans rfl
      have hc7_ : w'.cell? ⟨gb153, 7, none⟩ = some (.int .u8 0) := (blk_cell BK153.out 7).trans rfl
      refine value_ (w1 := w') (v := .agg #[.int .u8 3, .int .u8 0, .int .u8 0, .int .u8 0, .int .u8 0, .int .u8 0, .int .u8 0, .int .u8 0]) (by rfl) rfl ?_ ?_
      · go_simp
        (try simp only [i64_w])
        try rfl
      refine hK.out _ _ ⟨v155, v158, v161, v164, m14_, m15_, (by rw [ha.out]; exact putSel_upk 4 hb_ rfl rfl rfl), Q_BK151, Q_BK152, Q_BK153, Q_HB, fun h0_ _ => absurd ((hoff 5 (by kernel_rfl)).symm.trans h0_) (by decide), fun h0_ => absurd ((hoff 6 (by kernel_rfl)).symm.trans h0_) (by decide), Q_HO162, Q_HO165, fun h0_ => absurd ((hoff 14 (by kernel_rfl)).symm.trans h0_) (by decide), fun h0_ => absurd ((hoff 15 (by kernel_rfl)).symm.trans h0_) (by decide)⟩
    refine steps_cons ?_ ?_
    · rintro b a w' ⟨v155, v158, v161, v164, m14_, m15_, ha, Q_BK151, Q_BK152, Q_BK153, Q_HB, Q_HO156, Q_HO159, Q_HO162, Q_HO165, Q_X14_, Q_X15_⟩ hb_ hon hoff
      refine ⟨_, rfl, fun K hK => ?_⟩
      have e18 : a.tmps[18]? = some (.agg #[.int .u8 1, .int .u8 0, .int .u8 0, .int .u8 0, .int .u8 0, .int .u8 0, .int .u8 0, .int .u8 0]) := by rw [ha]; exact putSel_on (e := (0, 18, .agg #[.int .u8 1, .int .u8 0, .int .u8 0, .int .u8 0, .int .u8 0, .int .u8 0, .int .u8 0, .int .u8 0])) 0 rfl rfl (hon 0 (by kernel_rfl)) rfl
      have e19 : a.tmps[19]? = some (.agg #[.int .u8 2, .int .u8 0, .int .u8 0, .int .u8 0, .int .u8 0, .int .u8 0, .int .u8 0, .int .u8 0]) := by rw [ha]; exact putSel_on (e := (1, 19, .agg #[.int .u8 2, .int .u8 0, .int .u8 0, .int .u8 0, .int .u8 0, .int .u8 0, .int .u8 0, .int .u8 0])) 1 rfl rfl (hon 1 (by kernel_rfl)) rfl
      have e20 : a.tmps[20]? = some (.agg #[.int .u8 0, .int .u8 0, .int .u8 0, .int .u8 0, .int .u8 0, .int .u8 0, .int .u8 0, .int .u8 0]) := by rw [ha]; exact putSel_on (e := (2, 20, .agg #[.int .u8 0, .int .u8 0, .int .u8 0, .int .u8 0, .int .u8 0, .int .u8 0, .int .u8 0, .int .u8 0])) 2 rfl rfl (hon 2 (by kernel_rfl)) rfl
      have e21 : a.tmps[21]? = some (.agg #[.int .u8 0, .int .u8 0, .int .u8 0, .int .u8 0, .int .u8 0, .int .u8 0, .int .u8 0, .int .u8 0]) := by rw [ha]; exact putSel_on (e := (3, 21, .agg #[.int .u8 0, .int .u8 0, .int .u8 0, .int .u8 0, .int .u8 0, .int .u8 0, .int .u8 0, .int .u8 0])) 3 rfl rfl (hon 3 (by kernel_rfl)) rfl
      have e22 : a.tmps[22]? = some (.agg #[.int .u8 3, .int .u8 0, .int .u8 0, .int .u8 0, .int .u8 0, .int .u8 0, .int .u8 0, .int .u8 0]) := by rw [ha]; exact putSel_on (e := (4, 22, .agg #[.int .u8 3, .int .u8 0, .int .u8 0, .int .u8 0, .int .u8 0, .int .u8 0, .int .u8 0, .int .u8 0])) 4 rfl rfl (hon 4 (by kernel_rfl)) rfl
      replace ha := Aside0.mk ha
      have BK151 := Aside0.mk Q_BK151
      have BK152 := Aside0.mk Q_BK152
      have BK153 := Aside0.mk Q_BK153
      have HB := Aside0.mk Q_HB
      refine Kd.R_lit_step k52 _ 52 ?hg (N := 23) ?hd (xs := ([(⟨1, 0, 0, 0, 0, 0, 0, 0⟩ : S52), (⟨2, 0, 0, 0, 0, 0, 0, 0⟩ : S52), (⟨0, 0, 0, 0, 0, 0, 0, 0⟩ : S52), (⟨0, 0, 0, 0, 0, 0, 0, 0⟩ : S52), (⟨3, 0, 0, 0, 0, 0, 0, 0⟩ : S52)] : List (S52))) (inner := [.int .u8 1, .int .u8 0, .int .u8 0, .int .u8 0, .int .u8 0, .int .u8 0, .int .u8 0, .int .u8 0, .int .u8 2, .int .u8 0, .int .u8 0, .int .u8 0, .int .u8 0, .int .u8 0, .int .u8 0, .int .u8 0, .int .u8 0, .int .u8 0, .int .u8 0, .int .u8 0, .int .u8 0, .int .u8 0, .int .u8 0, .int .u8 0, .int .u8 0, .int .u8 0, .int .u8 0, .int .u8 0, .int .u8 0, .int .u8 0, .int .u8 0, .int .u8 0, .int .u8 3, .int .u8 0, .int .u8 0, .int .u8 0, .int .u8 0, .int .u8 0, .int .u8 0, .int .u8 0]) (ok := fun _ => True) (okp := fun _ => True) ?hr ?hp (fun _ hk => hk) trivial (Below.refl _ _) (Nat.le_refl _) (by simp) ?_; (case hd => rfl); (case hg => rfl); (case hr => first | (go_simp; done) | (go_simp; rfl)); (case hp => exact (Reps.c8 (show Kd.M k52 _ _ _ (⟨1, 0, 0, 0, 0, 0, 0, 0⟩ : S52) [.int .u8 1, .int .u8 0, .int .u8 0, .int .u8 0, .int .u8 0, .int .u8 0, .int .u8 0, .int .u8 0] from (k52_mkM _ _ _ (⟨1, 0, 0, 0, 0, 0, 0, 0⟩ : S52) )) (Reps.c8 (show Kd.M k52 _ _ _ (⟨2, 0, 0, 0, 0, 0, 0, 0⟩ : S52) [.int .u8 2, .int .u8 0, .int .u8 0, .int .u8 0, .int .u8 0, .int .u8 0, .int .u8 0, .int .u8 0] from (k52_mkM _ _ _ (⟨2, 0, 0, 0, 0, 0, 0, 0⟩ : S52) )) (Reps.c8 (show Kd.M k52 _ _ _ (⟨0, 0, 0, 0, 0, 0, 0, 0⟩ : S52) [.int .u8 0, .int .u8 0, .int .u8 0, .int .u8 0, .int .u8 0, .int .u8 0, .int .u8 0, .int .u8 0] from (k52_mkM _ _ _ (⟨0, 0, 0, 0, 0, 0, 0, 0⟩ : S52) )) (Reps.c8 (show Kd.M k52 _ _ _ (⟨0, 0, 0, 0, 0, 0, 0, 0⟩ : S52) [.int .u8 0, .int .u8 0, .int .u8 0, .int .u8 0, .int .u8 0, .int .u8 0, .int .u8 0, .int .u8 0] from (k52_mkM _ _ _ (⟨0, 0, 0, 0, 0, 0, 0, 0⟩ : S52) )) (Reps.c8 (show Kd.M k52 _ _ _ (⟨3, 0, 0, 0, 0, 0, 0, 0⟩ : S52) [.int .u8 3, .int .u8 0, .int .u8 0, .int .u8 0, .int .u8 0, .int .u8 0, .int .u8 0, .int .u8 0] from (k52_mkM _ _ _ (⟨3, 0, 0, 0, 0, 0, 0, 0⟩ : S52) )) (Reps.none _ _)))))))
      intro v155 w17 ho18 hb hg_ hnew_
      clear hg_ hnew_
      (first | rw [← Ny154.out] at ho18 | (simp only [Int.reduceToNat] at ho18; rw [← Ny154.out] at ho18))
      have n0_ := Aside0.mk (Kd.R_lower (Kd.R_newB (Kd.R_newB (Kd.R_newB ho18 (g := gb151) (o := .cells #[.int .u8 1, .int .u8 0, .int .u8 0, .int .u8 0, .int .u8 0, .int .u8 0, .int .u8 0, .int .u8 0] 52 (0, 0)) (by (with_reducible repeat (first | refine blk_drewN ?_ _ | refine blk_drew ?_ | refine blk_alloc ?_ _)); exact BK151.out)) (g := gb152) (o := .cells #[.int .u8 2, .int .u8 0, .int .u8 0, .int .u8 0, .int .u8 0, .int .u8 0, .int .u8 0, .int .u8 0] 52 (0, 0)) (by (with_reducible repeat (first | refine blk_drewN ?_ _ | refine blk_drew ?_ | refine blk_alloc ?_ _)); exact BK152.out)) (g := gb153) (o := .cells #[.int .u8 3, .int .u8 0, .int .u8 0, .int .u8 0, .int .u8 0, .int .u8 0, .int .u8 0, .int .u8 0] 52 (0, 0)) (by (with_reducible repeat (first | refine blk_drewN ?_ _ | refine blk_drew ?_ | refine blk_alloc ?_ _)); exact BK153.out)) (below_size (by repeat (first | (with_reducible first | exact HB.out | apply below_alloc | apply pw_below_drewN | apply below_drew1 | refine below_set ?_ GE151.out | refine below_set ?_ GE152.out | refine below_set ?_ GE153.out) | exact HB.out))))
      have n1_ := Aside0.mk (blk_below (g := gb151) (o := .cells #[.int .u8 1, .int .u8 0, .int .u8 0, .int .u8 0, .int .u8 0, .int .u8 0, .int .u8 0, .int .u8 0] 52 (0, 0)) (by (with_reducible repeat (first | refine blk_drewN ?_ _ | refine blk_drew ?_ | refine blk_alloc ?_ _)); exact BK151.out) hb)
      have n2_ := Aside0.mk (blk_below (g := gb152) (o := .cells #[.int .u8 2, .int .u8 0, .int .u8 0, .int .u8 0, .int .u8 0, .int .u8 0, .int .u8 0, .int .u8 0] 52 (0, 0)) (by (with_reducible repeat (first | refine blk_drewN ?_ _ | refine blk_drew ?_ | refine blk_alloc ?_ _)); exact BK152.out) hb)
      have n3_ := Aside0.mk (blk_below (g := gb153) (o := .cells #[.int .u8 3, .int .u8 0, .int .u8 0, .int .u8 0, .int .u8 0, .int .u8 0, .int .u8 0, .int .u8 0] 52 (0, 0)) (by (with_reducible repeat (first | refine blk_drewN ?_ _ | refine blk_drew ?_ | refine blk_alloc ?_ _)); exact BK153.out) hb)
      have n4_ := Aside0.mk (below_step (by repeat (first | (with_reducible first | exact HB.out | apply below_alloc | apply pw_below_drewN | apply below_drew1 | refine below_set ?_ GE151.out | refine below_set ?_ GE152.out | refine below_set ?_ GE153.out) | exact HB.out)) hb)
      have z_HO162 := fun (h0_ : b 12 = true) (h1_ : b 13 = false) => (show Kd.R k52 52 w17 w.heap.size (fun k_ => k_ ≠ gb151 ∧ k_ ≠ gb152 ∧ k_ ≠ gb153) v161 y160 from by first | exact (Kd.R_elder' (by (with_reducible repeat (first | apply Kd.R_alloc | apply Kd.R_drewN | apply Kd.R_drew)); exact (Q_HO162 h0_ h1_)) (Kd.R_base ho18) hb) | exact Kd.R_mono (Kd.R_elder' (by (with_reducible repeat (first | apply Kd.R_alloc | apply Kd.R_drewN | apply Kd.R_drew)); exact (Q_HO162 h0_ h1_)) (Kd.R_base ho18) hb) (fun _ h_ => by first | trivial | exact h_ | exact h_.1))
      have z_HO165 := fun (h0_ : b 13 = true) => (show Kd.N (Kd.slice 52 k52) 49 w17 w.heap.size (fun k_ => k_ ≠ gb151 ∧ k_ ≠ gb152 ∧ k_ ≠ gb153) v164 y163 from by first | exact (Kd.N_elder' (by (with_reducible repeat (first | apply Kd.N_alloc | apply Kd.N_drewN | apply Kd.N_drew)); exact (Q_HO165 h0_)) (Kd.R_base ho18) hb) | exact Kd.N_mono (Kd.N_elder' (by (with_reducible repeat (first | apply Kd.N_alloc | apply Kd.N_drewN | apply Kd.N_drew)); exact (Q_HO165 h0_)) (Kd.R_base ho18) hb) (fun _ h_ => by first | trivial | exact h_ | exact h_.1))
      clear BK151
      clear BK152
      clear BK153
      clear HB
      have HO156 := n0_
      have BK151 := n1_
      have BK152 := n2_
      have BK153 := n3_
      have HB := n4_
      clear n0_ n1_ n2_ n3_ n4_
      clear hb ho18
      refine hK.out _ _ ⟨v155, v158, v161, v164, m14_, m15_, (by rw [ha.out]; exact putSel_upk 5 hb_ rfl rfl rfl), (by (with_reducible repeat (first | refine blk_drewN ?_ _ | refine blk_drew ?_ | refine blk_alloc ?_ _)); exact BK151.out), (by (with_reducible repeat (first | refine blk_drewN ?_ _ | refine blk_drew ?_ | refine blk_alloc ?_ _)); exact BK152.out), (by (with_reducible repeat (first | refine blk_drewN ?_ _ | refine blk_drew ?_ | refine blk_alloc ?_ _)); exact BK153.out), (by repeat (first | (with_reducible first | exact HB.out | apply below_alloc | apply pw_below_drewN | apply below_drew1 | refine below_set ?_ GE151.out | refine below_set ?_ GE152.out | refine below_set ?_ GE153.out) | exact HB.out)), fun _ _ => (by (with_reducible repeat (first | apply Kd.R_alloc | apply Kd.R_drewN | apply Kd.R_drew)); exact Kd.R_mono HO156.out (fun _ hk => ⟨hk.1.1.2, ⟨hk.1.2, hk.2⟩⟩)), fun h0_ => absurd ((hoff 6 (by kernel_rfl)).symm.trans h0_) (by decide), z_HO162, z_HO165, fun h0_ => absurd ((hoff 14 (by kernel_rfl)).symm.trans h0_) (by decide), fun h0_ => absurd ((hoff 15 (by kernel_rfl)).symm.trans h0_) (by decide)⟩
    refine steps_cons ?_ ?_
    · rintro b a w' ⟨v155, v158, v161, v164, m14_, m15_, ha, Q_BK151, Q_BK152, Q_BK153, Q_HB, Q_HO156, Q_HO159, Q_HO162, Q_HO165, Q_X14_, Q_X15_⟩ hb_ hon hoff
      refine ⟨_, rfl, fun K hK => ?_⟩
      have e23 : a.tmps[23]? = some (v155) := by rw [ha]; exact putSel_on (e := (5, 23, v155)) 5 rfl rfl (hon 5 (by kernel_rfl)) rfl
      replace ha := Aside0.mk ha
      have BK151 := Aside0.mk Q_BK151
      have BK152 := Aside0.mk Q_BK152
      have BK153 := Aside0.mk Q_BK153
      have HB := Aside0.mk Q_HB
      have HO156 := Aside0.mk (Q_HO156 (hon 5 (by kernel_rfl)) hb_)
      obtain ⟨Ao20, co20, eo20⟩ := Kd.R_slice HO156.out
      (first | subst eo20 | (injection eo20 with f1_ f2_ f3_; have f4_ := f1_.symm; have f5_ := f3_.symm; clear f1_ f2_ f3_; subst f4_; subst f5_))
      refine Kd.N_lit_step (Kd.slice 52 k52) _ 49 ?hg (N' := 24) ?hd (xs := ([y154] : List (List (S52)))) (inner := [.slice Ao20 y154.length co20]) (ok := (fun k_ => k_ ≠ gb151 ∧ k_ ≠ gb152 ∧ k_ ≠ gb153)) (okp := (fun k_ => k_ ≠ gb151 ∧ k_ ≠ gb152 ∧ k_ ≠ gb153)) ?hr ?hp (fun _ hk => hk) ((show ∀ k_, w'.heap.size ≤ k_ → (fun k_ => k_ ≠ gb151 ∧ k_ ≠ gb152 ∧ k_ ≠ gb153) k_ from fun k_ hk => ⟨Kd.freshB (g := gb151) (o := .cells #[.int .u8 1, .int .u8 0, .int .u8 0, .int .u8 0, .int .u8 0, .int .u8 0, .int .u8 0, .int .u8 0] 52 (0, 0)) (by (with_reducible repeat (first | refine blk_drewN ?_ _ | refine blk_drew ?_ | refine blk_alloc ?_ _)); exact BK151.out) k_ hk, Kd.freshB (g := gb152) (o := .cells #[.int .u8 2, .int .u8 0, .int .u8 0, .int .u8 0, .int .u8 0, .int .u8 0, .int .u8 0, .int .u8 0] 52 (0, 0)) (by (with_reducible repeat (first | refine blk_drewN ?_ _ | refine blk_drew ?_ | refine blk_alloc ?_ _)); exact BK152.out) k_ hk, Kd.freshB (g := gb153) (o := .cells #[.int .u8 3, .int .u8 0, .int .u8 0, .int .u8 0, .int .u8 0, .int .u8 0, .int .u8 0, .int .u8 0] 52 (0, 0)) (by (with_reducible repeat (first | refine blk_drewN ?_ _ | refine blk_drew ?_ | refine blk_alloc ?_ _)); exact BK153.out) k_ hk⟩) _ (Nat.le_refl _)) (Below.refl _ _) (Nat.le_refl _) (by simp) ?_; (case hd => rfl); (case hg => rfl); (case hr => first | (go_simp; done) | (go_simp; rfl)); (case hp => exact (Reps.one (show Kd.FK (Kd.slice 52 k52) _ _ y154 [.slice Ao20 y154.length co20] from (Kd.FK_slice_mk (Kd.R_reads' (Kd.R_mono (ok' := (fun k_ => k_ ≠ gb151 ∧ k_ ≠ gb152 ∧ k_ ≠ gb153)) (HO156.out) (fun k_ hk => ⟨hk.1, ⟨hk.2.1, hk.2.2⟩⟩))).2.1 (Kd.R_F (Kd.R_mono (ok' := (fun k_ => k_ ≠ gb151 ∧ k_ ≠ gb152 ∧ k_ ≠ gb153)) (HO156.out) (fun k_ hk => ⟨hk.1, ⟨hk.2.1, hk.2.2⟩⟩))))) (Reps.none _ _)))
      intro v158 w21 ho22 hb hg_ hnew_
      clear hg_ hnew_
      (first | rw [← Ny157.out] at ho22 | (simp only [Int.reduceToNat] at ho22; rw [← Ny157.out] at ho22))
      have n0_ := Aside0.mk (Kd.N_lower ho22 (below_size (by repeat (first | (with_reducible first | exact HB.out | apply below_alloc | apply pw_below_drewN | apply below_drew1 | refine below_set ?_ GE151.out | refine below_set ?_ GE152.out | refine below_set ?_ GE153.out) | exact HB.out))))
      have n1_ := Aside0.mk (blk_below (g := gb151) (o := .cells #[.int .u8 1, .int .u8 0, .int .u8 0, .int .u8 0, .int .u8 0, .int .u8 0, .int .u8 0, .int .u8 0] 52 (0, 0)) (by (with_reducible repeat (first | refine blk_drewN ?_ _ | refine blk_drew ?_ | refine blk_alloc ?_ _)); exact BK151.out) hb)
      have n2_ := Aside0.mk (blk_below (g := gb152) (o := .cells #[.int .u8 2, .int .u8 0, .int .u8 0, .int .u8 0, .int .u8 0, .int .u8 0, .int .u8 0, .int .u8 0] 52 (0, 0)) (by (with_reducible repeat (first | refine blk_drewN ?_ _ | refine blk_drew ?_ | refine blk_alloc ?_ _)); exact BK152.out) hb)
      have n3_ := Aside0.mk (blk_below (g := gb153) (o := .cells #[.int .u8 3, .int .u8 0, .int .u8 0, .int .u8 0, .int .u8 0, .int .u8 0, .int .u8 0, .int .u8 0] 52 (0, 0)) (by (with_reducible repeat (first | refine blk_drewN ?_ _ | refine blk_drew ?_ | refine blk_alloc ?_ _)); exact BK153.out) hb)
      have n4_ := Aside0.mk (below_step (by repeat (first | (with_reducible first | exact HB.out | apply below_alloc | apply pw_below_drewN | apply below_drew1 | refine below_set ?_ GE151.out | refine below_set ?_ GE152.out | refine below_set ?_ GE153.out) | exact HB.out)) hb)
      have z_HO162 := fun (h0_ : b 12 = true) (h1_ : b 13 = false) => (show Kd.R k52 52 w21 w.heap.size (fun k_ => k_ ≠ gb151 ∧ k_ ≠ gb152 ∧ k_ ≠ gb153) v161 y160 from by first | exact (Kd.R_below (by (with_reducible repeat (first | apply Kd.R_alloc | apply Kd.R_drewN | apply Kd.R_drew)); exact (Q_HO162 h0_ h1_)) hb) | exact Kd.R_mono (Kd.R_below (by (with_reducible repeat (first | apply Kd.R_alloc | apply Kd.R_drewN | apply Kd.R_drew)); exact (Q_HO162 h0_ h1_)) hb) (fun _ h_ => by first | trivial | exact h_ | exact h_.1))
      have z_HO165 := fun (h0_ : b 13 = true) => (show Kd.N (Kd.slice 52 k52) 49 w21 w.heap.size (fun k_ => k_ ≠ gb151 ∧ k_ ≠ gb152 ∧ k_ ≠ gb153) v164 y163 from by first | exact (Kd.N_elder' (by (with_reducible repeat (first | apply Kd.N_alloc | apply Kd.N_drewN | apply Kd.N_drew)); exact (Q_HO165 h0_)) (Kd.N_base ho22) hb) | exact Kd.N_mono (Kd.N_elder' (by (with_reducible repeat (first | apply Kd.N_alloc | apply Kd.N_drewN | apply Kd.N_drew)); exact (Q_HO165 h0_)) (Kd.N_base ho22) hb) (fun _ h_ => by first | trivial | exact h_ | exact h_.1))
      clear BK151
      clear BK152
      clear BK153
      clear HB
      clear HO156
      have HO159 := n0_
      have BK151 := n1_
      have BK152 := n2_
      have BK153 := n3_
      have HB := n4_
      clear n0_ n1_ n2_ n3_ n4_
      clear hb ho22
      refine hK.out _ _ ⟨.slice Ao20 y154.length co20, v158, v161, v164, m14_, m15_, (by rw [ha.out]; exact putSel_upk 6 hb_ rfl rfl rfl), (by (with_reducible repeat (first | refine blk_drewN ?_ _ | refine blk_drew ?_ | refine blk_alloc ?_ _)); exact BK151.out), (by (with_reducible repeat (first | refine blk_drewN ?_ _ | refine blk_drew ?_ | refine blk_alloc ?_ _)); exact BK152.out), (by (with_reducible repeat (first | refine blk_drewN ?_ _ | refine blk_drew ?_ | refine blk_alloc ?_ _)); exact BK153.out), (by repeat (first | (with_reducible first | exact HB.out | apply below_alloc | apply pw_below_drewN | apply below_drew1 | refine below_set ?_ GE151.out | refine below_set ?_ GE152.out | refine below_set ?_ GE153.out) | exact HB.out)), fun _ h1_ => absurd ((up_self b 6).symm.trans h1_) (by decide), fun _ => (by (with_reducible repeat (first | apply Kd.N_alloc | apply Kd.N_drewN | apply Kd.N_drew)); exact HO159.out), z_HO162, z_HO165, fun h0_ => absurd ((hoff 14 (by kernel_rfl)).symm.trans h0_) (by decide), fun h0_ => absurd ((hoff 15 (by kernel_rfl)).symm.trans h0_) (by decide)⟩
    refine steps_cons ?_ ?_
    · rintro b a w' ⟨v155, v158, v161, v164, m14_, m15_, ha, Q_BK151, Q_BK152, Q_BK153, Q_HB, Q_HO156, Q_HO159, Q_HO162, Q_HO165, Q_X14_, Q_X15_⟩ hb_ hon hoff
      refine ⟨_, rfl, fun K hK => ?_⟩
      replace ha := Aside0.mk ha
      have BK151 := Aside0.mk Q_BK151
      have BK152 := Aside0.mk Q_BK152
      have BK153 := Aside0.mk Q_BK153
      have HB := Aside0.mk Q_HB
      refine value_ (w1 := w') (v := .agg #[.int .u8 0, .int .u8 0, .int .u8 0, .int .u8 0, .int .u8 0, .int .u8 0, .int .u8 0, .int .u8 0]) (by rfl) rfl ?_ ?_
      · go_simp
        (try simp only [i64_w])
        try rfl
      refine hK.out _ _ ⟨v155, v158, v161, v164, m14_, m15_, (by rw [ha.out]; exact putSel_upk 7 hb_ rfl rfl rfl), Q_BK151, Q_BK152, Q_BK153, Q_HB, Q_HO156, Q_HO159, fun h0_ _ => absurd ((hoff 12 (by kernel_rfl)).symm.trans h0_) (by decide), fun h0_ => absurd ((hoff 13 (by kernel_rfl)).symm.trans h0_) (by decide), Q_X14_, fun h0_ => absurd ((hoff 15 (by kernel_rfl)).symm.trans h0_) (by decide)⟩
    refine steps_cons ?_ ?_
    · rintro b a w' ⟨v155, v158, v161, v164, m14_, m15_, ha, Q_BK151, Q_BK152, Q_BK153, Q_HB, Q_HO156, Q_HO159, Q_HO162, Q_HO165, Q_X14_, Q_X15_⟩ hb_ hon hoff
      refine ⟨_, rfl, fun K hK => ?_⟩
      have e2 : a.tmps[2]? = some (.pointer (some ⟨gb152, 0, none⟩)) := by rw [ha]; exact (putSel_off rfl).trans rfl
      replace ha := Aside0.mk ha
      have BK151 := Aside0.mk Q_BK151
      have BK152 := Aside0.mk Q_BK152
      have BK153 := Aside0.mk Q_BK153
      have HB := Aside0.mk Q_HB
      have hc0_ : w'.cell? ⟨gb152, 0, none⟩ = some (.int .u8 2) := (blk_cell BK152.out 0).trans rfl
      have hc1_ : w'.cell? ⟨gb152, 1, none⟩ = some (.int .u8 0) := (blk_cell BK152.out 1).trans rfl
      have hc2_ : w'.cell? ⟨gb152, 2, none⟩ = some (.int .u8 0) := (blk_cell BK152.out 2).trans rfl
      have hc3_ : w'.cell? ⟨gb152, 3, none⟩ = some (.int .u8 0) := (blk_cell BK152.out 3).trans rfl
      have hc4_ : w'.cell? ⟨gb152, 4, none⟩ = some (.int .u8 0) := (blk_cell BK152.out 4).trans rfl
      have hc5_ : w'.cell? ⟨gb152, 5, none⟩ = some (.int .u8 0) := (blk_cell BK152.out 5).trans rfl
      have hc6_ : w'.cell? ⟨gb152, 6, none⟩ = some (.int .u8 0) := (blk_cell BK152.out 6).trans rfl
      have hc7_ : w'.cell? ⟨gb152, 7, none⟩ = some (.int .u8 0) := (blk_cell BK152.out 7).trans rfl
      refine value_ (w1 := w') (v := .agg #[.int .u8 2, .int .u8 0, .int .u8 0, .int .u8 0, .int .u8 0, .int .u8 0, .int .u8 0, .int .u8 0]) (by rfl) rfl ?_ ?_
      · go_simp
        (try simp only [i64_w])
        try rfl
      refine hK.out _ _ ⟨v155, v158, v161, v164, m14_, m15_, (by rw [ha.out]; exact putSel_upk 8 hb_ rfl rfl rfl), Q_BK151, Q_BK152, Q_BK153, Q_HB, Q_HO156, Q_HO159, fun h0_ _ => absurd ((hoff 12 (by kernel_rfl)).symm.trans h0_) (by decide), fun h0_ => absurd ((hoff 13 (by kernel_rfl)).symm.trans h0_) (by decide), Q_X14_, fun h0_ => absurd ((hoff 15 (by kernel_rfl)).symm.trans h0_) (by decide)⟩
    refine steps_cons ?_ ?_
    · rintro b a w' ⟨v155, v158, v161, v164, m14_, m15_, ha, Q_BK151, Q_BK152, Q_BK153, Q_HB, Q_HO156, Q_HO159, Q_HO162, Q_HO165, Q_X14_, Q_X15_⟩ hb_ hon hoff
      refine ⟨_, rfl, fun K hK => ?_⟩
      replace ha := Aside0.mk ha
      have BK151 := Aside0.mk Q_BK151
      have BK152 := Aside0.mk Q_BK152
      have BK153 := Aside0.mk Q_BK153
      have HB := Aside0.mk Q_HB
      refine value_ (w1 := w') (v := .agg #[.int .u8 0, .int .u8 0, .int .u8 0, .int .u8 0, .int .u8 0, .int .u8 0, .int .u8 0, .int .u8 0]) (by rfl) rfl ?_ ?_
      · go_simp
        (try simp only [i64_w])
        try rfl
      refine hK.out _ _ ⟨v155, v158, v161, v164, m14_, m15_, (by rw [ha.out]; exact putSel_upk 9 hb_ rfl rfl rfl), Q_BK151, Q_BK152, Q_BK153, Q_HB, Q_HO156, Q_HO159, fun h0_ _ => absurd ((hoff 12 (by kernel_rfl)).symm.trans h0_) (by decide), fun h0_ => absurd ((hoff 13 (by kernel_rfl)).symm.trans h0_) (by decide), Q_X14_, fun h0_ => absurd ((hoff 15 (by kernel_rfl)).symm.trans h0_) (by decide)⟩
    refine steps_cons ?_ ?_
    · rintro b a w' ⟨v155, v158, v161, v164, m14_, m15_, ha, Q_BK151, Q_BK152, Q_BK153, Q_HB, Q_HO156, Q_HO159, Q_HO162, Q_HO165, Q_X14_, Q_X15_⟩ hb_ hon hoff
      refine ⟨_, rfl, fun K hK => ?_⟩
      replace ha := Aside0.mk ha
      have BK151 := Aside0.mk Q_BK151
      have BK152 := Aside0.mk Q_BK152
      have BK153 := Aside0.mk Q_BK153
      have HB := Aside0.mk Q_HB
      refine value_ (w1 := w') (v := .agg #[.int .u8 0, .int .u8 0, .int .u8 0, .int .u8 0, .int .u8 0, .int .u8 0, .int .u8 0, .int .u8 0]) (by rfl) rfl ?_ ?_
      · go_simp
        (try simp only [i64_w])
        try rfl
      refine hK.out _ _ ⟨v155, v158, v161, v164, m14_, m15_, (by rw [ha.out]; exact putSel_upk 10 hb_ rfl rfl rfl), Q_BK151, Q_BK152, Q_BK153, Q_HB, Q_HO156, Q_HO159, fun h0_ _ => absurd ((hoff 12 (by kernel_rfl)).symm.trans h0_) (by decide), fun h0_ => absurd ((hoff 13 (by kernel_rfl)).symm.trans h0_) (by decide), Q_X14_, fun h0_ => absurd ((hoff 15 (by kernel_rfl)).symm.trans h0_) (by decide)⟩
    refine steps_cons ?_ ?_
    · rintro b a w' ⟨v155, v158, v161, v164, m14_, m15_, ha, Q_BK151, Q_BK152, Q_BK153, Q_HB, Q_HO156, Q_HO159, Q_HO162, Q_HO165, Q_X14_, Q_X15_⟩ hb_ hon hoff
      refine ⟨_, rfl, fun K hK => ?_⟩
      replace ha := Aside0.mk ha
      have BK151 := Aside0.mk Q_BK151
      have BK152 := Aside0.mk Q_BK152
      have BK153 := Aside0.mk Q_BK153
      have HB := Aside0.mk Q_HB
      refine value_ (w1 := w') (v := .agg #[.int .u8 0, .int .u8 0, .int .u8 0, .int .u8 0, .int .u8 0, .int .u8 0, .int .u8 0, .int .u8 0]) (by rfl) rfl ?_ ?_
      · go_simp
        (try simp only [i64_w])
        try rfl
      refine hK.out _ _ ⟨v155, v158, v161, v164, m14_, m15_, (by rw [ha.out]; exact putSel_upk 11 hb_ rfl rfl rfl), Q_BK151, Q_BK152, Q_BK153, Q_HB, Q_HO156, Q_HO159, fun h0_ _ => absurd ((hoff 12 (by kernel_rfl)).symm.trans h0_) (by decide), fun h0_ => absurd ((hoff 13 (by kernel_rfl)).symm.trans h0_) (by decide), Q_X14_, fun h0_ => absurd ((hoff 15 (by kernel_rfl)).symm.trans h0_) (by decide)⟩
    refine steps_cons ?_ ?_
    · rintro b a w' ⟨v155, v158, v161, v164, m14_, m15_, ha, Q_BK151, Q_BK152, Q_BK153, Q_HB, Q_HO156, Q_HO159, Q_HO162, Q_HO165, Q_X14_, Q_X15_⟩ hb_ hon hoff
      refine ⟨_, rfl, fun K hK => ?_⟩
      have e25 : a.tmps[25]? = some (.agg #[.int .u8 0, .int .u8 0, .int .u8 0, .int .u8 0, .int .u8 0, .int .u8 0, .int .u8 0, .int .u8 0]) := by rw [ha]; exact putSel_on (e := (7, 25, .agg #[.int .u8 0, .int .u8 0, .int .u8 0, .int .u8 0, .int .u8 0, .int .u8 0, .int .u8 0, .int .u8 0])) 7 rfl rfl (hon 7 (by kernel_rfl)) rfl
      have e26 : a.tmps[26]? = some (.agg #[.int .u8 2, .int .u8 0, .int .u8 0, .int .u8 0, .int .u8 0, .int .u8 0, .int .u8 0, .int .u8 0]) := by rw [ha]; exact putSel_on (e := (8, 26, .agg #[.int .u8 2, .int .u8 0, .int .u8 0, .int .u8 0, .int .u8 0, .int .u8 0, .int .u8 0, .int .u8 0])) 8 rfl rfl (hon 8 (by kernel_rfl)) rfl
      have e27 : a.tmps[27]? = some (.agg #[.int .u8 0, .int .u8 0, .int .u8 0, .int .u8 0, .int .u8 0, .int .u8 0, .int .u8 0, .int .u8 0]) := by rw [ha]; exact putSel_on (e := (9, 27, .agg #[.int .u8 0, .int .u8 0, .int .u8 0, .int .u8 0, .int .u8 0, .int .u8 0, .int .u8 0, .int .u8 0])) 9 rfl rfl (hon 9 (by kernel_rfl)) rfl
      have e28 : a.tmps[28]? = some (.agg #[.int .u8 0, .int .u8 0, .int .u8 0, .int .u8 0, .int .u8 0, .int .u8 0, .int .u8 0, .int .u8 0]) := by rw [ha]; exact putSel_on (e := (10, 28, .agg #[.int .u8 0, .int .u8 0, .int .u8 0, .int .u8 0, .int .u8 0, .int .u8 0, .int .u8 0, .int .u8 0])) 10 rfl rfl (hon 10 (by kernel_rfl)) rfl
      have e29 : a.tmps[29]? = some (.agg #[.int .u8 0, .int .u8 0, .int .u8 0, .int .u8 0, .int .u8 0, .int .u8 0, .int .u8 0, .int .u8 0]) := by rw [ha]; exact putSel_on (e := (11, 29, .agg #[.int .u8 0, .int .u8 0, .int .u8 0, .int .u8 0, .int .u8 0, .int .u8 0, .int .u8 0, .int .u8 0])) 11 rfl rfl (hon 11 (by kernel_rfl)) rfl
      replace ha := Aside0.mk ha
      have BK151 := Aside0.mk Q_BK151
      have BK152 := Aside0.mk Q_BK152
      have BK153 := Aside0.mk Q_BK153
      have HB := Aside0.mk Q_HB
      refine Kd.R_lit_step k52 _ 52 ?hg (N := 30) ?hd (xs := ([(⟨0, 0, 0, 0, 0, 0, 0, 0⟩ : S52), (⟨2, 0, 0, 0, 0, 0, 0, 0⟩ : S52), (⟨0, 0, 0, 0, 0, 0, 0, 0⟩ : S52), (⟨0, 0, 0, 0, 0, 0, 0, 0⟩ : S52), (⟨0, 0, 0, 0, 0, 0, 0, 0⟩ : S52)] : List (S52))) (inner := [.int .u8 0, .int .u8 0, .int .u8 0, .int .u8 0, .int .u8 0, .int .u8 0, .int .u8 0, .int .u8 0, .int .u8 2, .int .u8 0, .int .u8 0, .int .u8 0, .int .u8 0, .int .u8 0, .int .u8 0, .int .u8 0, .int .u8 0, .int .u8 0, .int .u8 0, .int .u8 0, .int .u8 0, .int .u8 0, .int .u8 0, .int .u8 0, .int .u8 0, .int .u8 0, .int .u8 0, .int .u8 0, .int .u8 0, .int .u8 0, .int .u8 0, .int .u8 0, .int .u8 0, .int .u8 0, .int .u8 0, .int .u8 0, .int .u8 0, .int .u8 0, .int .u8 0, .int .u8 0]) (ok := fun _ => True) (okp := fun _ => True) ?hr ?hp (fun _ hk => hk) trivial (Below.refl _ _) (Nat.le_refl _) (by simp) ?_; (case hd => rfl); (case hg => rfl); (case hr => first | (go_simp; done) | (go_simp; rfl)); (case hp => exact (Reps.c8 (show Kd.M k52 _ _ _ (⟨0, 0, 0, 0, 0, 0, 0, 0⟩ : S52) [.int .u8 0, .int .u8 0, .int .u8 0, .int .u8 0, .int .u8 0, .int .u8 0, .int .u8 0, .int .u8 0] from (k52_mkM _ _ _ (⟨0, 0, 0, 0, 0, 0, 0, 0⟩ : S52) )) (Reps.c8 (show Kd.M k52 _ _ _ (⟨2, 0, 0, 0, 0, 0, 0, 0⟩ : S52) [.int .u8 2, .int .u8 0, .int .u8 0, .int .u8 0, .int .u8 0, .int .u8 0, .int .u8 0, .int .u8 0] from (k52_mkM _ _ _ (⟨2, 0, 0, 0, 0, 0, 0, 0⟩ : S52) )) (Reps.c8 (show Kd.M k52 _ _ _ (⟨0, 0, 0, 0, 0, 0, 0, 0⟩ : S52) [.int .u8 0, .int .u8 0, .int .u8 0, .int .u8 0, .int .u8 0, .int .u8 0, .int .u8 0, .int .u8 0] from (k52_mkM _ _ _ (⟨0, 0, 0, 0, 0, 0, 0, 0⟩ : S52) )) (Reps.c8 (show Kd.M k52 _ _ _ (⟨0, 0, 0, 0, 0, 0, 0, 0⟩ : S52) [.int .u8 0, .int .u8 0, .int .u8 0, .int .u8 0, .int .u8 0, .int .u8 0, .int .u8 0, .int .u8 0] from (k52_mkM _ _ _ (⟨0, 0, 0, 0, 0, 0, 0, 0⟩ : S52) )) (Reps.c8 (show Kd.M k52 _ _ _ (⟨0, 0, 0, 0, 0, 0, 0, 0⟩ : S52) [.int .u8 0, .int .u8 0, .int .u8 0, .int .u8 0, .int .u8 0, .int .u8 0, .int .u8 0, .int .u8 0] from (k52_mkM _ _ _ (⟨0, 0, 0, 0, 0, 0, 0, 0⟩ : S52) )) (Reps.none _ _)))))))
      intro v161 w17 ho18 hb hg_ hnew_
      clear hg_ hnew_
      (first | rw [← Ny160.out] at ho18 | (simp only [Int.reduceToNat] at ho18; rw [← Ny160.out] at ho18))
      have n0_ := Aside0.mk (Kd.R_lower (Kd.R_newB (Kd.R_newB (Kd.R_newB ho18 (g := gb151) (o := .cells #[.int .u8 1, .int .u8 0, .int .u8 0, .int .u8 0, .int .u8 0, .int .u8 0, .int .u8 0, .int .u8 0] 52 (0, 0)) (by (with_reducible repeat (first | refine blk_drewN ?_ _ | refine blk_drew ?_ | refine blk_alloc ?_ _)); exact BK151.out)) (g := gb152) (o := .cells #[.int .u8 2, .int .u8 0, .int .u8 0, .int .u8 0, .int .u8 0, .int .u8 0, .int .u8 0, .int .u8 0] 52 (0, 0)) (by (with_reducible repeat (first | refine blk_drewN ?_ _ | refine blk_drew ?_ | refine blk_alloc ?_ _)); exact BK152.out)) (g := gb153) (o := .cells #[.int .u8 3, .int .u8 0, .int .u8 0, .int .u8 0, .int .u8 0, .int .u8 0, .int .u8 0, .int .u8 0] 52 (0, 0)) (by (with_reducible repeat (first | refine blk_drewN ?_ _ | refine blk_drew ?_ | refine blk_alloc ?_ _)); exact BK153.out)) (below_size (by repeat (first | (with_reducible first | exact HB.out | apply below_alloc | apply pw_below_drewN | apply below_drew1 | refine below_set ?_ GE151.out | refine below_set ?_ GE152.out | refine below_set ?_ GE153.out) | exact HB.out))))
      have n1_ := Aside0.mk (blk_below (g := gb151) (o := .cells #[.int .u8 1, .int .u8 0, .int .u8 0, .int .u8 0, .int .u8 0, .int .u8 0, .int .u8 0, .int .u8 0] 52 (0, 0)) (by (with_reducible repeat (first | refine blk_drewN ?_ _ | refine blk_drew ?_ | refine blk_alloc ?_ _)); exact BK151.out) hb)
      have n2_ := Aside0.mk (blk_below (g := gb152) (o := .cells #[.int .u8 2, .int .u8 0, .int .u8 0, .int .u8 0, .int .u8 0, .int .u8 0, .int .u8 0, .int .u8 0] 52 (0, 0)) (by (with_reducible repeat (first | refine blk_drewN ?_ _ | refine blk_drew ?_ | refine blk_alloc ?_ _)); exact BK152.out) hb)
      have n3_ := Aside0.mk (blk_below (g := gb153) (o := .cells #[.int .u8 3, .int .u8 0, .int .u8 0, .int .u8 0, .int .u8 0, .int .u8 0, .int .u8 0, .int .u8 0] 52 (0, 0)) (by (with_reducible repeat (first | refine blk_drewN ?_ _ | refine blk_drew ?_ | refine blk_alloc ?_ _)); exact BK153.out) hb)
      have n4_ := Aside0.mk (below_step (by repeat (first | (with_reducible first | exact HB.out | apply below_alloc | apply pw_below_drewN | apply below_drew1 | refine below_set ?_ GE151.out | refine below_set ?_ GE152.out | refine below_set ?_ GE153.out) | exact HB.out)) hb)
      have z_HO156 := fun (h0_ : b 5 = true) (h1_ : b 6 = false) => (show Kd.R k52 52 w17 w.heap.size (fun k_ => k_ ≠ gb151 ∧ k_ ≠ gb152 ∧ k_ ≠ gb153) v155 y154 from by first | exact (Kd.R_elder' (by (with_reducible repeat (first | apply Kd.R_alloc | apply Kd.R_drewN | apply Kd.R_drew)); exact (Q_HO156 h0_ h1_)) (Kd.R_base ho18) hb) | exact Kd.R_mono (Kd.R_elder' (by (with_reducible repeat (first | apply Kd.R_alloc | apply Kd.R_drewN | apply Kd.R_drew)); exact (Q_HO156 h0_ h1_)) (Kd.R_base ho18) hb) (fun _ h_ => by first | trivial | exact h_ | exact h_.1))
      have z_HO159 := fun (h0_ : b 6 = true) => (show Kd.N (Kd.slice 52 k52) 49 w17 w.heap.size (fun k_ => k_ ≠ gb151 ∧ k_ ≠ gb152 ∧ k_ ≠ gb153) v158 y157 from by first | exact (Kd.N_elder' (by (with_reducible repeat (first | apply Kd.N_alloc | apply Kd.N_drewN | apply Kd.N_drew)); exact (Q_HO159 h0_)) (Kd.R_base ho18) hb) | exact Kd.N_mono (Kd.N_elder' (by (with_reducible repeat (first | apply Kd.N_alloc | apply Kd.N_drewN | apply Kd.N_drew)); exact (Q_HO159 h0_)) (Kd.R_base ho18) hb) (fun _ h_ => by first | trivial | exact h_ | exact h_.1))
      clear BK151
      clear BK152
      clear BK153
      clear HB
      have HO162 := n0_
      have BK151 := n1_
      have BK152 := n2_
      have BK153 := n3_
      have HB := n4_
      clear n0_ n1_ n2_ n3_ n4_
      clear hb ho18
      refine hK.out _ _ ⟨v155, v158, v161, v164, m14_, m15_, (by rw [ha.out]; exact putSel_upk 12 hb_ rfl rfl rfl), (by (with_reducible repeat (first | refine blk_drewN ?_ _ | refine blk_drew ?_ | refine blk_alloc ?_ _)); exact BK151.out), (by (with_reducible repeat (first | refine blk_drewN ?_ _ | refine blk_drew ?_ | refine blk_alloc ?_ _)); exact BK152.out), (by (with_reducible repeat (first | refine blk_drewN ?_ _ | refine blk_drew ?_ | refine blk_alloc ?_ _)); exact BK153.out), (by repeat (first | (with_reducible first | exact HB.out | apply below_alloc | apply pw_below_drewN | apply below_drew1 | refine below_set ?_ GE151.out | refine below_set ?_ GE152.out | refine below_set ?_ GE153.out) | exact HB.out)), z_HO156, z_HO159, fun _ _ => (by (with_reducible repeat (first | apply Kd.R_alloc | apply Kd.R_drewN | apply Kd.R_drew)); exact Kd.R_mono HO162.out (fun _ hk => ⟨hk.1.1.2, ⟨hk.1.2, hk.2⟩⟩)), fun h0_ => absurd ((hoff 13 (by kernel_rfl)).symm.trans h0_) (by decide), Q_X14_, fun h0_ => absurd ((hoff 15 (by kernel_rfl)).symm.trans h0_) (by decide)⟩
    refine steps_cons ?_ ?_
    · rintro b a w' ⟨v155, v158, v161, v164, m14_, m15_, ha, Q_BK151, Q_BK152, Q_BK153, Q_HB, Q_HO156, Q_HO159, Q_HO162, Q_HO165, Q_X14_, Q_X15_⟩ hb_ hon hoff
      refine ⟨_, rfl, fun K hK => ?_⟩
      have e30 : a.tmps[30]? = some (v161) := by rw [ha]; exact putSel_on (e := (12, 30, v161)) 12 rfl rfl (hon 12 (by kernel_rfl)) rfl
      replace ha := Aside0.mk ha
      have BK151 := Aside0.mk Q_BK151
      have BK152 := Aside0.mk Q_BK152
      have BK153 := Aside0.mk Q_BK153
      have HB := Aside0.mk Q_HB
      have HO162 := Aside0.mk (Q_HO162 (hon 12 (by kernel_rfl)) hb_)
      obtain ⟨Ao20, co20, eo20⟩ := Kd.R_slice HO162.out
      (first | subst eo20 | (injection eo20 with f1_ f2_ f3_; have f4_ := f1_.symm; have f5_ := f3_.symm; clear f1_ f2_ f3_; subst f4_; subst f5_))
      refine Kd.N_lit_step (Kd.slice 52 k52) _ 49 ?hg (N' := 31) ?hd (xs := ([y160] : List (List (S52)))) (inner := [.slice Ao20 y160.length co20]) (ok := (fun k_ => k_ ≠ gb151 ∧ k_ ≠ gb152 ∧ k_ ≠ gb153)) (okp := (fun k_ => k_ ≠ gb151 ∧ k_ ≠ gb152 ∧ k_ ≠ gb153)) ?hr ?hp (fun _ hk => hk) ((show ∀ k_, w'.heap.size ≤ k_ → (fun k_ => k_ ≠ gb151 ∧ k_ ≠ gb152 ∧ k_ ≠ gb153) k_ from fun k_ hk => ⟨Kd.freshB (g := gb151) (o := .cells #[.int .u8 1, .int .u8 0, .int .u8 0, .int .u8 0, .int .u8 0, .int .u8 0, .int .u8 0, .int .u8 0] 52 (0, 0)) (by (with_reducible repeat (first | refine blk_drewN ?_ _ | refine blk_drew ?_ | refine blk_alloc ?_ _)); exact BK151.out) k_ hk, Kd.freshB (g := gb152) (o := .cells #[.int .u8 2, .int .u8 0, .int .u8 0, .int .u8 0, .int .u8 0, .int .u8 0, .int .u8 0, .int .u8 0] 52 (0, 0)) (by (with_reducible repeat (first | refine blk_drewN ?_ _ | refine blk_drew ?_ | refine blk_alloc ?_ _)); exact BK152.out) k_ hk, Kd.freshB (g := gb153) (o := .cells #[.int .u8 3, .int .u8 0, .int .u8 0, .int .u8 0, .int .u8 0, .int .u8 0, .int .u8 0, .int .u8 0] 52 (0, 0)) (by (with_reducible repeat (first | refine blk_drewN ?_ _ | refine blk_drew ?_ | refine blk_alloc ?_ _)); exact BK153.out) k_ hk⟩) _ (Nat.le_refl _)) (Below.refl _ _) (Nat.le_refl _) (by simp) ?_; (case hd => rfl); (case hg => rfl); (case hr => first | (go_simp; done) | (go_simp; rfl)); (case hp => exact (Reps.one (show Kd.FK (Kd.slice 52 k52) _ _ y160 [.slice Ao20 y160.length co20] from (Kd.FK_slice_mk (Kd.R_reads' (Kd.R_mono (ok' := (fun k_ => k_ ≠ gb151 ∧ k_ ≠ gb152 ∧ k_ ≠ gb153)) (HO162.out) (fun k_ hk => ⟨hk.1, ⟨hk.2.1, hk.2.2⟩⟩))).2.1 (Kd.R_F (Kd.R_mono (ok' := (fun k_ => k_ ≠ gb151 ∧ k_ ≠ gb152 ∧ k_ ≠ gb153)) (HO162.out) (fun k_ hk => ⟨hk.1, ⟨hk.2.1, hk.2.2⟩⟩))))) (Reps.none _ _)))
      intro v164 w21 ho22 hb hg_ hnew_
      clear hg_ hnew_
      (first | rw [← Ny163.out] at ho22 | (simp only [Int.reduceToNat] at ho22; rw [← Ny163.out] at ho22))
      have n0_ := Aside0.mk (Kd.N_lower ho22 (below_size (by repeat (first | (with_reducible first | exact HB.out | apply below_alloc | apply pw_below_drewN | apply below_drew1 | refine below_set ?_ GE151.out | refine below_set ?_ GE152.out | refine below_set ?_ GE153.out) | exact HB.out))))
      have n1_ := Aside0.mk (blk_below (g := gb151) (o := .cells #[.int .u8 1, .int .u8 0, .int .u8 0, .int .u8 0, .int .u8 0, .int .u8 0, .int .u8 0, .int .u8 0] 52 (0, 0)) (by (with_reducible repeat (first | refine blk_drewN ?_ _ | refine blk_drew ?_ | refine blk_alloc ?_ _)); exact BK151.out) hb)
      have n2_ := Aside0.mk (blk_below (g := gb152) (o := .cells #[.int .u8 2, .int .u8 0, .int .u8 0, .int .u8 0, .int .u8 0, .int .u8 0, .int .u8 0, .int .u8 0] 52 (0, 0)) (by (with_reducible repeat (first | refine blk_drewN ?_ _ | refine blk_drew ?_ | refine blk_alloc ?_ _)); exact BK152.out) hb)
      have n3_ := Aside0.mk (blk_below (g := gb153) (o := .cells #[.int .u8 3, .int .u8 0, .int .u8 0, .int .u8 0, .int .u8 0, .int .u8 0, .int .u8 0, .int .u8 0] 52 (0, 0)) (by (with_reducible repeat (first | refine blk_drewN ?_ _ | refine blk_drew ?_ | refine blk_alloc ?_ _)); exact BK153.out) hb)
      have n4_ := Aside0.mk (below_step (by repeat (first | (with_reducible first | exact HB.out | apply below_alloc | apply pw_below_drewN | apply below_drew1 | refine below_set ?_ GE151.out | refine below_set ?_ GE152.out | refine below_set ?_ GE153.out) | exact HB.out)) hb)
      have z_HO156 := fun (h0_ : b 5 = true) (h1_ : b 6 = false) => (show Kd.R k52 52 w21 w.heap.size (fun k_ => k_ ≠ gb151 ∧ k_ ≠ gb152 ∧ k_ ≠ gb153) v155 y154 from by first | exact (Kd.R_below (by (with_reducible repeat (first | apply Kd.R_alloc | apply Kd.R_drewN | apply Kd.R_drew)); exact (Q_HO156 h0_ h1_)) hb) | exact Kd.R_mono (Kd.R_below (by (with_reducible repeat (first | apply Kd.R_alloc | apply Kd.R_drewN | apply Kd.R_drew)); exact (Q_HO156 h0_ h1_)) hb) (fun _ h_ => by first | trivial | exact h_ | exact h_.1))
      have z_HO159 := fun (h0_ : b 6 = true) => (show Kd.N (Kd.slice 52 k52) 49 w21 w.heap.size (fun k_ => k_ ≠ gb151 ∧ k_ ≠ gb152 ∧ k_ ≠ gb153) v158 y157 from by first | exact (Kd.N_elder' (by (with_reducible repeat (first | apply Kd.N_alloc | apply Kd.N_drewN | apply Kd.N_drew)); exact (Q_HO159 h0_)) (Kd.N_base ho22) hb) | exact Kd.N_mono (Kd.N_elder' (by (with_reducible repeat (first | apply Kd.N_alloc | apply Kd.N_drewN | apply Kd.N_drew)); exact (Q_HO159 h0_)) (Kd.N_base ho22) hb) (fun _ h_ => by first | trivial | exact h_ | exact h_.1))
      clear BK151
      clear BK152
      clear BK153
      clear HB
      clear HO162
      have HO165 := n0_
      have BK151 := n1_
      have BK152 := n2_
      have BK153 := n3_
      have HB := n4_
      clear n0_ n1_ n2_ n3_ n4_
      clear hb ho22
      refine hK.out _ _ ⟨v155, v158, .slice Ao20 y160.length co20, v164, m14_, m15_, (by rw [ha.out]; exact putSel_upk 13 hb_ rfl rfl rfl), (by (with_reducible repeat (first | refine blk_drewN ?_ _ | refine blk_drew ?_ | refine blk_alloc ?_ _)); exact BK151.out), (by (with_reducible repeat (first | refine blk_drewN ?_ _ | refine blk_drew ?_ | refine blk_alloc ?_ _)); exact BK152.out), (by (with_reducible repeat (first | refine blk_drewN ?_ _ | refine blk_drew ?_ | refine blk_alloc ?_ _)); exact BK153.out), (by repeat (first | (with_reducible first | exact HB.out | apply below_alloc | apply pw_below_drewN | apply below_drew1 | refine below_set ?_ GE151.out | refine below_set ?_ GE152.out | refine below_set ?_ GE153.out) | exact HB.out)), z_HO156, z_HO159, fun _ h1_ => absurd ((up_self b 13).symm.trans h1_) (by decide), fun _ => (by (with_reducible repeat (first | apply Kd.N_alloc | apply Kd.N_drewN | apply Kd.N_drew)); exact HO165.out), Q_X14_, fun h0_ => absurd ((hoff 15 (by kernel_rfl)).symm.trans h0_) (by decide)⟩
    refine steps_cons ?_ ?_
    · rintro b a w' ⟨v155, v158, v161, v164, m14_, m15_, ha, Q_BK151, Q_BK152, Q_BK153, Q_HB, Q_HO156, Q_HO159, Q_HO162, Q_HO165, Q_X14_, Q_X15_⟩ hb_ hon hoff
      refine ⟨_, rfl, fun K hK => ?_⟩
      have e24 : a.tmps[24]? = some (v158) := by rw [ha]; exact putSel_on (e := (6, 24, v158)) 6 rfl rfl (hon 6 (by kernel_rfl)) rfl
      replace ha := Aside0.mk ha
      have BK151 := Aside0.mk Q_BK151
      have BK152 := Aside0.mk Q_BK152
      have BK153 := Aside0.mk Q_BK153
      have HB := Aside0.mk Q_HB
      have HO159 := Aside0.mk (Q_HO159 (hon 6 (by kernel_rfl)))
      refine value_ (w1 := w') (v := v158) (by rfl) rfl ?_ ?_
      · go_simp
        (try simp only [i64_w])
        try rfl
      refine hK.out _ _ ⟨v155, v158, v161, v164, (v158), m15_, (by rw [ha.out]; exact putSel_upk 14 hb_ rfl rfl rfl), Q_BK151, Q_BK152, Q_BK153, Q_HB, fun _ h1_ => absurd ((hon 6 (by kernel_rfl)).symm.trans h1_) (by decide), Q_HO159, Q_HO162, Q_HO165, fun _ => rfl, fun h0_ => absurd ((hoff 15 (by kernel_rfl)).symm.trans h0_) (by decide)⟩
    refine steps_cons ?_ ?_
    · rintro b a w' ⟨v155, v158, v161, v164, m14_, m15_, ha, Q_BK151, Q_BK152, Q_BK153, Q_HB, Q_HO156, Q_HO159, Q_HO162, Q_HO165, Q_X14_, Q_X15_⟩ hb_ hon hoff
      refine ⟨_, rfl, fun K hK => ?_⟩
      have e31 : a.tmps[31]? = some (v164) := by rw [ha]; exact putSel_on (e := (13, 31, v164)) 13 rfl rfl (hon 13 (by kernel_rfl)) rfl
      replace ha := Aside0.mk ha
      have BK151 := Aside0.mk Q_BK151
      have BK152 := Aside0.mk Q_BK152
      have BK153 := Aside0.mk Q_BK153
      have HB := Aside0.mk Q_HB
      have HO159 := Aside0.mk (Q_HO159 (hon 6 (by kernel_rfl)))
      have HO165 := Aside0.mk (Q_HO165 (hon 13 (by kernel_rfl)))
      refine value_ (w1 := w') (v := v164) (by rfl) rfl ?_ ?_
      · go_simp
        (try simp only [i64_w])
        try rfl
      refine hK.out _ _ ⟨v155, v158, v161, v164, m14_, (v164), (by rw [ha.out]; exact putSel_upk 15 hb_ rfl rfl rfl), Q_BK151, Q_BK152, Q_BK153, Q_HB, fun _ h1_ => absurd ((hon 6 (by kernel_rfl)).symm.trans h1_) (by decide), Q_HO159, fun _ h1_ => absurd ((hon 13 (by kernel_rfl)).symm.trans h1_) (by decide), Q_HO165, Q_X14_, fun _ => rfl⟩
    exact steps_nil
  rintro b a w27 hall ⟨v155, v158, v161, v164, m14_, m15_, ha, Q_BK151, Q_BK152, Q_BK153, Q_HB, Q_HO156, Q_HO159, Q_HO162, Q_HO165, Q_X14_, Q_X15_⟩
  clear BK151 BK152 BK153 HB
  have hb0_ := hall 0 (by kernel_rfl)
  have hb1_ := hall 1 (by kernel_rfl)
  have hb2_ := hall 2 (by kernel_rfl)
  have hb3_ := hall 3 (by kernel_rfl)
  have hb4_ := hall 4 (by kernel_rfl)
  have hb5_ := hall 5 (by kernel_rfl)
  have hb6_ := hall 6 (by kernel_rfl)
  have hb7_ := hall 7 (by kernel_rfl)
  have hb8_ := hall 8 (by kernel_rfl)
  have hb9_ := hall 9 (by kernel_rfl)
  have hb10_ := hall 10 (by kernel_rfl)
  have hb11_ := hall 11 (by kernel_rfl)
  have hb12_ := hall 12 (by kernel_rfl)
  have hb13_ := hall 13 (by kernel_rfl)
  have hb14_ := hall 14 (by kernel_rfl)
  have hb15_ := hall 15 (by kernel_rfl)
  subst ha
  obtain rfl := (Q_X14_ hb14_).symm
  obtain rfl := (Q_X15_ hb15_).symm
  simp only [putSel, hb0_, hb1_, hb2_, hb3_, hb4_, hb5_, hb6_, hb7_, hb8_, hb9_, hb10_, hb11_, hb12_, hb13_, hb14_, hb15_, if_true, Act.put, List.setIfInBounds_toArray, List.set_cons_zero, List.set_cons_succ]
  have BK151 := Aside0.mk Q_BK151
  clear Q_BK151
  have BK152 := Aside0.mk Q_BK152
  clear Q_BK152
  have BK153 := Aside0.mk Q_BK153
  clear Q_BK153
  have HB := Aside0.mk Q_HB
  clear Q_HB
  clear Q_HO156
  have HO159 := Aside0.mk (Q_HO159 hb6_)
  clear Q_HO159
  clear Q_HO162
  have HO165 := Aside0.mk (Q_HO165 hb13_)
  clear Q_HO165
  clear hall hb0_ hb1_ hb2_ hb3_ hb4_ hb5_ hb6_ hb7_ hb8_ hb9_ hb10_ hb11_ hb12_ hb13_ hb14_ hb15_
  go_upto_region 8 with (first | ((with_reducible refine gate_dst (N := 34) rfl ?_); (try (refine gate_guard (by rfl) ?_; dsimp only)); refine Kd.R_lit k54 _ 54 ?hg (N := 34) ?hd (xs := ([(⟨0, 2⟩ : S54), (⟨4, 1⟩ : S54)] : List (S54))) (inner := [.int .i64 0, .int .i64 2, .int .i64 4, .int .i64 1]) (ok := fun _ => True) (okp := fun _ => True) ?hr ?hp (fun _ hk => hk) trivial (Below.refl _ _) (Nat.le_refl _) (by simp) ?_; (case hd => rfl); (case hg => rfl); (case hr => first | (go_simp; done) | (go_simp; rfl)); (case hp => exact (Reps.c2 (show Kd.M k54 _ _ _ (⟨0, 2⟩ : S54) [.int .i64 0, .int .i64 2] from (k54_mkM _ _ _ (⟨0, 2⟩ : S54) )) (Reps.c2 (show Kd.M k54 _ _ _ (⟨4, 1⟩ : S54) [.int .i64 4, .int .i64 1] from (k54_mkM _ _ _ (⟨4, 1⟩ : S54) )) (Reps.none _ _)))); intro v167 w28 ho29 hb hg_ hnew_; clear hg_ hnew_; (first | rw [← Ny166.out] at ho29 | (simp only [Int.reduceToNat] at ho29; rw [← Ny166.out] at ho29)); have n0_ := Aside0.mk (Kd.N_elder' (by (with_reducible repeat (first | apply Kd.N_alloc | apply Kd.N_drewN | apply Kd.N_drew)); exact HO159.out) (Kd.R_base ho29) hb); have n1_ := Aside0.mk (Kd.N_elder' (by (with_reducible repeat (first | apply Kd.N_alloc | apply Kd.N_drewN | apply Kd.N_drew)); exact HO165.out) (Kd.R_base ho29) hb); have n2_ := Aside0.mk (Kd.R_lower ho29 (below_size (by repeat (first | (with_reducible first | exact HB.out | apply below_alloc | apply pw_below_drewN | apply below_drew1 | refine below_set ?_ GE151.out | refine below_set ?_ GE152.out | refine below_set ?_ GE153.out) | exact HB.out)))); have n3_ := Aside0.mk (blk_below (g := gb151) (o := .cells #[.int .u8 1, .int .u8 0, .int .u8 0, .int .u8 0, .int .u8 0, .int .u8 0, .int .u8 0, .int .u8 0] 52 (0, 0)) (by (with_reducible repeat (first | refine blk_drewN ?_ _ | refine blk_drew ?_ | refine blk_alloc ?_ _)); exact BK151.out) hb); have n4_ := Aside0.mk (blk_below (g := gb152) (o := .cells #[.int .u8 2, .int .u8 0, .int .u8 0, .int .u8 0, .int .u8 0, .int .u8 0, .int .u8 0, .int .u8 0] 52 (0, 0)) (by (with_reducible repeat (first | refine blk_drewN ?_ _ | refine blk_drew ?_ | refine blk_alloc ?_ _)); exact BK152.out) hb); have n5_ := Aside0.mk (blk_below (g := gb153) (o := .cells #[.int .u8 3, .int .u8 0, .int .u8 0, .int .u8 0, .int .u8 0, .int .u8 0, .int .u8 0, .int .u8 0] 52 (0, 0)) (by (with_reducible repeat (first | refine blk_drewN ?_ _ | refine blk_drew ?_ | refine blk_alloc ?_ _)); exact BK153.out) hb); have n6_ := Aside0.mk (below_step (by repeat (first | (with_reducible first | exact HB.out | apply below_alloc | apply pw_below_drewN | apply below_drew1 | refine below_set ?_ GE151.out | refine below_set ?_ GE152.out | refine below_set ?_ GE153.out) | exact HB.out)) hb); clear HO159; clear HO165; clear BK151; clear BK152; clear BK153; clear HB; have HO159 := n0_; have HO165 := n1_; have HO168 := n2_; have BK151 := n3_; have BK152 := n4_; have BK153 := n5_; have HB := n6_; clear n0_ n1_ n2_ n3_ n4_ n5_ n6_; clear hb ho29; obtain ⟨Ao30, co30, eo30⟩ := Kd.R_slice HO168.out; subst eo30) | ((with_reducible refine gate_dst (N := 35) rfl ?_); (try (refine gate_guard (by rfl) ?_; dsimp only)); refine Kd.N_lit (Kd.slice 54 k54) _ 50 ?hg (N' := 35) ?hd (xs := ([y166] : List (List (S54)))) (inner := [.slice Ao30 y166.length co30]) (ok := (fun k_ => some k_ ≠ (v158 : Value).ownBlock ∧ some k_ ≠ (v164 : Value).ownBlock ∧ k_ ≠ gb151 ∧ k_ ≠ gb152 ∧ k_ ≠ gb153)) (okp := (fun k_ => some k_ ≠ (v158 : Value).ownBlock ∧ some k_ ≠ (v164 : Value).ownBlock ∧ k_ ≠ gb151 ∧ k_ ≠ gb152 ∧ k_ ≠ gb153)) ?hr ?hp (fun _ hk => hk) ((show ∀ k_, w28.heap.size ≤ k_ → (fun k_ => some k_ ≠ (v158 : Value).ownBlock ∧ some k_ ≠ (v164 : Value).ownBlock ∧ k_ ≠ gb151 ∧ k_ ≠ gb152 ∧ k_ ≠ gb153) k_ from fun k_ hk => ⟨Kd.fresh' (Kd.N_lt (by (with_reducible repeat (first | apply Kd.N_alloc | apply Kd.N_drewN | apply Kd.N_drew)); exact HO159.out)) k_ hk, Kd.fresh' (Kd.N_lt (by (with_reducible repeat (first | apply Kd.N_alloc | apply Kd.N_drewN | apply Kd.N_drew)); exact HO165.out)) k_ hk, Kd.freshB (g := gb151) (o := .cells #[.int .u8 1, .int .u8 0, .int .u8 0, .int .u8 0, .int .u8 0, .int .u8 0, .int .u8 0, .int .u8 0] 52 (0, 0)) (by (with_reducible repeat (first | refine blk_drewN ?_ _ | refine blk_drew ?_ | refine blk_alloc ?_ _)); exact BK151.out) k_ hk, Kd.freshB (g := gb152) (o := .cells #[.int .u8 2, .int .u8 0, .int .u8 0, .int .u8 0, .int .u8 0, .int .u8 0, .int .u8 0, .int .u8 0] 52 (0, 0)) (by (with_reducible repeat (first | refine blk_drewN ?_ _ | refine blk_drew ?_ | refine blk_alloc ?_ _)); exact BK152.out) k_ hk, Kd.freshB (g := gb153) (o := .cells #[.int .u8 3, .int .u8 0, .int .u8 0, .int .u8 0, .int .u8 0, .int .u8 0, .int .u8 0, .int .u8 0] 52 (0, 0)) (by (with_reducible repeat (first | refine blk_drewN ?_ _ | refine blk_drew ?_ | refine blk_alloc ?_ _)); exact BK153.out) k_ hk⟩) _ (Nat.le_refl _)) (Below.refl _ _) (Nat.le_refl _) (by simp) ?_; (case hd => rfl); (case hg => rfl); (case hr => first | (go_simp; done) | (go_simp; rfl)); (case hp => exact (Reps.one (show Kd.FK (Kd.slice 54 k54) _ _ y166 [.slice Ao30 y166.length co30] from (Kd.FK_slice_mk (Kd.R_reads' (Kd.R_mono (ok' := (fun k_ => some k_ ≠ (v158 : Value).ownBlock ∧ some k_ ≠ (v164 : Value).ownBlock ∧ k_ ≠ gb151 ∧ k_ ≠ gb152 ∧ k_ ≠ gb153)) (Kd.R_types (Kd.R_types (Kd.R_types (Kd.R_apart' (Kd.R_apart' (HO168.out) (Kd.N_typed HO159.out) (by decide)) (Kd.N_typed HO165.out) (by decide)) BK151.out (by decide)) BK152.out (by decide)) BK153.out (by decide)) (fun k_ hk => ⟨hk.1.1.1.1.2, ⟨hk.1.1.1.2, ⟨hk.1.1.2, ⟨hk.1.2, hk.2⟩⟩⟩⟩))).2.1 (Kd.R_F (Kd.R_mono (ok' := (fun k_ => some k_ ≠ (v158 : Value).ownBlock ∧ some k_ ≠ (v164 : Value).ownBlock ∧ k_ ≠ gb151 ∧ k_ ≠ gb152 ∧ k_ ≠ gb153)) (Kd.R_types (Kd.R_types (Kd.R_types (Kd.R_apart' (Kd.R_apart' (HO168.out) (Kd.N_typed HO159.out) (by decide)) (Kd.N_typed HO165.out) (by decide)) BK151.out (by decide)) BK152.out (by decide)) BK153.out (by decide)) (fun k_ hk => ⟨hk.1.1.1.1.2, ⟨hk.1.1.1.2, ⟨hk.1.1.2, ⟨hk.1.2, hk.2⟩⟩⟩⟩))))) (Reps.none _ _))); intro v170 w31 ho32 hb hg_ hnew_; clear hg_ hnew_; (first | rw [← Ny169.out] at ho32 | (simp only [Int.reduceToNat] at ho32; rw [← Ny169.out] at ho32)); have n0_ := Aside0.mk (Kd.N_elder' (by (with_reducible repeat (first | apply Kd.N_alloc | apply Kd.N_drewN | apply Kd.N_drew)); exact HO159.out) (Kd.N_base ho32) hb); have n1_ := Aside0.mk (Kd.N_elder' (by (with_reducible repeat (first | apply Kd.N_alloc | apply Kd.N_drewN | apply Kd.N_drew)); exact HO165.out) (Kd.N_base ho32) hb); have n2_ := Aside0.mk (Kd.N_lower ho32 (below_size (by repeat (first | (with_reducible first | exact HB.out | apply below_alloc | apply pw_below_drewN | apply below_drew1 | refine below_set ?_ GE151.out | refine below_set ?_ GE152.out | refine below_set ?_ GE153.out) | exact HB.out)))); have n3_ := Aside0.mk (blk_below (g := gb151) (o := .cells #[.int .u8 1, .int .u8 0, .int .u8 0, .int .u8 0, .int .u8 0, .int .u8 0, .int .u8 0, .int .u8 0] 52 (0, 0)) (by (with_reducible repeat (first | refine blk_drewN ?_ _ | refine blk_drew ?_ | refine blk_alloc ?_ _)); exact BK151.out) hb); have n4_ := Aside0.mk (blk_below (g := gb152) (o := .cells #[.int .u8 2, .int .u8 0, .int .u8 0, .int .u8 0, .int .u8 0, .int .u8 0, .int .u8 0, .int .u8 0] 52 (0, 0)) (by (with_reducible repeat (first | refine blk_drewN ?_ _ | refine blk_drew ?_ | refine blk_alloc ?_ _)); exact BK152.out) hb); have n5_ := Aside0.mk (blk_below (g := gb153) (o := .cells #[.int .u8 3, .int .u8 0, .int .u8 0, .int .u8 0, .int .u8 0, .int .u8 0, .int .u8 0, .int .u8 0] 52 (0, 0)) (by (with_reducible repeat (first | refine blk_drewN ?_ _ | refine blk_drew ?_ | refine blk_alloc ?_ _)); exact BK153.out) hb); have n6_ := Aside0.mk (below_step (by repeat (first | (with_reducible first | exact HB.out | apply below_alloc | apply pw_below_drewN | apply below_drew1 | refine below_set ?_ GE151.out | refine below_set ?_ GE152.out | refine below_set ?_ GE153.out) | exact HB.out)) hb); clear HO159; clear HO165; clear BK151; clear BK152; clear BK153; clear HB; clear HO168; have HO159 := n0_; have HO165 := n1_; have HO171 := n2_; have BK151 := n3_; have BK152 := n4_; have BK153 := n5_; have HB := n6_; clear n0_ n1_ n2_ n3_ n4_ n5_ n6_; clear hb ho32; obtain ⟨Ao33, co33, eo33⟩ := Kd.N_slice HO159.out; subst eo33; obtain ⟨Ao34, co34, eo34⟩ := Kd.N_slice HO171.out; subst eo34) | ((with_reducible refine gate_callee (f := 16) rfl ?_); refine goesL_ (some 39) rfl rfl Try.func16 (by kernel_rfl) rfl #[.slice Ao33 y157.length co33, .slice Ao34 y169.length co34] rfl (by (try simp only [List.map_toArray, List.map_cons, List.map_nil]); first | done | rfl | (simp only [List.length_drop, List.length_take]; rfl)) ?_; (with_reducible refine (resync_Writes.calls _ _ y157 _ _ y169 t172 t173 _ ?side1 ?side2 ?side3 ?side4 A1.out).mono ?_); (case side1 => repeat (first | exact (Kd.N_reads' HO159.out).2.2 | (with_reducible refine Kd.C_alloc ?_ _) | (with_reducible refine Kd.C_drewN ?_ _) | (with_reducible refine Kd.C_drew ?_))); (case side2 => exact (Kd.N_reads' HO159.out).2.1); (case side3 => repeat (first | exact (Kd.N_reads' HO171.out).2.2 | (with_reducible refine Kd.C_alloc ?_ _) | (with_reducible refine Kd.C_drewN ?_ _) | (with_reducible refine Kd.C_drew ?_))); (case side4 => exact (Kd.N_reads' HO171.out).2.1); rintro e w35 ⟨v174, rfl, ho0, hb⟩; refine ⟨_, rfl, ?_⟩; have n0_ := Aside0.mk (Kd.N_elder' (by (with_reducible repeat (first | apply Kd.N_alloc | apply Kd.N_drewN | apply Kd.N_drew)); exact HO159.out) (Kd.N_base (Kd.S_N ho0)) hb); have n1_ := Aside0.mk (Kd.N_elder' (by (with_reducible repeat (first | apply Kd.N_alloc | apply Kd.N_drewN | apply Kd.N_drew)); exact HO165.out) (Kd.N_base (Kd.S_N ho0)) hb); have n2_ := Aside0.mk (Kd.N_elder' (by (with_reducible repeat (first | apply Kd.N_alloc | apply Kd.N_drewN | apply Kd.N_drew)); exact HO171.out) (Kd.N_base (Kd.S_N ho0)) hb); have n3_ := Aside0.mk (Kd.N_lower (Kd.N_mono (ok' := fun k_ => some k_ ≠ (.slice Ao33 y157.length co33 : Value).ownBlock ∧ some k_ ≠ (v164 : Value).ownBlock ∧ some k_ ≠ (.slice Ao34 y169.length co34 : Value).ownBlock ∧ k_ ≠ gb151 ∧ k_ ≠ gb152 ∧ k_ ≠ gb153) (Kd.S_N (Kd.S_bound ho0)) (fun k_ hk_ => ⟨(Kd.fresh' (Kd.N_lt (by (with_reducible repeat (first | apply Kd.N_alloc | apply Kd.N_drewN | apply Kd.N_drew)); exact HO159.out)) k_ hk_.2.1), (Kd.fresh' (Kd.N_lt (by (with_reducible repeat (first | apply Kd.N_alloc | apply Kd.N_drewN | apply Kd.N_drew)); exact HO165.out)) k_ hk_.2.1), (Kd.fresh' (Kd.N_lt (by (with_reducible repeat (first | apply Kd.N_alloc | apply Kd.N_drewN | apply Kd.N_drew)); exact HO171.out)) k_ hk_.2.1), (Kd.freshB (g := gb151) (o := .cells #[.int .u8 1, .int .u8 0, .int .u8 0, .int .u8 0, .int .u8 0, .int .u8 0, .int .u8 0, .int .u8 0] 52 (0, 0)) (by (with_reducible repeat (first | refine blk_drewN ?_ _ | refine blk_drew ?_ | refine blk_alloc ?_ _)); exact BK151.out) k_ hk_.2.1), (Kd.freshB (g := gb152) (o := .cells #[.int .u8 2, .int .u8 0, .int .u8 0, .int .u8 0, .int .u8 0, .int .u8 0, .int .u8 0, .int .u8 0] 52 (0, 0)) (by (with_reducible repeat (first | refine blk_drewN ?_ _ | refine blk_drew ?_ | refine blk_alloc ?_ _)); exact BK152.out) k_ hk_.2.1), (Kd.freshB (g := gb153) (o := .cells #[.int .u8 3, .int .u8 0, .int .u8 0, .int .u8 0, .int .u8 0, .int .u8 0, .int .u8 0, .int .u8 0] 52 (0, 0)) (by (with_reducible repeat (first | refine blk_drewN ?_ _ | refine blk_drew ?_ | refine blk_alloc ?_ _)); exact BK153.out) k_ hk_.2.1)⟩)) (below_size (by repeat (first | (with_reducible first | exact HB.out | apply below_alloc | apply pw_below_drewN | apply below_drew1 | refine below_set ?_ GE151.out | refine below_set ?_ GE152.out | refine below_set ?_ GE153.out) | exact HB.out)))); have n4_ := Aside0.mk (blk_below (g := gb151) (o := .cells #[.int .u8 1, .int .u8 0, .int .u8 0, .int .u8 0, .int .u8 0, .int .u8 0, .int .u8 0, .int .u8 0] 52 (0, 0)) (by (with_reducible repeat (first | refine blk_drewN ?_ _ | refine blk_drew ?_ | refine blk_alloc ?_ _)); exact BK151.out) hb); have n5_ := Aside0.mk (blk_below (g := gb152) (o := .cells #[.int .u8 2, .int .u8 0, .int .u8 0, .int .u8 0, .int .u8 0, .int .u8 0, .int .u8 0, .int .u8 0] 52 (0, 0)) (by (with_reducible repeat (first | refine blk_drewN ?_ _ | refine blk_drew ?_ | refine blk_alloc ?_ _)); exact BK152.out) hb); have n6_ := Aside0.mk (blk_below (g := gb153) (o := .cells #[.int .u8 3, .int .u8 0, .int .u8 0, .int .u8 0, .int .u8 0, .int .u8 0, .int .u8 0, .int .u8 0] 52 (0, 0)) (by (with_reducible repeat (first | refine blk_drewN ?_ _ | refine blk_drew ?_ | refine blk_alloc ?_ _)); exact BK153.out) hb); have n7_ := Aside0.mk (below_step (by repeat (first | (with_reducible first | exact HB.out | apply below_alloc | apply pw_below_drewN | apply below_drew1 | refine below_set ?_ GE151.out | refine below_set ?_ GE152.out | refine below_set ?_ GE153.out) | exact HB.out)) hb); clear HO159; clear HO165; clear HO171; clear BK151; clear BK152; clear BK153; clear HB; have HO159 := n0_; have HO165 := n1_; have HO171 := n2_; have HO175 := n3_; have BK151 := n4_; have BK152 := n5_; have BK153 := n6_; have HB := n7_; clear n0_ n1_ n2_ n3_ n4_ n5_ n6_ n7_; (try clear hb); (try clear hb2); (try clear hk); (try clear hi); (try clear ho0); obtain ⟨Ao36, co36, eo36⟩ := Kd.N_slice HO165.out; subst eo36) | ((with_reducible refine gate_callee (f := 9) rfl ?_); refine goesL_ (some 46) rfl rfl Try.func9 (by kernel_rfl) rfl #[.slice Ao33 y157.length co33, .slice Ao36 y163.length co36, .slice Ao34 y169.length co34] rfl (by (try simp only [List.map_toArray, List.map_cons, List.map_nil]); first | done | rfl | (simp only [List.length_drop, List.length_take]; rfl)) ?_; (with_reducible refine (resync_Needed.calls _ _ y157 _ _ y163 _ _ y169 t176 t177 _ ?side1 ?side2 ?side3 ?side4 ?side5 ?side6 A2.out).mono ?_); (case side1 => repeat (first | exact (Kd.N_reads' HO159.out).2.2 | (with_reducible refine Kd.C_alloc ?_ _) | (with_reducible refine Kd.C_drewN ?_ _) | (with_reducible refine Kd.C_drew ?_))); (case side2 => exact (Kd.N_reads' HO159.out).2.1); (case side3 => repeat (first | exact (Kd.N_reads' HO165.out).2.2 | (with_reducible refine Kd.C_alloc ?_ _) | (with_reducible refine Kd.C_drewN ?_ _) | (with_reducible refine Kd.C_drew ?_))); (case side4 => exact (Kd.N_reads' HO165.out).2.1); (case side5 => repeat (first | exact (Kd.N_reads' HO171.out).2.2 | (with_reducible refine Kd.C_alloc ?_ _) | (with_reducible refine Kd.C_drewN ?_ _) | (with_reducible refine Kd.C_drew ?_))); (case side6 => exact (Kd.N_reads' HO171.out).2.1); rintro e w37 ⟨v178, rfl, ho0, hb⟩; refine ⟨_, rfl, ?_⟩; have n0_ := Aside0.mk (Kd.N_elder' (by (with_reducible repeat (first | apply Kd.N_alloc | apply Kd.N_drewN | apply Kd.N_drew)); exact HO159.out) (Kd.N_base (Kd.S_N ho0)) hb); have n1_ := Aside0.mk (Kd.N_elder' (by (with_reducible repeat (first | apply Kd.N_alloc | apply Kd.N_drewN | apply Kd.N_drew)); exact HO165.out) (Kd.N_base (Kd.S_N ho0)) hb); have n2_ := Aside0.mk (Kd.N_elder' (by (with_reducible repeat (first | apply Kd.N_alloc | apply Kd.N_drewN | apply Kd.N_drew)); exact HO171.out) (Kd.N_base (Kd.S_N ho0)) hb); have n3_ := Aside0.mk (Kd.N_elder' (by (with_reducible repeat (first | apply Kd.N_alloc | apply Kd.N_drewN | apply Kd.N_drew)); exact HO175.out) (Kd.N_base (Kd.S_N ho0)) hb); have n4_ := Aside0.mk (Kd.N_lower (Kd.N_mono (ok' := fun k_ => some k_ ≠ (.slice Ao33 y157.length co33 : Value).ownBlock ∧ some k_ ≠ (.slice Ao36 y163.length co36 : Value).ownBlock ∧ some k_ ≠ (.slice Ao34 y169.length co34 : Value).ownBlock ∧ some k_ ≠ (v174 : Value).ownBlock ∧ k_ ≠ gb151 ∧ k_ ≠ gb152 ∧ k_ ≠ gb153) (Kd.S_N (Kd.S_bound ho0)) (fun k_ hk_ => ⟨(Kd.fresh' (Kd.N_lt (by (with_reducible repeat (first | apply Kd.N_alloc | apply Kd.N_drewN | apply Kd.N_drew)); exact HO159.out)) k_ hk_.2.1), (Kd.fresh' (Kd.N_lt (by (with_reducible repeat (first | apply Kd.N_alloc | apply Kd.N_drewN | apply Kd.N_drew)); exact HO165.out)) k_ hk_.2.1), (Kd.fresh' (Kd.N_lt (by (with_reducible repeat (first | apply Kd.N_alloc | apply Kd.N_drewN | apply Kd.N_drew)); exact HO171.out)) k_ hk_.2.1), (Kd.fresh' (Kd.N_lt (by (with_reducible repeat (first | apply Kd.N_alloc | apply Kd.N_drewN | apply Kd.N_drew)); exact HO175.out)) k_ hk_.2.1), (Kd.freshB (g := gb151) (o := .cells #[.int .u8 1, .int .u8 0, .int .u8 0, .int .u8 0, .int .u8 0, .int .u8 0, .int .u8 0, .int .u8 0] 52 (0, 0)) (by (with_reducible repeat (first | refine blk_drewN ?_ _ | refine blk_drew ?_ | refine blk_alloc ?_ _)); exact BK151.out) k_ hk_.2.1), (Kd.freshB (g := gb152) (o := .cells #[.int .u8 2, .int .u8 0, .int .u8 0, .int .u8 0, .int .u8 0, .int .u8 0, .int .u8 0, .int .u8 0] 52 (0, 0)) (by (with_reducible repeat (first | refine blk_drewN ?_ _ | refine blk_drew ?_ | refine blk_alloc ?_ _)); exact BK152.out) k_ hk_.2.1), (Kd.freshB (g := gb153) (o := .cells #[.int .u8 3, .int .u8 0, .int .u8 0, .int .u8 0, .int .u8 0, .int .u8 0, .int .u8 0, .int .u8 0] 52 (0, 0)) (by (with_reducible repeat (first | refine blk_drewN ?_ _ | refine blk_drew ?_ | refine blk_alloc ?_ _)); exact BK153.out) k_ hk_.2.1)⟩)) (below_size (by repeat (first | (with_reducible first | exact HB.out | apply below_alloc | apply pw_below_drewN | apply below_drew1 | refine below_set ?_ GE151.out | refine below_set ?_ GE152.out | refine below_set ?_ GE153.out) | exact HB.out)))); have n5_ := Aside0.mk (blk_below (g := gb151) (o := .cells #[.int .u8 1, .int .u8 0, .int .u8 0, .int .u8 0, .int .u8 0, .int .u8 0, .int .u8 0, .int .u8 0] 52 (0, 0)) (by (with_reducible repeat (first | refine blk_drewN ?_ _ | refine blk_drew ?_ | refine blk_alloc ?_ _)); exact BK151.out) hb); have n6_ := Aside0.mk (blk_below (g := gb152) (o := .cells #[.int .u8 2, .int .u8 0, .int .u8 0, .int .u8 0, .int .u8 0, .int .u8 0, .int .u8 0, .int .u8 0] 52 (0, 0)) (by (with_reducible repeat (first | refine blk_drewN ?_ _ | refine blk_drew ?_ | refine blk_alloc ?_ _)); exact BK152.out) hb); have n7_ := Aside0.mk (blk_below (g := gb153) (o := .cells #[.int .u8 3, .int .u8 0, .int .u8 0, .int .u8 0, .int .u8 0, .int .u8 0, .int .u8 0, .int .u8 0] 52 (0, 0)) (by (with_reducible repeat (first | refine blk_drewN ?_ _ | refine blk_drew ?_ | refine blk_alloc ?_ _)); exact BK153.out) hb); have n8_ := Aside0.mk (below_step (by repeat (first | (with_reducible first | exact HB.out | apply below_alloc | apply pw_below_drewN | apply below_drew1 | refine below_set ?_ GE151.out | refine below_set ?_ GE152.out | refine below_set ?_ GE153.out) | exact HB.out)) hb); clear HO159; clear HO165; clear HO171; clear HO175; clear BK151; clear BK152; clear BK153; clear HB; have HO159 := n0_; have HO165 := n1_; have HO171 := n2_; have HO175 := n3_; have HO179 := n4_; have BK151 := n5_; have BK152 := n6_; have BK153 := n7_; have HB := n8_; clear n0_ n1_ n2_ n3_ n4_ n5_ n6_ n7_ n8_; (try clear hb); (try clear hb2); (try clear hk); (try clear hi); (try clear ho0); obtain ⟨Ao38, co38, eo38⟩ := Kd.N_slice HO179.out; subst eo38) | ((with_reducible refine gate_callee (f := 11) rfl ?_); refine goesL_ (some 53) rfl rfl Try.func11 (by kernel_rfl) rfl #[.slice Ao33 y157.length co33, .slice Ao36 y163.length co36, .slice Ao38 t176.length co38] rfl (by (try simp only [List.map_toArray, List.map_cons, List.map_nil]); first | done | rfl | (simp only [List.length_drop, List.length_take]; rfl)) ?_; (with_reducible refine (resync_Exact.calls _ _ y157 _ _ y163 _ _ t176 t180 t181 _ ?side1 ?side2 ?side3 ?side4 ?side5 ?side6 A3.out).mono ?_); (case side1 => repeat (first | exact (Kd.N_reads' HO159.out).2.2 | (with_reducible refine Kd.C_alloc ?_ _) | (with_reducible refine Kd.C_drewN ?_ _) | (with_reducible refine Kd.C_drew ?_))); (case side2 => exact (Kd.N_reads' HO159.out).2.1); (case side3 => repeat (first | exact (Kd.N_reads' HO165.out).2.2 | (with_reducible refine Kd.C_alloc ?_ _) | (with_reducible refine Kd.C_drewN ?_ _) | (with_reducible refine Kd.C_drew ?_))); (case side4 => exact (Kd.N_reads' HO165.out).2.1); (case side5 => repeat (first | exact (Kd.N_reads' HO179.out).2.2 | (with_reducible refine Kd.C_alloc ?_ _) | (with_reducible refine Kd.C_drewN ?_ _) | (with_reducible refine Kd.C_drew ?_))); (case side6 => exact (Kd.N_reads' HO179.out).2.1); rintro e w39 ⟨rfl, hb⟩; refine ⟨_, rfl, ?_⟩; have n0_ := Aside0.mk (Kd.N_below (by (with_reducible repeat (first | apply Kd.N_alloc | apply Kd.N_drewN | apply Kd.N_drew)); exact HO159.out) hb); have n1_ := Aside0.mk (Kd.N_below (by (with_reducible repeat (first | apply Kd.N_alloc | apply Kd.N_drewN | apply Kd.N_drew)); exact HO165.out) hb); have n2_ := Aside0.mk (Kd.N_below (by (with_reducible repeat (first | apply Kd.N_alloc | apply Kd.N_drewN | apply Kd.N_drew)); exact HO171.out) hb); have n3_ := Aside0.mk (Kd.N_below (by (with_reducible repeat (first | apply Kd.N_alloc | apply Kd.N_drewN | apply Kd.N_drew)); exact HO175.out) hb); have n4_ := Aside0.mk (Kd.N_below (by (with_reducible repeat (first | apply Kd.N_alloc | apply Kd.N_drewN | apply Kd.N_drew)); exact HO179.out) hb); have n5_ := Aside0.mk (blk_below (g := gb151) (o := .cells #[.int .u8 1, .int .u8 0, .int .u8 0, .int .u8 0, .int .u8 0, .int .u8 0, .int .u8 0, .int .u8 0] 52 (0, 0)) (by (with_reducible repeat (first | refine blk_drewN ?_ _ | refine blk_drew ?_ | refine blk_alloc ?_ _)); exact BK151.out) hb); have n6_ := Aside0.mk (blk_below (g := gb152) (o := .cells #[.int .u8 2, .int .u8 0, .int .u8 0, .int .u8 0, .int .u8 0, .int .u8 0, .int .u8 0, .int .u8 0] 52 (0, 0)) (by (with_reducible repeat (first | refine blk_drewN ?_ _ | refine blk_drew ?_ | refine blk_alloc ?_ _)); exact BK152.out) hb); have n7_ := Aside0.mk (blk_below (g := gb153) (o := .cells #[.int .u8 3, .int .u8 0, .int .u8 0, .int .u8 0, .int .u8 0, .int .u8 0, .int .u8 0, .int .u8 0] 52 (0, 0)) (by (with_reducible repeat (first | refine blk_drewN ?_ _ | refine blk_drew ?_ | refine blk_alloc ?_ _)); exact BK153.out) hb); have n8_ := Aside0.mk (below_step (by repeat (first | (with_reducible first | exact HB.out | apply below_alloc | apply pw_below_drewN | apply below_drew1 | refine below_set ?_ GE151.out | refine below_set ?_ GE152.out | refine below_set ?_ GE153.out) | exact HB.out)) hb); clear HO159; clear HO165; clear HO171; clear HO175; clear HO179; clear BK151; clear BK152; clear BK153; clear HB; have HO159 := n0_; have HO165 := n1_; have HO171 := n2_; have HO175 := n3_; have HO179 := n4_; have BK151 := n5_; have BK152 := n6_; have BK153 := n7_; have HB := n8_; clear n0_ n1_ n2_ n3_ n4_ n5_ n6_ n7_ n8_; (try clear hb); (try clear hb2); (try clear hk); (try clear hi)) | ((with_reducible refine gate_callee (f := 11) rfl ?_); refine goesL_ (some 60) rfl rfl Try.func11 (by kernel_rfl) rfl #[.slice Ao33 y157.length co33, .slice Ao36 y163.length co36, .slice Ao34 y169.length co34] rfl (by (try simp only [List.map_toArray, List.map_cons, List.map_nil]); first | done | rfl | (simp only [List.length_drop, List.length_take]; rfl)) ?_; (with_reducible refine (resync_Exact.calls _ _ y157 _ _ y163 _ _ y169 t182 t183 _ ?side1 ?side2 ?side3 ?side4 ?side5 ?side6 A4.out).mono ?_); (case side1 => repeat (first | exact (Kd.N_reads' HO159.out).2.2 | (with_reducible refine Kd.C_alloc ?_ _) | (with_reducible refine Kd.C_drewN ?_ _) | (with_reducible refine Kd.C_drew ?_))); (case side2 => exact (Kd.N_reads' HO159.out).2.1); (case side3 => repeat (first | exact (Kd.N_reads' HO165.out).2.2 | (with_reducible refine Kd.C_alloc ?_ _) | (with_reducible refine Kd.C_drewN ?_ _) | (with_reducible refine Kd.C_drew ?_))); (case side4 => exact (Kd.N_reads' HO165.out).2.1); (case side5 => repeat (first | exact (Kd.N_reads' HO171.out).2.2 | (with_reducible refine Kd.C_alloc ?_ _) | (with_reducible refine Kd.C_drewN ?_ _) | (with_reducible refine Kd.C_drew ?_))); (case side6 => exact (Kd.N_reads' HO171.out).2.1); rintro e w40 ⟨rfl, hb⟩; refine ⟨_, rfl, ?_⟩; have n0_ := Aside0.mk (Kd.N_below (by (with_reducible repeat (first | apply Kd.N_alloc | apply Kd.N_drewN | apply Kd.N_drew)); exact HO159.out) hb); have n1_ := Aside0.mk (Kd.N_below (by (with_reducible repeat (first | apply Kd.N_alloc | apply Kd.N_drewN | apply Kd.N_drew)); exact HO165.out) hb); have n2_ := Aside0.mk (Kd.N_below (by (with_reducible repeat (first | apply Kd.N_alloc | apply Kd.N_drewN | apply Kd.N_drew)); exact HO171.out) hb); have n3_ := Aside0.mk (Kd.N_below (by (with_reducible repeat (first | apply Kd.N_alloc | apply Kd.N_drewN | apply Kd.N_drew)); exact HO175.out) hb); have n4_ := Aside0.mk (Kd.N_below (by (with_reducible repeat (first | apply Kd.N_alloc | apply Kd.N_drewN | apply Kd.N_drew)); exact HO179.out) hb); have n5_ := Aside0.mk (blk_below (g := gb151) (o := .cells #[.int .u8 1, .int .u8 0, .int .u8 0, .int .u8 0, .int .u8 0, .int .u8 0, .int .u8 0, .int .u8 0] 52 (0, 0)) (by (with_reducible repeat (first | refine blk_drewN ?_ _ | refine blk_drew ?_ | refine blk_alloc ?_ _)); exact BK151.out) hb); have n6_ := Aside0.mk (blk_below (g := gb152) (o := .cells #[.int .u8 2, .int .u8 0, .int .u8 0, .int .u8 0, .int .u8 0, .int .u8 0, .int .u8 0, .int .u8 0] 52 (0, 0)) (by (with_reducible repeat (first | refine blk_drewN ?_ _ | refine blk_drew ?_ | refine blk_alloc ?_ _)); exact BK152.out) hb); have n7_ := Aside0.mk (blk_below (g := gb153) (o := .cells #[.int .u8 3, .int .u8 0, .int .u8 0, .int .u8 0, .int .u8 0, .int .u8 0, .int .u8 0, .int .u8 0] 52 (0, 0)) (by (with_reducible repeat (first | refine blk_drewN ?_ _ | refine blk_drew ?_ | refine blk_alloc ?_ _)); exact BK153.out) hb); have n8_ := Aside0.mk (below_step (by repeat (first | (with_reducible first | exact HB.out | apply below_alloc | apply pw_below_drewN | apply below_drew1 | refine below_set ?_ GE151.out | refine below_set ?_ GE152.out | refine below_set ?_ GE153.out) | exact HB.out)) hb); clear HO159; clear HO165; clear HO171; clear HO175; clear HO179; clear BK151; clear BK152; clear BK153; clear HB; have HO159 := n0_; have HO165 := n1_; have HO171 := n2_; have HO175 := n3_; have HO179 := n4_; have BK151 := n5_; have BK152 := n6_; have BK153 := n7_; have HB := n8_; clear n0_ n1_ n2_ n3_ n4_ n5_ n6_ n7_ n8_; (try clear hb); (try clear hb2); (try clear hk); (try clear hi)))
  (try simp only [Act.put, List.setIfInBounds_toArray, List.set_cons_zero, List.set_cons_succ])
  go_cut [83] (fun v83 wc => ∃ (kq : Nat) (x83_4 : Bool), v83 = .bool x83_4 ∧ Aside0 (standbylaw45_awake.j0 kq y169 t176 t180 t182 x83_4 = some r) ∧ Aside0 (kq ≤ k) ∧ Aside0 (Kd.N (Kd.slice 54 k54) 50 wc w.heap.size (fun k_ => some k_ ≠ ((.slice Ao38 t176.length co38) : Value).ownBlock ∧ k_ ≠ gb151 ∧ k_ ≠ gb152 ∧ k_ ≠ gb153) (.slice Ao34 y169.length co34) y169) ∧ Aside0 (Kd.N (Kd.slice 54 k54) 50 wc w.heap.size (fun k_ => some k_ ≠ ((.slice Ao34 y169.length co34) : Value).ownBlock ∧ k_ ≠ gb151 ∧ k_ ≠ gb152 ∧ k_ ≠ gb153) (.slice Ao38 t176.length co38) t176) ∧ Aside0 (wc.heap[gb151]? = some (.cells #[.int .u8 1, .int .u8 0, .int .u8 0, .int .u8 0, .int .u8 0, .int .u8 0, .int .u8 0, .int .u8 0] 52 (0, 0))) ∧ Aside0 (wc.heap[gb152]? = some (.cells #[.int .u8 2, .int .u8 0, .int .u8 0, .int .u8 0, .int .u8 0, .int .u8 0, .int .u8 0, .int .u8 0] 52 (0, 0))) ∧ Aside0 (wc.heap[gb153]? = some (.cells #[.int .u8 3, .int .u8 0, .int .u8 0, .int .u8 0, .int .u8 0, .int .u8 0, .int .u8 0, .int .u8 0] 52 (0, 0))) ∧ Aside0 (Below w.heap.size w wc))
  case first =>
    have H := HC5.out
    clear HC5
    by_cases c41 : (wrap64 ((wrap64 ((wrap64 (t173 + t177)) + t181)) + t183)) = 0
    · rw [if_pos c41] at H
      have c41b0 : ((wrap64 ((wrap64 ((wrap64 (t173 + t177)) + t181)) + t183)) == 0) = true := beq_iff_eq.mpr c41
      have c41b1 : ((wrap64 ((wrap64 ((wrap64 (t173 + t177)) + t181)) + t183)) != 0) = false := bne_eq_false_iff_eq.mpr c41
      clear c41
      (first | rw [c41b0] | (simp only [i64_w, i32_w]; rw [c41b0]) | skip)
      obtain ⟨y184, hy184⟩ : ∃ y_ : List (S52), y_ = (([(⟨1, 0, 0, 0, 0, 0, 0, 0⟩ : S52), (⟨2, 0, 0, 0, 0, 0, 0, 0⟩ : S52)] : List (S52))) := ⟨_, rfl⟩
      replace H : ((standbyref22_Same.f k t172 (([(⟨0, 0, y184⟩ : S57), (⟨0, 4, (([(⟨3, 0, 0, 0, 0, 0, 0, 0⟩ : S52)] : List (S52)))⟩ : S57)] : List (S57)))).bind fun t193 => (standbylaw45_awake.j0 k y169 t176 t180 t182 (!t193))) = some r := by first | (rw [hy184]; with_reducible exact H) | (have H2_ := (Option.bind_some _ _).symm.trans H; rw [hy184]; with_reducible exact H2_) | (have H2_ := (Option.bind_some _ _).symm.trans H; with_reducible exact H2_) | with_reducible exact H | (rw [hy184]; exact H) | exact H
      have Ny184 := Aside0.mk hy184
      clear hy184
      obtain ⟨y187, hy187⟩ : ∃ y_ : List (S52), y_ = (([(⟨3, 0, 0, 0, 0, 0, 0, 0⟩ : S52)] : List (S52))) := ⟨_, rfl⟩
      replace H : ((standbyref22_Same.f k t172 (([(⟨0, 0, y184⟩ : S57), (⟨0, 4, y187⟩ : S57)] : List (S57)))).bind fun t193 => (standbylaw45_awake.j0 k y169 t176 t180 t182 (!t193))) = some r := by first | (rw [hy187]; with_reducible exact H) | (have H2_ := (Option.bind_some _ _).symm.trans H; rw [hy187]; with_reducible exact H2_) | (have H2_ := (Option.bind_some _ _).symm.trans H; with_reducible exact H2_) | with_reducible exact H | (rw [hy187]; exact H) | exact H
      have Ny187 := Aside0.mk hy187
      clear hy187
      obtain ⟨y190, hy190⟩ : ∃ y_ : List (S57), y_ = (([(⟨0, 0, y184⟩ : S57), (⟨0, 4, y187⟩ : S57)] : List (S57))) := ⟨_, rfl⟩
      replace H : ((standbyref22_Same.f k t172 y190).bind fun t193 => (standbylaw45_awake.j0 k y169 t176 t180 t182 (!t193))) = some r := by first | (rw [hy190]; with_reducible exact H) | (have H2_ := (Option.bind_some _ _).symm.trans H; rw [hy190]; with_reducible exact H2_) | (have H2_ := (Option.bind_some _ _).symm.trans H; with_reducible exact H2_) | with_reducible exact H | (rw [hy190]; exact H) | exact H
      have Ny190 := Aside0.mk hy190
      clear hy190
      replace H := Option.bind_eq_some_iff.mp H
      obtain ⟨t193, A420, H⟩ := H
      replace H : (standbylaw45_awake.j0 k y169 t176 t180 t182 (!t193)) = some r := H
      have A42 := Aside0.mk A420
      clear A420
      have H' := Aside0.mk H
      clear H
      have hnb43 := NB151_152.out
      have hnc43 := NB152_151.out
      have hnb44 := NB151_153.out
      have hnc44 := NB153_151.out
      have hcz45_0 : w40.cell? ⟨gb151, 0, none⟩ = some (.int .u8 1) := (blk_cell BK151.out 0).trans rfl
      have hcz45_1 : w40.cell? ⟨gb151, 1, none⟩ = some (.int .u8 0) := (blk_cell BK151.out 1).trans rfl
      have hcz45_2 : w40.cell? ⟨gb151, 2, none⟩ = some (.int .u8 0) := (blk_cell BK151.out 2).trans rfl
      have hcz45_3 : w40.cell? ⟨gb151, 3, none⟩ = some (.int .u8 0) := (blk_cell BK151.out 3).trans rfl
      have hcz45_4 : w40.cell? ⟨gb151, 4, none⟩ = some (.int .u8 0) := (blk_cell BK151.out 4).trans rfl
      have hcz45_5 : w40.cell? ⟨gb151, 5, none⟩ = some (.int .u8 0) := (blk_cell BK151.out 5).trans rfl
      have hcz45_6 : w40.cell? ⟨gb151, 6, none⟩ = some (.int .u8 0) := (blk_cell BK151.out 6).trans rfl
      have hcz45_7 : w40.cell? ⟨gb151, 7, none⟩ = some (.int .u8 0) := (blk_cell BK151.out 7).trans rfl
      have hfz45_0 := blk_frozen BK151.out 0
      have hfz45_1 := blk_frozen BK151.out 1
      have hfz45_2 := blk_frozen BK151.out 2
      have hfz45_3 := blk_frozen BK151.out 3
      have hfz45_4 := blk_frozen BK151.out 4
      have hfz45_5 := blk_frozen BK151.out 5
      have hfz45_6 := blk_frozen BK151.out 6
      have hfz45_7 := blk_frozen BK151.out 7
      have hnb46 := NB152_153.out
      have hnc46 := NB153_152.out
      have hcz47_0 : w40.cell? ⟨gb152, 0, none⟩ = some (.int .u8 2) := (blk_cell BK152.out 0).trans rfl
      have hcz47_1 : w40.cell? ⟨gb152, 1, none⟩ = some (.int .u8 0) := (blk_cell BK152.out 1).trans rfl
      have hcz47_2 : w40.cell? ⟨gb152, 2, none⟩ = some (.int .u8 0) := (blk_cell BK152.out 2).trans rfl
      have hcz47_3 : w40.cell? ⟨gb152, 3, none⟩ = some (.int .u8 0) := (blk_cell BK152.out 3).trans rfl
      have hcz47_4 : w40.cell? ⟨gb152, 4, none⟩ = some (.int .u8 0) := (blk_cell BK152.out 4).trans rfl
      have hcz47_5 : w40.cell? ⟨gb152, 5, none⟩ = some (.int .u8 0) := (blk_cell BK152.out 5).trans rfl
      have hcz47_6 : w40.cell? ⟨gb152, 6, none⟩ = some (.int .u8 0) := (blk_cell BK152.out 6).trans rfl
      have hcz47_7 : w40.cell? ⟨gb152, 7, none⟩ = some (.int .u8 0) := (blk_cell BK152.out 7).trans rfl
      have hfz47_0 := blk_frozen BK152.out 0
      have hfz47_1 := blk_frozen BK152.out 1
      have hfz47_2 := blk_frozen BK152.out 2
      have hfz47_3 := blk_frozen BK152.out 3
      have hfz47_4 := blk_frozen BK152.out 4
      have hfz47_5 := blk_frozen BK152.out 5
      have hfz47_6 := blk_frozen BK152.out 6
      have hfz47_7 := blk_frozen BK152.out 7
      go_wp2_with (first | ((with_reducible refine gate_dst (N := 75) rfl ?_); (try (refine gate_guard (by rfl) ?_; dsimp only)); refine Kd.R_lit k52 _ 52 ?hg (N := 75) ?hd (xs := ([(⟨1, 0, 0, 0, 0, 0, 0, 0⟩ : S52), (⟨2, 0, 0, 0, 0, 0, 0, 0⟩ : S52)] : List (S52))) (inner := [.int .u8 1, .int .u8 0, .int .u8 0, .int .u8 0, .int .u8 0, .int .u8 0, .int .u8 0, .int .u8 0, .int .u8 2, .int .u8 0, .int .u8 0, .int .u8 0, .int .u8 0, .int .u8 0, .int .u8 0, .int .u8 0]) (ok := fun _ => True) (okp := fun _ => True) ?hr ?hp (fun _ hk => hk) trivial (Below.refl _ _) (Nat.le_refl _) (by simp) ?_; (case hd => rfl); (case hg => rfl); (case hr => first | (go_simp; done) | (go_simp; rfl)); (case hp => exact (Reps.c8 (show Kd.M k52 _ _ _ (⟨1, 0, 0, 0, 0, 0, 0, 0⟩ : S52) [.int .u8 1, .int .u8 0, .int .u8 0, .int .u8 0, .int .u8 0, .int .u8 0, .int .u8 0, .int .u8 0] from (k52_mkM _ _ _ (⟨1, 0, 0, 0, 0, 0, 0, 0⟩ : S52) )) (Reps.c8 (show Kd.M k52 _ _ _ (⟨2, 0, 0, 0, 0, 0, 0, 0⟩ : S52) [.int .u8 2, .int .u8 0, .int .u8 0, .int .u8 0, .int .u8 0, .int .u8 0, .int .u8 0, .int .u8 0] from (k52_mkM _ _ _ (⟨2, 0, 0, 0, 0, 0, 0, 0⟩ : S52) )) (Reps.none _ _)))); intro v185 w48 ho49 hb hg_ hnew_; clear hg_ hnew_; (first | rw [← Ny184.out] at ho49 | (simp only [Int.reduceToNat] at ho49; rw [← Ny184.out] at ho49)); have n0_ := Aside0.mk (Kd.N_elder' (by (with_reducible repeat (first | apply Kd.N_alloc | apply Kd.N_drewN | apply Kd.N_drew)); exact HO159.out) (Kd.R_base ho49) hb); have n1_ := Aside0.mk (Kd.N_elder' (by (with_reducible repeat (first | apply Kd.N_alloc | apply Kd.N_drewN | apply Kd.N_drew)); exact HO165.out) (Kd.R_base ho49) hb); have n2_ := Aside0.mk (Kd.N_elder' (by (with_reducible repeat (first | apply Kd.N_alloc | apply Kd.N_drewN | apply Kd.N_drew)); exact HO171.out) (Kd.R_base ho49) hb); have n3_ := Aside0.mk (Kd.N_elder' (by (with_reducible repeat (first | apply Kd.N_alloc | apply Kd.N_drewN | apply Kd.N_drew)); exact HO175.out) (Kd.R_base ho49) hb); have n4_ := Aside0.mk (Kd.N_elder' (by (with_reducible repeat (first | apply Kd.N_alloc | apply Kd.N_drewN | apply Kd.N_drew)); exact HO179.out) (Kd.R_base ho49) hb); have n5_ := Aside0.mk (Kd.R_lower (Kd.R_newB (Kd.R_newB (Kd.R_newB ho49 (g := gb151) (o := .cells #[.int .u8 1, .int .u8 0, .int .u8 0, .int .u8 0, .int .u8 0, .int .u8 0, .int .u8 0, .int .u8 0] 52 (0, 0)) (by (with_reducible repeat (first | refine blk_drewN ?_ _ | refine blk_drew ?_ | refine blk_alloc ?_ _)); exact BK151.out)) (g := gb152) (o := .cells #[.int .u8 2, .int .u8 0, .int .u8 0, .int .u8 0, .int .u8 0, .int .u8 0, .int .u8 0, .int .u8 0] 52 (0, 0)) (by (with_reducible repeat (first | refine blk_drewN ?_ _ | refine blk_drew ?_ | refine blk_alloc ?_ _)); exact BK152.out)) (g := gb153) (o := .cells #[.int .u8 3, .int .u8 0, .int .u8 0, .int .u8 0, .int .u8 0, .int .u8 0, .int .u8 0, .int .u8 0] 52 (0, 0)) (by (with_reducible repeat (first | refine blk_drewN ?_ _ | refine blk_drew ?_ | refine blk_alloc ?_ _)); exact BK153.out)) (below_size (by repeat (first | (with_reducible first | exact HB.out | apply below_alloc | apply pw_below_drewN | apply below_drew1 | refine below_set ?_ GE151.out | refine below_set ?_ GE152.out | refine below_set ?_ GE153.out) | exact HB.out)))); have n6_ := Aside0.mk (blk_below (g := gb151) (o := .cells #[.int .u8 1, .int .u8 0, .int .u8 0, .int .u8 0, .int .u8 0, .int .u8 0, .int .u8 0, .int .u8 0] 52 (0, 0)) (by (with_reducible repeat (first | refine blk_drewN ?_ _ | refine blk_drew ?_ | refine blk_alloc ?_ _)); exact BK151.out) hb); have n7_ := Aside0.mk (blk_below (g := gb152) (o := .cells #[.int .u8 2, .int .u8 0, .int .u8 0, .int .u8 0, .int .u8 0, .int .u8 0, .int .u8 0, .int .u8 0] 52 (0, 0)) (by (with_reducible repeat (first | refine blk_drewN ?_ _ | refine blk_drew ?_ | refine blk_alloc ?_ _)); exact BK152.out) hb); have n8_ := Aside0.mk (blk_below (g := gb153) (o := .cells #[.int .u8 3, .int .u8 0, .int .u8 0, .int .u8 0, .int .u8 0, .int .u8 0, .int .u8 0, .int .u8 0] 52 (0, 0)) (by (with_reducible repeat (first | refine blk_drewN ?_ _ | refine blk_drew ?_ | refine blk_alloc ?_ _)); exact BK153.out) hb); have n9_ := Aside0.mk (below_step (by repeat (first | (with_reducible first | exact HB.out | apply below_alloc | apply pw_below_drewN | apply below_drew1 | refine below_set ?_ GE151.out | refine below_set ?_ GE152.out | refine below_set ?_ GE153.out) | exact HB.out)) hb); clear HO159; clear HO165; clear HO171; clear HO175; clear HO179; clear BK151; clear BK152; clear BK153; clear HB; have HO159 := n0_; have HO165 := n1_; have HO171 := n2_; have HO175 := n3_; have HO179 := n4_; have HO186 := n5_; have BK151 := n6_; have BK152 := n7_; have BK153 := n8_; have HB := n9_; clear n0_ n1_ n2_ n3_ n4_ n5_ n6_ n7_ n8_ n9_; clear hb ho49; obtain ⟨Ao50, co50, eo50⟩ := Kd.R_slice HO186.out; subst eo50; have hcz51_0 : w48.cell? ⟨gb153, 0, none⟩ = some (.int .u8 3) := (blk_cell BK153.out 0).trans rfl; have hcz51_1 : w48.cell? ⟨gb153, 1, none⟩ = some (.int .u8 0) := (blk_cell BK153.out 1).trans rfl; have hcz51_2 : w48.cell? ⟨gb153, 2, none⟩ = some (.int .u8 0) := (blk_cell BK153.out 2).trans rfl; have hcz51_3 : w48.cell? ⟨gb153, 3, none⟩ = some (.int .u8 0) := (blk_cell BK153.out 3).trans rfl; have hcz51_4 : w48.cell? ⟨gb153, 4, none⟩ = some (.int .u8 0) := (blk_cell BK153.out 4).trans rfl; have hcz51_5 : w48.cell? ⟨gb153, 5, none⟩ = some (.int .u8 0) := (blk_cell BK153.out 5).trans rfl; have hcz51_6 : w48.cell? ⟨gb153, 6, none⟩ = some (.int .u8 0) := (blk_cell BK153.out 6).trans rfl; have hcz51_7 : w48.cell? ⟨gb153, 7, none⟩ = some (.int .u8 0) := (blk_cell BK153.out 7).trans rfl; have hfz51_0 := blk_frozen BK153.out 0; have hfz51_1 := blk_frozen BK153.out 1; have hfz51_2 := blk_frozen BK153.out 2; have hfz51_3 := blk_frozen BK153.out 3; have hfz51_4 := blk_frozen BK153.out 4; have hfz51_5 := blk_frozen BK153.out 5; have hfz51_6 := blk_frozen BK153.out 6; have hfz51_7 := blk_frozen BK153.out 7) | ((with_reducible refine gate_dst (N := 78) rfl ?_); (try (refine gate_guard (by rfl) ?_; dsimp only)); refine Kd.R_lit k52 _ 52 ?hg (N := 78) ?hd (xs := ([(⟨3, 0, 0, 0, 0, 0, 0, 0⟩ : S52)] : List (S52))) (inner := [.int .u8 3, .int .u8 0, .int .u8 0, .int .u8 0, .int .u8 0, .int .u8 0, .int .u8 0, .int .u8 0]) (ok := fun _ => True) (okp := fun _ => True) ?hr ?hp (fun _ hk => hk) trivial (Below.refl _ _) (Nat.le_refl _) (by simp) ?_; (case hd => rfl); (case hg => rfl); (case hr => first | (go_simp; done) | (go_simp; rfl)); (case hp => exact (Reps.c8 (show Kd.M k52 _ _ _ (⟨3, 0, 0, 0, 0, 0, 0, 0⟩ : S52) [.int .u8 3, .int .u8 0, .int .u8 0, .int .u8 0, .int .u8 0, .int .u8 0, .int .u8 0, .int .u8 0] from (k52_mkM _ _ _ (⟨3, 0, 0, 0, 0, 0, 0, 0⟩ : S52) )) (Reps.none _ _))); intro v188 w52 ho53 hb hg_ hnew_; clear hg_ hnew_; (first | rw [← Ny187.out] at ho53 | (simp only [Int.reduceToNat] at ho53; rw [← Ny187.out] at ho53)); have n0_ := Aside0.mk (Kd.N_elder' (by (with_reducible repeat (first | apply Kd.N_alloc | apply Kd.N_drewN | apply Kd.N_drew)); exact HO159.out) (Kd.R_base ho53) hb); have n1_ := Aside0.mk (Kd.N_elder' (by (with_reducible repeat (first | apply Kd.N_alloc | apply Kd.N_drewN | apply Kd.N_drew)); exact HO165.out) (Kd.R_base ho53) hb); have n2_ := Aside0.mk (Kd.N_elder' (by (with_reducible repeat (first | apply Kd.N_alloc | apply Kd.N_drewN | apply Kd.N_drew)); exact HO171.out) (Kd.R_base ho53) hb); have n3_ := Aside0.mk (Kd.N_elder' (by (with_reducible repeat (first | apply Kd.N_alloc | apply Kd.N_drewN | apply Kd.N_drew)); exact HO175.out) (Kd.R_base ho53) hb); have n4_ := Aside0.mk (Kd.N_elder' (by (with_reducible repeat (first | apply Kd.N_alloc | apply Kd.N_drewN | apply Kd.N_drew)); exact HO179.out) (Kd.R_base ho53) hb); have n5_ := Aside0.mk (Kd.R_elder' (by (with_reducible repeat (first | apply Kd.R_alloc | apply Kd.R_drewN | apply Kd.R_drew)); exact HO186.out) (Kd.R_base ho53) hb); have n6_ := Aside0.mk (Kd.R_lower (Kd.R_newB (Kd.R_newB (Kd.R_newB (Kd.R_new' ho53 (Kd.R_lt (by (with_reducible repeat (first | apply Kd.R_alloc | apply Kd.R_drewN | apply Kd.R_drew)); exact HO186.out))) (g := gb151) (o := .cells #[.int .u8 1, .int .u8 0, .int .u8 0, .int .u8 0, .int .u8 0, .int .u8 0, .int .u8 0, .int .u8 0] 52 (0, 0)) (by (with_reducible repeat (first | refine blk_drewN ?_ _ | refine blk_drew ?_ | refine blk_alloc ?_ _)); exact BK151.out)) (g := gb152) (o := .cells #[.int .u8 2, .int .u8 0, .int .u8 0, .int .u8 0, .int .u8 0, .int .u8 0, .int .u8 0, .int .u8 0] 52 (0, 0)) (by (with_reducible repeat (first | refine blk_drewN ?_ _ | refine blk_drew ?_ | refine blk_alloc ?_ _)); exact BK152.out)) (g := gb153) (o := .cells #[.int .u8 3, .int .u8 0, .int .u8 0, .int .u8 0, .int .u8 0, .int .u8 0, .int .u8 0, .int .u8 0] 52 (0, 0)) (by (with_reducible repeat (first | refine blk_drewN ?_ _ | refine blk_drew ?_ | refine blk_alloc ?_ _)); exact BK153.out)) (below_size (by repeat (first | (with_reducible first | exact HB.out | apply below_alloc | apply pw_below_drewN | apply below_drew1 | refine below_set ?_ GE151.out | refine below_set ?_ GE152.out | refine below_set ?_ GE153.out) | exact HB.out)))); have n7_ := Aside0.mk (blk_below (g := gb151) (o := .cells #[.int .u8 1, .int .u8 0, .int .u8 0, .int .u8 0, .int .u8 0, .int .u8 0, .int .u8 0, .int .u8 0] 52 (0, 0)) (by (with_reducible repeat (first | refine blk_drewN ?_ _ | refine blk_drew ?_ | refine blk_alloc ?_ _)); exact BK151.out) hb); have n8_ := Aside0.mk (blk_below (g := gb152) (o := .cells #[.int .u8 2, .int .u8 0, .int .u8 0, .int .u8 0, .int .u8 0, .int .u8 0, .int .u8 0, .int .u8 0] 52 (0, 0)) (by (with_reducible repeat (first | refine blk_drewN ?_ _ | refine blk_drew ?_ | refine blk_alloc ?_ _)); exact BK152.out) hb); have n9_ := Aside0.mk (blk_below (g := gb153) (o := .cells #[.int .u8 3, .int .u8 0, .int .u8 0, .int .u8 0, .int .u8 0, .int .u8 0, .int .u8 0, .int .u8 0] 52 (0, 0)) (by (with_reducible repeat (first | refine blk_drewN ?_ _ | refine blk_drew ?_ | refine blk_alloc ?_ _)); exact BK153.out) hb); have n10_ := Aside0.mk (below_step (by repeat (first | (with_reducible first | exact HB.out | apply below_alloc | apply pw_below_drewN | apply below_drew1 | refine below_set ?_ GE151.out | refine below_set ?_ GE152.out | refine below_set ?_ GE153.out) | exact HB.out)) hb); clear HO159; clear HO165; clear HO171; clear HO175; clear HO179; clear HO186; clear BK151; clear BK152; clear BK153; clear HB; have HO159 := n0_; have HO165 := n1_; have HO171 := n2_; have HO175 := n3_; have HO179 := n4_; have HO186 := n5_; have HO189 := n6_; have BK151 := n7_; have BK152 := n8_; have BK153 := n9_; have HB := n10_; clear n0_ n1_ n2_ n3_ n4_ n5_ n6_ n7_ n8_ n9_ n10_; clear hb ho53; obtain ⟨Ao54, co54, eo54⟩ := Kd.R_slice HO189.out; subst eo54) | ((with_reducible refine gate_dst (N := 80) rfl ?_); (try (refine gate_guard (by rfl) ?_; dsimp only)); refine Kd.N_lit k57 _ 57 ?hg (N' := 80) ?hd (xs := ([(⟨0, 0, y184⟩ : S57), (⟨0, 4, y187⟩ : S57)] : List (S57))) (inner := [.int .i64 0, .int .i64 0, .slice Ao50 y184.length co50, .int .i64 0, .int .i64 4, .slice Ao54 y187.length co54]) (ok := (fun k_ => some k_ ≠ (.slice Ao33 y157.length co33 : Value).ownBlock ∧ some k_ ≠ (.slice Ao36 y163.length co36 : Value).ownBlock ∧ some k_ ≠ (.slice Ao34 y169.length co34 : Value).ownBlock ∧ some k_ ≠ (v174 : Value).ownBlock ∧ some k_ ≠ (.slice Ao38 t176.length co38 : Value).ownBlock ∧ k_ ≠ gb151 ∧ k_ ≠ gb152 ∧ k_ ≠ gb153)) (okp := (fun k_ => some k_ ≠ (.slice Ao33 y157.length co33 : Value).ownBlock ∧ some k_ ≠ (.slice Ao36 y163.length co36 : Value).ownBlock ∧ some k_ ≠ (.slice Ao34 y169.length co34 : Value).ownBlock ∧ some k_ ≠ (v174 : Value).ownBlock ∧ some k_ ≠ (.slice Ao38 t176.length co38 : Value).ownBlock ∧ k_ ≠ gb151 ∧ k_ ≠ gb152 ∧ k_ ≠ gb153)) ?hr ?hp (fun _ hk => hk) ((show ∀ k_, w52.heap.size ≤ k_ → (fun k_ => some k_ ≠ (.slice Ao33 y157.length co33 : Value).ownBlock ∧ some k_ ≠ (.slice Ao36 y163.length co36 : Value).ownBlock ∧ some k_ ≠ (.slice Ao34 y169.length co34 : Value).ownBlock ∧ some k_ ≠ (v174 : Value).ownBlock ∧ some k_ ≠ (.slice Ao38 t176.length co38 : Value).ownBlock ∧ k_ ≠ gb151 ∧ k_ ≠ gb152 ∧ k_ ≠ gb153) k_ from fun k_ hk => ⟨Kd.fresh' (Kd.N_lt (by (with_reducible repeat (first | apply Kd.N_alloc | apply Kd.N_drewN | apply Kd.N_drew)); exact HO159.out)) k_ hk, Kd.fresh' (Kd.N_lt (by (with_reducible repeat (first | apply Kd.N_alloc | apply Kd.N_drewN | apply Kd.N_drew)); exact HO165.out)) k_ hk, Kd.fresh' (Kd.N_lt (by (with_reducible repeat (first | apply Kd.N_alloc | apply Kd.N_drewN | apply Kd.N_drew)); exact HO171.out)) k_ hk, Kd.fresh' (Kd.N_lt (by (with_reducible repeat (first | apply Kd.N_alloc | apply Kd.N_drewN | apply Kd.N_drew)); exact HO175.out)) k_ hk, Kd.fresh' (Kd.N_lt (by (with_reducible repeat (first | apply Kd.N_alloc | apply Kd.N_drewN | apply Kd.N_drew)); exact HO179.out)) k_ hk, Kd.freshB (g := gb151) (o := .cells #[.int .u8 1, .int .u8 0, .int .u8 0, .int .u8 0, .int .u8 0, .int .u8 0, .int .u8 0, .int .u8 0] 52 (0, 0)) (by (with_reducible repeat (first | refine blk_drewN ?_ _ | refine blk_drew ?_ | refine blk_alloc ?_ _)); exact BK151.out) k_ hk, Kd.freshB (g := gb152) (o := .cells #[.int .u8 2, .int .u8 0, .int .u8 0, .int .u8 0, .int .u8 0, .int .u8 0, .int .u8 0, .int .u8 0] 52 (0, 0)) (by (with_reducible repeat (first | refine blk_drewN ?_ _ | refine blk_drew ?_ | refine blk_alloc ?_ _)); exact BK152.out) k_ hk, Kd.freshB (g := gb153) (o := .cells #[.int .u8 3, .int .u8 0, .int .u8 0, .int .u8 0, .int .u8 0, .int .u8 0, .int .u8 0, .int .u8 0] 52 (0, 0)) (by (with_reducible repeat (first | refine blk_drewN ?_ _ | refine blk_drew ?_ | refine blk_alloc ?_ _)); exact BK153.out) k_ hk⟩) _ (Nat.le_refl _)) (Below.refl _ _) (Nat.le_refl _) (by simp) ?_; (case hd => rfl); (case hg => rfl); (case hr => first | (go_simp; done) | (go_simp; rfl)); (case hp => exact (Reps.c3 (show Kd.FK k57 _ _ (⟨0, 0, y184⟩ : S57) [.int .i64 0, .int .i64 0, .slice Ao50 y184.length co50] from (k57_mkF _ _ (⟨0, 0, y184⟩ : S57) (Kd.R_reads' (Kd.R_mono (ok' := (fun k_ => some k_ ≠ (.slice Ao33 y157.length co33 : Value).ownBlock ∧ some k_ ≠ (.slice Ao36 y163.length co36 : Value).ownBlock ∧ some k_ ≠ (.slice Ao34 y169.length co34 : Value).ownBlock ∧ some k_ ≠ (v174 : Value).ownBlock ∧ some k_ ≠ (.slice Ao38 t176.length co38 : Value).ownBlock ∧ k_ ≠ gb151 ∧ k_ ≠ gb152 ∧ k_ ≠ gb153)) (Kd.R_apart' (Kd.R_apart' (Kd.R_apart' (Kd.R_apart' (Kd.R_apart' (HO186.out) (Kd.N_typed HO159.out) (by decide)) (Kd.N_typed HO165.out) (by decide)) (Kd.N_typed HO171.out) (by decide)) (Kd.N_typed HO175.out) (by decide)) (Kd.N_typed HO179.out) (by decide)) (fun k_ hk => ⟨hk.1.1.1.1.2, ⟨hk.1.1.1.2, ⟨hk.1.1.2, ⟨hk.1.2, ⟨hk.2, ⟨hk.1.1.1.1.1.1.1.1.2, ⟨hk.1.1.1.1.1.1.1.2, hk.1.1.1.1.1.1.2⟩⟩⟩⟩⟩⟩⟩))).2.1 (Kd.R_F (Kd.R_mono (ok' := (fun k_ => some k_ ≠ (.slice Ao33 y157.length co33 : Value).ownBlock ∧ some k_ ≠ (.slice Ao36 y163.length co36 : Value).ownBlock ∧ some k_ ≠ (.slice Ao34 y169.length co34 : Value).ownBlock ∧ some k_ ≠ (v174 : Value).ownBlock ∧ some k_ ≠ (.slice Ao38 t176.length co38 : Value).ownBlock ∧ k_ ≠ gb151 ∧ k_ ≠ gb152 ∧ k_ ≠ gb153)) (Kd.R_apart' (Kd.R_apart' (Kd.R_apart' (Kd.R_apart' (Kd.R_apart' (HO186.out) (Kd.N_typed HO159.out) (by decide)) (Kd.N_typed HO165.out) (by decide)) (Kd.N_typed HO171.out) (by decide)) (Kd.N_typed HO175.out) (by decide)) (Kd.N_typed HO179.out) (by decide)) (fun k_ hk => ⟨hk.1.1.1.1.2, ⟨hk.1.1.1.2, ⟨hk.1.1.2, ⟨hk.1.2, ⟨hk.2, ⟨hk.1.1.1.1.1.1.1.1.2, ⟨hk.1.1.1.1.1.1.1.2, hk.1.1.1.1.1.1.2⟩⟩⟩⟩⟩⟩⟩))))) (Reps.c3 (show Kd.FK k57 _ _ (⟨0, 4, y187⟩ : S57) [.int .i64 0, .int .i64 4, .slice Ao54 y187.length co54] from (k57_mkF _ _ (⟨0, 4, y187⟩ : S57) (Kd.R_reads' (Kd.R_mono (ok' := (fun k_ => some k_ ≠ (.slice Ao33 y157.length co33 : Value).ownBlock ∧ some k_ ≠ (.slice Ao36 y163.length co36 : Value).ownBlock ∧ some k_ ≠ (.slice Ao34 y169.length co34 : Value).ownBlock ∧ some k_ ≠ (v174 : Value).ownBlock ∧ some k_ ≠ (.slice Ao38 t176.length co38 : Value).ownBlock ∧ k_ ≠ gb151 ∧ k_ ≠ gb152 ∧ k_ ≠ gb153)) (Kd.R_apart' (Kd.R_apart' (Kd.R_apart' (Kd.R_apart' (Kd.R_apart' (HO189.out) (Kd.N_typed HO159.out) (by decide)) (Kd.N_typed HO165.out) (by decide)) (Kd.N_typed HO171.out) (by decide)) (Kd.N_typed HO175.out) (by decide)) (Kd.N_typed HO179.out) (by decide)) (fun k_ hk => ⟨hk.1.1.1.1.2, ⟨hk.1.1.1.2, ⟨hk.1.1.2, ⟨hk.1.2, ⟨hk.2, ⟨hk.1.1.1.1.1.1.1.2, ⟨hk.1.1.1.1.1.1.2, hk.1.1.1.1.1.2⟩⟩⟩⟩⟩⟩⟩))).2.1 (Kd.R_F (Kd.R_mono (ok' := (fun k_ => some k_ ≠ (.slice Ao33 y157.length co33 : Value).ownBlock ∧ some k_ ≠ (.slice Ao36 y163.length co36 : Value).ownBlock ∧ some k_ ≠ (.slice Ao34 y169.length co34 : Value).ownBlock ∧ some k_ ≠ (v174 : Value).ownBlock ∧ some k_ ≠ (.slice Ao38 t176.length co38 : Value).ownBlock ∧ k_ ≠ gb151 ∧ k_ ≠ gb152 ∧ k_ ≠ gb153)) (Kd.R_apart' (Kd.R_apart' (Kd.R_apart' (Kd.R_apart' (Kd.R_apart' (HO189.out) (Kd.N_typed HO159.out) (by decide)) (Kd.N_typed HO165.out) (by decide)) (Kd.N_typed HO171.out) (by decide)) (Kd.N_typed HO175.out) (by decide)) (Kd.N_typed HO179.out) (by decide)) (fun k_ hk => ⟨hk.1.1.1.1.2, ⟨hk.1.1.1.2, ⟨hk.1.1.2, ⟨hk.1.2, ⟨hk.2, ⟨hk.1.1.1.1.1.1.1.2, ⟨hk.1.1.1.1.1.1.2, hk.1.1.1.1.1.2⟩⟩⟩⟩⟩⟩⟩))))) (Reps.none _ _)))); intro v191 w55 ho56 hb hg_ hnew_; clear hg_ hnew_; (first | rw [← Ny190.out] at ho56 | (simp only [Int.reduceToNat] at ho56; rw [← Ny190.out] at ho56)); have n0_ := Aside0.mk (Kd.N_elder' (by (with_reducible repeat (first | apply Kd.N_alloc | apply Kd.N_drewN | apply Kd.N_drew)); exact HO159.out) (Kd.N_base ho56) hb); have n1_ := Aside0.mk (Kd.N_elder' (by (with_reducible repeat (first | apply Kd.N_alloc | apply Kd.N_drewN | apply Kd.N_drew)); exact HO165.out) (Kd.N_base ho56) hb); have n2_ := Aside0.mk (Kd.N_elder' (by (with_reducible repeat (first | apply Kd.N_alloc | apply Kd.N_drewN | apply Kd.N_drew)); exact HO171.out) (Kd.N_base ho56) hb); have n3_ := Aside0.mk (Kd.N_elder' (by (with_reducible repeat (first | apply Kd.N_alloc | apply Kd.N_drewN | apply Kd.N_drew)); exact HO175.out) (Kd.N_base ho56) hb); have n4_ := Aside0.mk (Kd.N_elder' (by (with_reducible repeat (first | apply Kd.N_alloc | apply Kd.N_drewN | apply Kd.N_drew)); exact HO179.out) (Kd.N_base ho56) hb); have n5_ := Aside0.mk (Kd.N_lower ho56 (below_size (by repeat (first | (with_reducible first | exact HB.out | apply below_alloc | apply pw_below_drewN | apply below_drew1 | refine below_set ?_ GE151.out | refine below_set ?_ GE152.out | refine below_set ?_ GE153.out) | exact HB.out)))); have n6_ := Aside0.mk (blk_below (g := gb151) (o := .cells #[.int .u8 1, .int .u8 0, .int .u8 0, .int .u8 0, .int .u8 0, .int .u8 0, .int .u8 0, .int .u8 0] 52 (0, 0)) (by (with_reducible repeat (first | refine blk_drewN ?_ _ | refine blk_drew ?_ | refine blk_alloc ?_ _)); exact BK151.out) hb); have n7_ := Aside0.mk (blk_below (g := gb152) (o := .cells #[.int .u8 2, .int .u8 0, .int .u8 0, .int .u8 0, .int .u8 0, .int .u8 0, .int .u8 0, .int .u8 0] 52 (0, 0)) (by (with_reducible repeat (first | refine blk_drewN ?_ _ | refine blk_drew ?_ | refine blk_alloc ?_ _)); exact BK152.out) hb); have n8_ := Aside0.mk (blk_below (g := gb153) (o := .cells #[.int .u8 3, .int .u8 0, .int .u8 0, .int .u8 0, .int .u8 0, .int .u8 0, .int .u8 0, .int .u8 0] 52 (0, 0)) (by (with_reducible repeat (first | refine blk_drewN ?_ _ | refine blk_drew ?_ | refine blk_alloc ?_ _)); exact BK153.out) hb); have n9_ := Aside0.mk (below_step (by repeat (first | (with_reducible first | exact HB.out | apply below_alloc | apply pw_below_drewN | apply below_drew1 | refine below_set ?_ GE151.out | refine below_set ?_ GE152.out | refine below_set ?_ GE153.out) | exact HB.out)) hb); clear HO159; clear HO165; clear HO171; clear HO175; clear HO179; clear BK151; clear BK152; clear BK153; clear HB; clear HO186; clear HO189; have HO159 := n0_; have HO165 := n1_; have HO171 := n2_; have HO175 := n3_; have HO179 := n4_; have HO192 := n5_; have BK151 := n6_; have BK152 := n7_; have BK153 := n8_; have HB := n9_; clear n0_ n1_ n2_ n3_ n4_ n5_ n6_ n7_ n8_ n9_; clear hb ho56; obtain ⟨Ao57, co57, eo57⟩ := Kd.N_slice HO175.out; subst eo57; obtain ⟨Ao58, co58, eo58⟩ := Kd.N_slice HO192.out; subst eo58) | (go_at_call 21; (with_reducible refine (standbyref22_Same.calls k _ _ t172 _ _ y190 t193 _ ?side1 ?side2 ?side3 ?side4 A42.out).mono ?_); (case side1 => repeat (first | exact (Kd.N_reads' HO175.out).2.2 | (with_reducible refine Kd.C_alloc ?_ _) | (with_reducible refine Kd.C_drewN ?_ _) | (with_reducible refine Kd.C_drew ?_))); (case side2 => exact (Kd.N_reads' HO175.out).2.1); (case side3 => repeat (first | exact (Kd.N_reads' HO192.out).2.2 | (with_reducible refine Kd.C_alloc ?_ _) | (with_reducible refine Kd.C_drewN ?_ _) | (with_reducible refine Kd.C_drew ?_))); (case side4 => exact (Kd.N_reads' HO192.out).2.1); rintro e w59 ⟨rfl, hb⟩; have n0_ := Aside0.mk (Kd.N_below (by (with_reducible repeat (first | apply Kd.N_alloc | apply Kd.N_drewN | apply Kd.N_drew)); exact HO159.out) hb); have n1_ := Aside0.mk (Kd.N_below (by (with_reducible repeat (first | apply Kd.N_alloc | apply Kd.N_drewN | apply Kd.N_drew)); exact HO165.out) hb); have n2_ := Aside0.mk (Kd.N_below (by (with_reducible repeat (first | apply Kd.N_alloc | apply Kd.N_drewN | apply Kd.N_drew)); exact HO171.out) hb); have n3_ := Aside0.mk (Kd.N_below (by (with_reducible repeat (first | apply Kd.N_alloc | apply Kd.N_drewN | apply Kd.N_drew)); exact HO175.out) hb); have n4_ := Aside0.mk (Kd.N_below (by (with_reducible repeat (first | apply Kd.N_alloc | apply Kd.N_drewN | apply Kd.N_drew)); exact HO179.out) hb); have n5_ := Aside0.mk (Kd.N_below (by (with_reducible repeat (first | apply Kd.N_alloc | apply Kd.N_drewN | apply Kd.N_drew)); exact HO192.out) hb); have n6_ := Aside0.mk (blk_below (g := gb151) (o := .cells #[.int .u8 1, .int .u8 0, .int .u8 0, .int .u8 0, .int .u8 0, .int .u8 0, .int .u8 0, .int .u8 0] 52 (0, 0)) (by (with_reducible repeat (first | refine blk_drewN ?_ _ | refine blk_drew ?_ | refine blk_alloc ?_ _)); exact BK151.out) hb); have n7_ := Aside0.mk (blk_below (g := gb152) (o := .cells #[.int .u8 2, .int .u8 0, .int .u8 0, .int .u8 0, .int .u8 0, .int .u8 0, .int .u8 0, .int .u8 0] 52 (0, 0)) (by (with_reducible repeat (first | refine blk_drewN ?_ _ | refine blk_drew ?_ | refine blk_alloc ?_ _)); exact BK152.out) hb); have n8_ := Aside0.mk (blk_below (g := gb153) (o := .cells #[.int .u8 3, .int .u8 0, .int .u8 0, .int .u8 0, .int .u8 0, .int .u8 0, .int .u8 0, .int .u8 0] 52 (0, 0)) (by (with_reducible repeat (first | refine blk_drewN ?_ _ | refine blk_drew ?_ | refine blk_alloc ?_ _)); exact BK153.out) hb); have n9_ := Aside0.mk (below_step (by repeat (first | (with_reducible first | exact HB.out | apply below_alloc | apply pw_below_drewN | apply below_drew1 | refine below_set ?_ GE151.out | refine below_set ?_ GE152.out | refine below_set ?_ GE153.out) | exact HB.out)) hb); clear HO159; clear HO165; clear HO171; clear HO175; clear HO179; clear HO192; clear BK151; clear BK152; clear BK153; clear HB; have HO159 := n0_; have HO165 := n1_; have HO171 := n2_; have HO175 := n3_; have HO179 := n4_; have HO192 := n5_; have BK151 := n6_; have BK152 := n7_; have BK153 := n8_; have HB := n9_; clear n0_ n1_ n2_ n3_ n4_ n5_ n6_ n7_ n8_ n9_; (try clear hb); (try clear hb2); (try clear hk); (try clear hi)))
      go_meet
      case rel => exact ⟨_, (!t193), (by first | rfl | (simp; done) | (simp [*]; done)), H', ⟨by first | omega | exact Nat.le_refl _⟩, ⟨by (with_reducible repeat (first | apply Kd.N_alloc | apply Kd.N_drewN | apply Kd.N_drew)); exact Kd.N_mono HO171.out (fun _ hk => ⟨hk.1.1.1.2, ⟨hk.1.1.1.1.1.2.2.1, ⟨hk.1.1.1.1.1.2.2.2.1, hk.1.1.1.1.1.2.2.2.2⟩⟩⟩)⟩, ⟨by (with_reducible repeat (first | apply Kd.N_alloc | apply Kd.N_drewN | apply Kd.N_drew)); exact Kd.N_mono HO179.out (fun _ hk => ⟨hk.1.1.1.2.2.1, ⟨hk.1.1.1.2.2.2.2.1, ⟨hk.1.1.1.2.2.2.2.2.1, hk.1.1.1.2.2.2.2.2.2⟩⟩⟩)⟩, ⟨by (with_reducible repeat (first | refine blk_drewN ?_ _ | refine blk_drew ?_ | refine blk_alloc ?_ _)); exact BK151.out⟩, ⟨by (with_reducible repeat (first | refine blk_drewN ?_ _ | refine blk_drew ?_ | refine blk_alloc ?_ _)); exact BK152.out⟩, ⟨by (with_reducible repeat (first | refine blk_drewN ?_ _ | refine blk_drew ?_ | refine blk_alloc ?_ _)); exact BK153.out⟩, ⟨by repeat (first | (with_reducible first | exact HB.out | apply below_alloc | apply pw_below_drewN | apply below_drew1 | refine below_set ?_ GE151.out | refine below_set ?_ GE152.out | refine below_set ?_ GE153.out) | exact HB.out)⟩⟩
    · rw [if_neg c41] at H
      have c41b0 : ((wrap64 ((wrap64 ((wrap64 (t173 + t177)) + t181)) + t183)) == 0) = false := beq_eq_false_iff_ne.mpr c41
      have c41b1 : ((wrap64 ((wrap64 ((wrap64 (t173 + t177)) + t181)) + t183)) != 0) = true := bne_iff_ne.mpr c41
      (first | rw [c41b0] | (simp only [i64_w, i32_w]; rw [c41b0]) | skip)
      have H' := Aside0.mk H
      clear H
      go_wp2
      go_meet
      case rel => exact ⟨_, (true), (by first | rfl | (simp; done) | (simp [*]; done)), H', ⟨by first | omega | exact Nat.le_refl _⟩, ⟨by (with_reducible repeat (first | apply Kd.N_alloc | apply Kd.N_drewN | apply Kd.N_drew)); exact Kd.N_mono HO171.out (fun _ hk => ⟨hk.2, ⟨hk.1.1.2.2.1, ⟨hk.1.1.2.2.2.1, hk.1.1.2.2.2.2⟩⟩⟩)⟩, ⟨by (with_reducible repeat (first | apply Kd.N_alloc | apply Kd.N_drewN | apply Kd.N_drew)); exact Kd.N_mono HO179.out (fun _ hk => ⟨hk.2.2.1, ⟨hk.2.2.2.2.1, ⟨hk.2.2.2.2.2.1, hk.2.2.2.2.2.2⟩⟩⟩)⟩, ⟨by (with_reducible repeat (first | refine blk_drewN ?_ _ | refine blk_drew ?_ | refine blk_alloc ?_ _)); exact BK151.out⟩, ⟨by (with_reducible repeat (first | refine blk_drewN ?_ _ | refine blk_drew ?_ | refine blk_alloc ?_ _)); exact BK152.out⟩, ⟨by (with_reducible repeat (first | refine blk_drewN ?_ _ | refine blk_drew ?_ | refine blk_alloc ?_ _)); exact BK153.out⟩, ⟨by repeat (first | (with_reducible first | exact HB.out | apply below_alloc | apply pw_below_drewN | apply below_drew1 | refine below_set ?_ GE151.out | refine below_set ?_ GE152.out | refine below_set ?_ GE153.out) | exact HB.out)⟩⟩
  case rest =>
    clear HC5
    try clear c1
    try clear c2
    try clear p2
    try clear c3
    try clear c4
    try clear c5
    try clear c6
    try clear p6
    try clear c7
    try clear c8
    try clear c9
    try clear c10
    try clear c11
    try clear c12
    try clear c16
    try clear c41
    try clear c41b0
    try clear c41b1
    try clear c43
    try clear c44
    try clear c46
    try clear hcz11_0
    try clear hcz11_1
    try clear hcz11_2
    try clear hcz11_3
    try clear hcz11_4
    try clear hcz11_5
    try clear hcz11_6
    try clear hcz11_7
    try clear hcz13_0
    try clear hcz13_1
    try clear hcz13_2
    try clear hcz13_3
    try clear hcz13_4
    try clear hcz13_5
    try clear hcz13_6
    try clear hcz13_7
    try clear hcz14_0
    try clear hcz14_1
    try clear hcz14_2
    try clear hcz14_3
    try clear hcz14_4
    try clear hcz14_5
    try clear hcz14_6
    try clear hcz14_7
    try clear hcz45_0
    try clear hcz45_1
    try clear hcz45_2
    try clear hcz45_3
    try clear hcz45_4
    try clear hcz45_5
    try clear hcz45_6
    try clear hcz45_7
    try clear hcz47_0
    try clear hcz47_1
    try clear hcz47_2
    try clear hcz47_3
    try clear hcz47_4
    try clear hcz47_5
    try clear hcz47_6
    try clear hcz47_7
    try clear hcz51_0
    try clear hcz51_1
    try clear hcz51_2
    try clear hcz51_3
    try clear hcz51_4
    try clear hcz51_5
    try clear hcz51_6
    try clear hcz51_7
    try clear hfz11_0
    try clear hfz11_1
    try clear hfz11_2
    try clear hfz11_3
    try clear hfz11_4
    try clear hfz11_5
    try clear hfz11_6
    try clear hfz11_7
    try clear hfz13_0
    try clear hfz13_1
    try clear hfz13_2
    try clear hfz13_3
    try clear hfz13_4
    try clear hfz13_5
    try clear hfz13_6
    try clear hfz13_7
    try clear hfz14_0
    try clear hfz14_1
    try clear hfz14_2
    try clear hfz14_3
    try clear hfz14_4
    try clear hfz14_5
    try clear hfz14_6
    try clear hfz14_7
    try clear hfz45_0
    try clear hfz45_1
    try clear hfz45_2
    try clear hfz45_3
    try clear hfz45_4
    try clear hfz45_5
    try clear hfz45_6
    try clear hfz45_7
    try clear hfz47_0
    try clear hfz47_1
    try clear hfz47_2
    try clear hfz47_3
    try clear hfz47_4
    try clear hfz47_5
    try clear hfz47_6
    try clear hfz47_7
    try clear hfz51_0
    try clear hfz51_1
    try clear hfz51_2
    try clear hfz51_3
    try clear hfz51_4
    try clear hfz51_5
    try clear hfz51_6
    try clear hfz51_7
    obtain ⟨kq, x83_4, rfl, HA, HJ4, HO_6, HO_9, BK151, BK152, BK153, HB⟩ := hcut
    cases kq with
    | zero => exact absurd HA.out (by simp [standbylaw45_awake.j0])
    | succ kj4 =>
      have H := HA.out
      clear HA
      simp only [standbylaw45_awake.j0] at H
      by_cases c60 : x83_4 = true
      · subst c60
        have H1 : (some false) = some r := by rw [if_pos rfl] at H; exact H
        clear H
        have H := H1
        clear H1
        obtain rfl := Option.some.inj H
        go_wp2
        go_ret
        exact ⟨by first | rfl | (simp [errW_none, errW_some] <;> rfl) | (simp [*, errW_none, errW_some] <;> rfl), by repeat (first | (with_reducible first | exact HB.out | apply below_alloc | apply pw_below_drewN | apply below_drew1 | refine below_set ?_ GE151.out | refine below_set ?_ GE152.out | refine below_set ?_ GE153.out) | exact HB.out)⟩
      · replace c60 := Bool.eq_false_iff.mpr c60
        subst c60
        have H1 : ((standbyref36_SameExtents.f kj4 t176 (([(([(⟨0, 1⟩ : S54), (⟨4, 1⟩ : S54)] : List (S54)))] : List (List (S54))))).bind fun t200 => (if t200 = true then (if t180 = true then (if t182 = true then (some false) else ((resync_Cost.f y169).bind fun t201 => (if t201 = 3 then ((resync_Cost.f t176).bind fun t202 => (some (t202 == 2))) else (some false)))) else (some false)) else (some false))) = some r := by rw [if_neg (show ¬ (false = true) by decide)] at H; exact H
        clear H
        have H := H1
        clear H1
        obtain ⟨y194, hy194⟩ : ∃ y_ : List (S54), y_ = (([(⟨0, 1⟩ : S54), (⟨4, 1⟩ : S54)] : List (S54))) := ⟨_, rfl⟩
        replace H : ((standbyref36_SameExtents.f kj4 t176 (([y194] : List (List (S54))))).bind fun t200 => (if t200 = true then (if t180 = true then (if t182 = true then (some false) else ((resync_Cost.f y169).bind fun t201 => (if t201 = 3 then ((resync_Cost.f t176).bind fun t202 => (some (t202 == 2))) else (some false)))) else (some false)) else (some false))) = some r := by first | (rw [hy194]; with_reducible exact H) | (have H2_ := (Option.bind_some _ _).symm.trans H; rw [hy194]; with_reducible exact H2_) | (have H2_ := (Option.bind_some _ _).symm.trans H; with_reducible exact H2_) | with_reducible exact H | (rw [hy194]; exact H) | exact H
        have Ny194 := Aside0.mk hy194
        clear hy194
        obtain ⟨y197, hy197⟩ : ∃ y_ : List (List (S54)), y_ = (([y194] : List (List (S54)))) := ⟨_, rfl⟩
        replace H : ((standbyref36_SameExtents.f kj4 t176 y197).bind fun t200 => (if t200 = true then (if t180 = true then (if t182 = true then (some false) else ((resync_Cost.f y169).bind fun t201 => (if t201 = 3 then ((resync_Cost.f t176).bind fun t202 => (some (t202 == 2))) else (some false)))) else (some false)) else (some false))) = some r := by first | (rw [hy197]; with_reducible exact H) | (have H2_ := (Option.bind_some _ _).symm.trans H; rw [hy197]; with_reducible exact H2_) | (have H2_ := (Option.bind_some _ _).symm.trans H; with_reducible exact H2_) | with_reducible exact H | (rw [hy197]; exact H) | exact H
        have Ny197 := Aside0.mk hy197
        clear hy197
        replace H := Option.bind_eq_some_iff.mp H
        obtain ⟨t200, A610, H⟩ := H
        replace H : (if t200 = true then (if t180 = true then (if t182 = true then (some false) else ((resync_Cost.f y169).bind fun t201 => (if t201 = 3 then ((resync_Cost.f t176).bind fun t202 => (some (t202 == 2))) else (some false)))) else (some false)) else (some false)) = some r := H
        have A61 := Aside0.mk A610
        clear A610
        by_cases c62 : t200 = true
        · subst c62
          have H1 : (if t180 = true then (if t182 = true then (some false) else ((resync_Cost.f y169).bind fun t201 => (if t201 = 3 then ((resync_Cost.f t176).bind fun t202 => (some (t202 == 2))) else (some false)))) else (some false)) = some r := by rw [if_pos rfl] at H; exact H
          clear H
          have H := H1
          clear H1
          by_cases c63 : t180 = true
          · subst c63
            have H1 : (if t182 = true then (some false) else ((resync_Cost.f y169).bind fun t201 => (if t201 = 3 then ((resync_Cost.f t176).bind fun t202 => (some (t202 == 2))) else (some false)))) = some r := by rw [if_pos rfl] at H; exact H
            clear H
            have H := H1
            clear H1
            by_cases c64 : t182 = true
            · subst c64
              have H1 : (some false) = some r := by rw [if_pos rfl] at H; exact H
              clear H
              have H := H1
              clear H1
              obtain rfl := Option.some.inj H
              go_wp2_with (first | ((with_reducible refine gate_dst (N := 87) rfl ?_); (try (refine gate_guard (by rfl) ?_; dsimp only)); refine Kd.R_lit k54 _ 54 ?hg (N := 87) ?hd (xs := ([(⟨0, 1⟩ : S54), (⟨4, 1⟩ : S54)] : List (S54))) (inner := [.int .i64 0, .int .i64 1, .int .i64 4, .int .i64 1]) (ok := fun _ => True) (okp := fun _ => True) ?hr ?hp (fun _ hk => hk) trivial (Below.refl _ _) (Nat.le_refl _) (by simp) ?_; (case hd => rfl); (case hg => rfl); (case hr => first | (go_simp; done) | (go_simp; rfl)); (case hp => exact (Reps.c2 (show Kd.M k54 _ _ _ (⟨0, 1⟩ : S54) [.int .i64 0, .int .i64 1] from (k54_mkM _ _ _ (⟨0, 1⟩ : S54) )) (Reps.c2 (show Kd.M k54 _ _ _ (⟨4, 1⟩ : S54) [.int .i64 4, .int .i64 1] from (k54_mkM _ _ _ (⟨4, 1⟩ : S54) )) (Reps.none _ _)))); intro v195 w65 ho66 hb hg_ hnew_; clear hg_ hnew_; (first | rw [← Ny194.out] at ho66 | (simp only [Int.reduceToNat] at ho66; rw [← Ny194.out] at ho66)); have n0_ := Aside0.mk (Kd.N_elder' (by (with_reducible repeat (first | apply Kd.N_alloc | apply Kd.N_drewN | apply Kd.N_drew)); exact HO_6.out) (Kd.R_base ho66) hb); have n1_ := Aside0.mk (Kd.N_elder' (by (with_reducible repeat (first | apply Kd.N_alloc | apply Kd.N_drewN | apply Kd.N_drew)); exact HO_9.out) (Kd.R_base ho66) hb); have n2_ := Aside0.mk (Kd.R_lower ho66 (below_size (by repeat (first | (with_reducible first | exact HB.out | apply below_alloc | apply pw_below_drewN | apply below_drew1 | refine below_set ?_ GE151.out | refine below_set ?_ GE152.out | refine below_set ?_ GE153.out) | exact HB.out)))); have n3_ := Aside0.mk (blk_below (g := gb151) (o := .cells #[.int .u8 1, .int .u8 0, .int .u8 0, .int .u8 0, .int .u8 0, .int .u8 0, .int .u8 0, .int .u8 0] 52 (0, 0)) (by (with_reducible repeat (first | refine blk_drewN ?_ _ | refine blk_drew ?_ | refine blk_alloc ?_ _)); exact BK151.out) hb); have n4_ := Aside0.mk (blk_below (g := gb152) (o := .cells #[.int .u8 2, .int .u8 0, .int .u8 0, .int .u8 0, .int .u8 0, .int .u8 0, .int .u8 0, .int .u8 0] 52 (0, 0)) (by (with_reducible repeat (first | refine blk_drewN ?_ _ | refine blk_drew ?_ | refine blk_alloc ?_ _)); exact BK152.out) hb); have n5_ := Aside0.mk (blk_below (g := gb153) (o := .cells #[.int .u8 3, .int .u8 0, .int .u8 0, .int .u8 0, .int .u8 0, .int .u8 0, .int .u8 0, .int .u8 0] 52 (0, 0)) (by (with_reducible repeat (first | refine blk_drewN ?_ _ | refine blk_drew ?_ | refine blk_alloc ?_ _)); exact BK153.out) hb); have n6_ := Aside0.mk (below_step (by repeat (first | (with_reducible first | exact HB.out | apply below_alloc | apply pw_below_drewN | apply below_drew1 | refine below_set ?_ GE151.out | refine below_set ?_ GE152.out | refine below_set ?_ GE153.out) | exact HB.out)) hb); clear HO_6; clear HO_9; clear BK151; clear BK152; clear BK153; clear HB; have HO_6 := n0_; have HO_9 := n1_; have HO196 := n2_; have BK151 := n3_; have BK152 := n4_; have BK153 := n5_; have HB := n6_; clear n0_ n1_ n2_ n3_ n4_ n5_ n6_; clear hb ho66; obtain ⟨Ao67, co67, eo67⟩ := Kd.R_slice HO196.out; subst eo67) | ((with_reducible refine gate_dst (N := 88) rfl ?_); (try (refine gate_guard (by rfl) ?_; dsimp only)); refine Kd.N_lit (Kd.slice 54 k54) _ 50 ?hg (N' := 88) ?hd (xs := ([y194] : List (List (S54)))) (inner := [.slice Ao67 y194.length co67]) (ok := (fun k_ => some k_ ≠ (.slice Ao34 y169.length co34 : Value).ownBlock ∧ some k_ ≠ (.slice Ao38 t176.length co38 : Value).ownBlock ∧ k_ ≠ gb151 ∧ k_ ≠ gb152 ∧ k_ ≠ gb153)) (okp := (fun k_ => some k_ ≠ (.slice Ao34 y169.length co34 : Value).ownBlock ∧ some k_ ≠ (.slice Ao38 t176.length co38 : Value).ownBlock ∧ k_ ≠ gb151 ∧ k_ ≠ gb152 ∧ k_ ≠ gb153)) ?hr ?hp (fun _ hk => hk) ((show ∀ k_, w65.heap.size ≤ k_ → (fun k_ => some k_ ≠ (.slice Ao34 y169.length co34 : Value).ownBlock ∧ some k_ ≠ (.slice Ao38 t176.length co38 : Value).ownBlock ∧ k_ ≠ gb151 ∧ k_ ≠ gb152 ∧ k_ ≠ gb153) k_ from fun k_ hk => ⟨Kd.fresh' (Kd.N_lt (by (with_reducible repeat (first | apply Kd.N_alloc | apply Kd.N_drewN | apply Kd.N_drew)); exact HO_6.out)) k_ hk, Kd.fresh' (Kd.N_lt (by (with_reducible repeat (first | apply Kd.N_alloc | apply Kd.N_drewN | apply Kd.N_drew)); exact HO_9.out)) k_ hk, Kd.freshB (g := gb151) (o := .cells #[.int .u8 1, .int .u8 0, .int .u8 0, .int .u8 0, .int .u8 0, .int .u8 0, .int .u8 0, .int .u8 0] 52 (0, 0)) (by (with_reducible repeat (first | refine blk_drewN ?_ _ | refine blk_drew ?_ | refine blk_alloc ?_ _)); exact BK151.out) k_ hk, Kd.freshB (g := gb152) (o := .cells #[.int .u8 2, .int .u8 0, .int .u8 0, .int .u8 0, .int .u8 0, .int .u8 0, .int .u8 0, .int .u8 0] 52 (0, 0)) (by (with_reducible repeat (first | refine blk_drewN ?_ _ | refine blk_drew ?_ | refine blk_alloc ?_ _)); exact BK152.out) k_ hk, Kd.freshB (g := gb153) (o := .cells #[.int .u8 3, .int .u8 0, .int .u8 0, .int .u8 0, .int .u8 0, .int .u8 0, .int .u8 0, .int .u8 0] 52 (0, 0)) (by (with_reducible repeat (first | refine blk_drewN ?_ _ | refine blk_drew ?_ | refine blk_alloc ?_ _)); exact BK153.out) k_ hk⟩) _ (Nat.le_refl _)) (Below.refl _ _) (Nat.le_refl _) (by simp) ?_; (case hd => rfl); (case hg => rfl); (case hr => first | (go_simp; done) | (go_simp; rfl)); (case hp => exact (Reps.one (show Kd.FK (Kd.slice 54 k54) _ _ y194 [.slice Ao67 y194.length co67] from (Kd.FK_slice_mk (Kd.R_reads' (Kd.R_mono (ok' := (fun k_ => some k_ ≠ (.slice Ao34 y169.length co34 : Value).ownBlock ∧ some k_ ≠ (.slice Ao38 t176.length co38 : Value).ownBlock ∧ k_ ≠ gb151 ∧ k_ ≠ gb152 ∧ k_ ≠ gb153)) (Kd.R_types (Kd.R_types (Kd.R_types (Kd.R_apart' (Kd.R_apart' (HO196.out) (Kd.N_typed HO_6.out) (by decide)) (Kd.N_typed HO_9.out) (by decide)) BK151.out (by decide)) BK152.out (by decide)) BK153.out (by decide)) (fun k_ hk => ⟨hk.1.1.1.1.2, ⟨hk.1.1.1.2, ⟨hk.1.1.2, ⟨hk.1.2, hk.2⟩⟩⟩⟩))).2.1 (Kd.R_F (Kd.R_mono (ok' := (fun k_ => some k_ ≠ (.slice Ao34 y169.length co34 : Value).ownBlock ∧ some k_ ≠ (.slice Ao38 t176.length co38 : Value).ownBlock ∧ k_ ≠ gb151 ∧ k_ ≠ gb152 ∧ k_ ≠ gb153)) (Kd.R_types (Kd.R_types (Kd.R_types (Kd.R_apart' (Kd.R_apart' (HO196.out) (Kd.N_typed HO_6.out) (by decide)) (Kd.N_typed HO_9.out) (by decide)) BK151.out (by decide)) BK152.out (by decide)) BK153.out (by decide)) (fun k_ hk => ⟨hk.1.1.1.1.2, ⟨hk.1.1.1.2, ⟨hk.1.1.2, ⟨hk.1.2, hk.2⟩⟩⟩⟩))))) (Reps.none _ _))); intro v198 w68 ho69 hb hg_ hnew_; clear hg_ hnew_; (first | rw [← Ny197.out] at ho69 | (simp only [Int.reduceToNat] at ho69; rw [← Ny197.out] at ho69)); have n0_ := Aside0.mk (Kd.N_elder' (by (with_reducible repeat (first | apply Kd.N_alloc | apply Kd.N_drewN | apply Kd.N_drew)); exact HO_6.out) (Kd.N_base ho69) hb); have n1_ := Aside0.mk (Kd.N_elder' (by (with_reducible repeat (first | apply Kd.N_alloc | apply Kd.N_drewN | apply Kd.N_drew)); exact HO_9.out) (Kd.N_base ho69) hb); have n2_ := Aside0.mk (Kd.N_lower ho69 (below_size (by repeat (first | (with_reducible first | exact HB.out | apply below_alloc | apply pw_below_drewN | apply below_drew1 | refine below_set ?_ GE151.out | refine below_set ?_ GE152.out | refine below_set ?_ GE153.out) | exact HB.out)))); have n3_ := Aside0.mk (blk_below (g := gb151) (o := .cells #[.int .u8 1, .int .u8 0, .int .u8 0, .int .u8 0, .int .u8 0, .int .u8 0, .int .u8 0, .int .u8 0] 52 (0, 0)) (by (with_reducible repeat (first | refine blk_drewN ?_ _ | refine blk_drew ?_ | refine blk_alloc ?_ _)); exact BK151.out) hb); have n4_ := Aside0.mk (blk_below (g := gb152) (o := .cells #[.int .u8 2, .int .u8 0, .int .u8 0, .int .u8 0, .int .u8 0, .int .u8 0, .int .u8 0, .int .u8 0] 52 (0, 0)) (by (with_reducible repeat (first | refine blk_drewN ?_ _ | refine blk_drew ?_ | refine blk_alloc ?_ _)); exact BK152.out) hb); have n5_ := Aside0.mk (blk_below (g := gb153) (o := .cells #[.int .u8 3, .int .u8 0, .int .u8 0, .int .u8 0, .int .u8 0, .int .u8 0, .int .u8 0, .int .u8 0] 52 (0, 0)) (by (with_reducible repeat (first | refine blk_drewN ?_ _ | refine blk_drew ?_ | refine blk_alloc ?_ _)); exact BK153.out) hb); have n6_ := Aside0.mk (below_step (by repeat (first | (with_reducible first | exact HB.out | apply below_alloc | apply pw_below_drewN | apply below_drew1 | refine below_set ?_ GE151.out | refine below_set ?_ GE152.out | refine below_set ?_ GE153.out) | exact HB.out)) hb); clear HO_6; clear HO_9; clear BK151; clear BK152; clear BK153; clear HB; clear HO196; have HO_6 := n0_; have HO_9 := n1_; have HO199 := n2_; have BK151 := n3_; have BK152 := n4_; have BK153 := n5_; have HB := n6_; clear n0_ n1_ n2_ n3_ n4_ n5_ n6_; clear hb ho69; obtain ⟨Ao70, co70, eo70⟩ := Kd.N_slice HO199.out; subst eo70) | ((with_reducible refine gate_callee (f := 13) rfl ?_); refine goesL_ (some 89) rfl rfl Try.func13 (by kernel_rfl) rfl #[.slice Ao38 t176.length co38, .slice Ao70 y197.length co70] rfl (by (try simp only [List.map_toArray, List.map_cons, List.map_nil]); first | done | rfl | (simp only [List.length_drop, List.length_take]; rfl)) ?_; (with_reducible refine (standbyref36_SameExtents.calls kj4 _ _ t176 _ _ y197 true _ ?side1 ?side2 ?side3 ?side4 A61.out).mono ?_); (case side1 => repeat (first | exact (Kd.N_reads' HO_9.out).2.2 | (with_reducible refine Kd.C_alloc ?_ _) | (with_reducible refine Kd.C_drewN ?_ _) | (with_reducible refine Kd.C_drew ?_))); (case side2 => exact (Kd.N_reads' HO_9.out).2.1); (case side3 => repeat (first | exact (Kd.N_reads' HO199.out).2.2 | (with_reducible refine Kd.C_alloc ?_ _) | (with_reducible refine Kd.C_drewN ?_ _) | (with_reducible refine Kd.C_drew ?_))); (case side4 => exact (Kd.N_reads' HO199.out).2.1); rintro e w' ⟨rfl, ⟨nd, rfl⟩⟩; refine ⟨_, rfl, ?_⟩))
              go_ret
              exact ⟨by first | rfl | (simp [errW_none, errW_some] <;> rfl) | (simp [*, errW_none, errW_some] <;> rfl), by repeat (first | (with_reducible first | exact HB.out | apply below_alloc | apply pw_below_drewN | apply below_drew1 | refine below_set ?_ GE151.out | refine below_set ?_ GE152.out | refine below_set ?_ GE153.out) | exact HB.out)⟩
            · replace c64 := Bool.eq_false_iff.mpr c64
              subst c64
              have H1 : ((resync_Cost.f y169).bind fun t201 => (if t201 = 3 then ((resync_Cost.f t176).bind fun t202 => (some (t202 == 2))) else (some false))) = some r := by rw [if_neg (show ¬ (false = true) by decide)] at H; exact H
              clear H
              have H := H1
              clear H1
              replace H := Option.bind_eq_some_iff.mp H
              obtain ⟨t201, A710, H⟩ := H
              replace H : (if t201 = 3 then ((resync_Cost.f t176).bind fun t202 => (some (t202 == 2))) else (some false)) = some r := H
              have A71 := Aside0.mk A710
              clear A710
              by_cases c72 : t201 = 3
              · rw [if_pos c72] at H
                have c72b0 : (t201 == 3) = true := beq_iff_eq.mpr c72
                have c72b1 : (t201 != 3) = false := bne_eq_false_iff_eq.mpr c72
                clear c72
                replace H := Option.bind_eq_some_iff.mp H
                obtain ⟨t202, A730, H⟩ := H
                replace H : (some (t202 == 2)) = some r := H
                have A73 := Aside0.mk A730
                clear A730
                obtain rfl := Option.some.inj H
                go_wp2_with (first | ((with_reducible refine gate_dst (N := 87) rfl ?_); (try (refine gate_guard (by rfl) ?_; dsimp only)); refine Kd.R_lit k54 _ 54 ?hg (N := 87) ?hd (xs := ([(⟨0, 1⟩ : S54), (⟨4, 1⟩ : S54)] : List (S54))) (inner := [.int .i64 0, .int .i64 1, .int .i64 4, .int .i64 1]) (ok := fun _ => True) (okp := fun _ => True) ?hr ?hp (fun _ hk => hk) trivial (Below.refl _ _) (Nat.le_refl _) (by simp) ?_; (case hd => rfl); (case hg => rfl); (case hr => first | (go_simp; done) | (go_simp; rfl)); (case hp => exact (Reps.c2 (show Kd.M k54 _ _ _ (⟨0, 1⟩ : S54) [.int .i64 0, .int .i64 1] from (k54_mkM _ _ _ (⟨0, 1⟩ : S54) )) (Reps.c2 (show Kd.M k54 _ _ _ (⟨4, 1⟩ : S54) [.int .i64 4, .int .i64 1] from (k54_mkM _ _ _ (⟨4, 1⟩ : S54) )) (Reps.none _ _)))); intro v195 w74 ho75 hb hg_ hnew_; clear hg_ hnew_; (first | rw [← Ny194.out] at ho75 | (simp only [Int.reduceToNat] at ho75; rw [← Ny194.out] at ho75)); have n0_ := Aside0.mk (Kd.N_elder' (by (with_reducible repeat (first | apply Kd.N_alloc | apply Kd.N_drewN | apply Kd.N_drew)); exact HO_6.out) (Kd.R_base ho75) hb); have n1_ := Aside0.mk (Kd.N_elder' (by (with_reducible repeat (first | apply Kd.N_alloc | apply Kd.N_drewN | apply Kd.N_drew)); exact HO_9.out) (Kd.R_base ho75) hb); have n2_ := Aside0.mk (Kd.R_lower ho75 (below_size (by repeat (first | (with_reducible first | exact HB.out | apply below_alloc | apply pw_below_drewN | apply below_drew1 | refine below_set ?_ GE151.out | refine below_set ?_ GE152.out | refine below_set ?_ GE153.out) | exact HB.out)))); have n3_ := Aside0.mk (blk_below (g := gb151) (o := .cells #[.int .u8 1, .int .u8 0, .int .u8 0, .int .u8 0, .int .u8 0, .int .u8 0, .int .u8 0, .int .u8 0] 52 (0, 0)) (by (with_reducible repeat (first | refine blk_drewN ?_ _ | refine blk_drew ?_ | refine blk_alloc ?_ _)); exact BK151.out) hb); have n4_ := Aside0.mk (blk_below (g := gb152) (o := .cells #[.int .u8 2, .int .u8 0, .int .u8 0, .int .u8 0, .int .u8 0, .int .u8 0, .int .u8 0, .int .u8 0] 52 (0, 0)) (by (with_reducible repeat (first | refine blk_drewN ?_ _ | refine blk_drew ?_ | refine blk_alloc ?_ _)); exact BK152.out) hb); have n5_ := Aside0.mk (blk_below (g := gb153) (o := .cells #[.int .u8 3, .int .u8 0, .int .u8 0, .int .u8 0, .int .u8 0, .int .u8 0, .int .u8 0, .int .u8 0] 52 (0, 0)) (by (with_reducible repeat (first | refine blk_drewN ?_ _ | refine blk_drew ?_ | refine blk_alloc ?_ _)); exact BK153.out) hb); have n6_ := Aside0.mk (below_step (by repeat (first | (with_reducible first | exact HB.out | apply below_alloc | apply pw_below_drewN | apply below_drew1 | refine below_set ?_ GE151.out | refine below_set ?_ GE152.out | refine below_set ?_ GE153.out) | exact HB.out)) hb); clear HO_6; clear HO_9; clear BK151; clear BK152; clear BK153; clear HB; have HO_6 := n0_; have HO_9 := n1_; have HO196 := n2_; have BK151 := n3_; have BK152 := n4_; have BK153 := n5_; have HB := n6_; clear n0_ n1_ n2_ n3_ n4_ n5_ n6_; clear hb ho75; obtain ⟨Ao76, co76, eo76⟩ := Kd.R_slice HO196.out; subst eo76) | ((with_reducible refine gate_dst (N := 88) rfl ?_); (try (refine gate_guard (by rfl) ?_; dsimp only)); refine Kd.N_lit (Kd.slice 54 k54) _ 50 ?hg (N' := 88) ?hd (xs := ([y194] : List (List (S54)))) (inner := [.slice Ao76 y194.length co76]) (ok := (fun k_ => some k_ ≠ (.slice Ao34 y169.length co34 : Value).ownBlock ∧ some k_ ≠ (.slice Ao38 t176.length co38 : Value).ownBlock ∧ k_ ≠ gb151 ∧ k_ ≠ gb152 ∧ k_ ≠ gb153)) (okp := (fun k_ => some k_ ≠ (.slice Ao34 y169.length co34 : Value).ownBlock ∧ some k_ ≠ (.slice Ao38 t176.length co38 : Value).ownBlock ∧ k_ ≠ gb151 ∧ k_ ≠ gb152 ∧ k_ ≠ gb153)) ?hr ?hp (fun _ hk => hk) ((show ∀ k_, w74.heap.size ≤ k_ → (fun k_ => some k_ ≠ (.slice Ao34 y169.length co34 : Value).ownBlock ∧ some k_ ≠ (.slice Ao38 t176.length co38 : Value).ownBlock ∧ k_ ≠ gb151 ∧ k_ ≠ gb152 ∧ k_ ≠ gb153) k_ from fun k_ hk => ⟨Kd.fresh' (Kd.N_lt (by (with_reducible repeat (first | apply Kd.N_alloc | apply Kd.N_drewN | apply Kd.N_drew)); exact HO_6.out)) k_ hk, Kd.fresh' (Kd.N_lt (by (with_reducible repeat (first | apply Kd.N_alloc | apply Kd.N_drewN | apply Kd.N_drew)); exact HO_9.out)) k_ hk, Kd.freshB (g := gb151) (o := .cells #[.int .u8 1, .int .u8 0, .int .u8 0, .int .u8 0, .int .u8 0, .int .u8 0, .int .u8 0, .int .u8 0] 52 (0, 0)) (by (with_reducible repeat (first | refine blk_drewN ?_ _ | refine blk_drew ?_ | refine blk_alloc ?_ _)); exact BK151.out) k_ hk, Kd.freshB (g := gb152) (o := .cells #[.int .u8 2, .int .u8 0, .int .u8 0, .int .u8 0, .int .u8 0, .int .u8 0, .int .u8 0, .int .u8 0] 52 (0, 0)) (by (with_reducible repeat (first | refine blk_drewN ?_ _ | refine blk_drew ?_ | refine blk_alloc ?_ _)); exact BK152.out) k_ hk, Kd.freshB (g := gb153) (o := .cells #[.int .u8 3, .int .u8 0, .int .u8 0, .int .u8 0, .int .u8 0, .int .u8 0, .int .u8 0, .int .u8 0] 52 (0, 0)) (by (with_reducible repeat (first | refine blk_drewN ?_ _ | refine blk_drew ?_ | refine blk_alloc ?_ _)); exact BK153.out) k_ hk⟩) _ (Nat.le_refl _)) (Below.refl _ _) (Nat.le_refl _) (by simp) ?_; (case hd => rfl); (case hg => rfl); (case hr => first | (go_simp; done) | (go_simp; rfl)); (case hp => exact (Reps.one (show Kd.FK (Kd.slice 54 k54) _ _ y194 [.slice Ao76 y194.length co76] from (Kd.FK_slice_mk (Kd.R_reads' (Kd.R_mono (ok' := (fun k_ => some k_ ≠ (.slice Ao34 y169.length co34 : Value).ownBlock ∧ some k_ ≠ (.slice Ao38 t176.length co38 : Value).ownBlock ∧ k_ ≠ gb151 ∧ k_ ≠ gb152 ∧ k_ ≠ gb153)) (Kd.R_types (Kd.R_types (Kd.R_types (Kd.R_apart' (Kd.R_apart' (HO196.out) (Kd.N_typed HO_6.out) (by decide)) (Kd.N_typed HO_9.out) (by decide)) BK151.out (by decide)) BK152.out (by decide)) BK153.out (by decide)) (fun k_ hk => ⟨hk.1.1.1.1.2, ⟨hk.1.1.1.2, ⟨hk.1.1.2, ⟨hk.1.2, hk.2⟩⟩⟩⟩))).2.1 (Kd.R_F (Kd.R_mono (ok' := (fun k_ => some k_ ≠ (.slice Ao34 y169.length co34 : Value).ownBlock ∧ some k_ ≠ (.slice Ao38 t176.length co38 : Value).ownBlock ∧ k_ ≠ gb151 ∧ k_ ≠ gb152 ∧ k_ ≠ gb153)) (Kd.R_types (Kd.R_types (Kd.R_types (Kd.R_apart' (Kd.R_apart' (HO196.out) (Kd.N_typed HO_6.out) (by decide)) (Kd.N_typed HO_9.out) (by decide)) BK151.out (by decide)) BK152.out (by decide)) BK153.out (by decide)) (fun k_ hk => ⟨hk.1.1.1.1.2, ⟨hk.1.1.1.2, ⟨hk.1.1.2, ⟨hk.1.2, hk.2⟩⟩⟩⟩))))) (Reps.none _ _))); intro v198 w77 ho78 hb hg_ hnew_; clear hg_ hnew_; (first | rw [← Ny197.out] at ho78 | (simp only [Int.reduceToNat] at ho78; rw [← Ny197.out] at ho78)); have n0_ := Aside0.mk (Kd.N_elder' (by (with_reducible repeat (first | apply Kd.N_alloc | apply Kd.N_drewN | apply Kd.N_drew)); exact HO_6.out) (Kd.N_base ho78) hb); have n1_ := Aside0.mk (Kd.N_elder' (by (with_reducible repeat (first | apply Kd.N_alloc | apply Kd.N_drewN | apply Kd.N_drew)); exact HO_9.out) (Kd.N_base ho78) hb); have n2_ := Aside0.mk (Kd.N_lower ho78 (below_size (by repeat (first | (with_reducible first | exact HB.out | apply below_alloc | apply pw_below_drewN | apply below_drew1 | refine below_set ?_ GE151.out | refine below_set ?_ GE152.out | refine below_set ?_ GE153.out) | exact HB.out)))); have n3_ := Aside0.mk (blk_below (g := gb151) (o := .cells #[.int .u8 1, .int .u8 0, .int .u8 0, .int .u8 0, .int .u8 0, .int .u8 0, .int .u8 0, .int .u8 0] 52 (0, 0)) (by (with_reducible repeat (first | refine blk_drewN ?_ _ | refine blk_drew ?_ | refine blk_alloc ?_ _)); exact BK151.out) hb); have n4_ := Aside0.mk (blk_below (g := gb152) (o := .cells #[.int .u8 2, .int .u8 0, .int .u8 0, .int .u8 0, .int .u8 0, .int .u8 0, .int .u8 0, .int .u8 0] 52 (0, 0)) (by (with_reducible repeat (first | refine blk_drewN ?_ _ | refine blk_drew ?_ | refine blk_alloc ?_ _)); exact BK152.out) hb); have n5_ := Aside0.mk (blk_below (g := gb153) (o := .cells #[.int .u8 3, .int .u8 0, .int .u8 0, .int .u8 0, .int .u8 0, .int .u8 0, .int .u8 0, .int .u8 0] 52 (0, 0)) (by (with_reducible repeat (first | refine blk_drewN ?_ _ | refine blk_drew ?_ | refine blk_alloc ?_ _)); exact BK153.out) hb); have n6_ := Aside0.mk (below_step (by repeat (first | (with_reducible first | exact HB.out | apply below_alloc | apply pw_below_drewN | apply below_drew1 | refine below_set ?_ GE151.out | refine below_set ?_ GE152.out | refine below_set ?_ GE153.out) | exact HB.out)) hb); clear HO_6; clear HO_9; clear BK151; clear BK152; clear BK153; clear HB; clear HO196; have HO_6 := n0_; have HO_9 := n1_; have HO199 := n2_; have BK151 := n3_; have BK152 := n4_; have BK153 := n5_; have HB := n6_; clear n0_ n1_ n2_ n3_ n4_ n5_ n6_; clear hb ho78; obtain ⟨Ao79, co79, eo79⟩ := Kd.N_slice HO199.out; subst eo79) | ((with_reducible refine gate_callee (f := 13) rfl ?_); refine goesL_ (some 89) rfl rfl Try.func13 (by kernel_rfl) rfl #[.slice Ao38 t176.length co38, .slice Ao79 y197.length co79] rfl (by (try simp only [List.map_toArray, List.map_cons, List.map_nil]); first | done | rfl | (simp only [List.length_drop, List.length_take]; rfl)) ?_; (with_reducible refine (standbyref36_SameExtents.calls kj4 _ _ t176 _ _ y197 true _ ?side1 ?side2 ?side3 ?side4 A61.out).mono ?_); (case side1 => repeat (first | exact (Kd.N_reads' HO_9.out).2.2 | (with_reducible refine Kd.C_alloc ?_ _) | (with_reducible refine Kd.C_drewN ?_ _) | (with_reducible refine Kd.C_drew ?_))); (case side2 => exact (Kd.N_reads' HO_9.out).2.1); (case side3 => repeat (first | exact (Kd.N_reads' HO199.out).2.2 | (with_reducible refine Kd.C_alloc ?_ _) | (with_reducible refine Kd.C_drewN ?_ _) | (with_reducible refine Kd.C_drew ?_))); (case side4 => exact (Kd.N_reads' HO199.out).2.1); rintro e w' ⟨rfl, ⟨nd, rfl⟩⟩; refine ⟨_, rfl, ?_⟩) | (go_at_call 14; (with_reducible refine (resync_Cost.calls _ _ y169 t201 _ ?side1 ?side2 A71.out).mono ?_); (case side1 => repeat (first | exact (Kd.N_reads' HO_6.out).2.2 | (with_reducible refine Kd.C_alloc ?_ _) | (with_reducible refine Kd.C_drewN ?_ _) | (with_reducible refine Kd.C_drew ?_))); (case side2 => exact (Kd.N_reads' HO_6.out).2.1); rintro e w80 ⟨rfl, hb⟩; have n0_ := Aside0.mk (Kd.N_below (by (with_reducible repeat (first | apply Kd.N_alloc | apply Kd.N_drewN | apply Kd.N_drew)); exact HO_6.out) hb); have n1_ := Aside0.mk (Kd.N_below (by (with_reducible repeat (first | apply Kd.N_alloc | apply Kd.N_drewN | apply Kd.N_drew)); exact HO_9.out) hb); have n2_ := Aside0.mk (Kd.N_below (by (with_reducible repeat (first | apply Kd.N_alloc | apply Kd.N_drewN | apply Kd.N_drew)); exact HO199.out) hb); have n3_ := Aside0.mk (blk_below (g := gb151) (o := .cells #[.int .u8 1, .int .u8 0, .int .u8 0, .int .u8 0, .int .u8 0, .int .u8 0, .int .u8 0, .int .u8 0] 52 (0, 0)) (by (with_reducible repeat (first | refine blk_drewN ?_ _ | refine blk_drew ?_ | refine blk_alloc ?_ _)); exact BK151.out) hb); have n4_ := Aside0.mk (blk_below (g := gb152) (o := .cells #[.int .u8 2, .int .u8 0, .int .u8 0, .int .u8 0, .int .u8 0, .int .u8 0, .int .u8 0, .int .u8 0] 52 (0, 0)) (by (with_reducible repeat (first | refine blk_drewN ?_ _ | refine blk_drew ?_ | refine blk_alloc ?_ _)); exact BK152.out) hb); have n5_ := Aside0.mk (blk_below (g := gb153) (o := .cells #[.int .u8 3, .int .u8 0, .int .u8 0, .int .u8 0, .int .u8 0, .int .u8 0, .int .u8 0, .int .u8 0] 52 (0, 0)) (by (with_reducible repeat (first | refine blk_drewN ?_ _ | refine blk_drew ?_ | refine blk_alloc ?_ _)); exact BK153.out) hb); have n6_ := Aside0.mk (below_step (by repeat (first | (with_reducible first | exact HB.out | apply below_alloc | apply pw_below_drewN | apply below_drew1 | refine below_set ?_ GE151.out | refine below_set ?_ GE152.out | refine below_set ?_ GE153.out) | exact HB.out)) hb); clear HO_6; clear HO_9; clear HO199; clear BK151; clear BK152; clear BK153; clear HB; have HO_6 := n0_; have HO_9 := n1_; have HO199 := n2_; have BK151 := n3_; have BK152 := n4_; have BK153 := n5_; have HB := n6_; clear n0_ n1_ n2_ n3_ n4_ n5_ n6_; (try clear hb); (try clear hb2); (try clear hk); (try clear hi)) | (go_at_call 14; (with_reducible refine (resync_Cost.calls _ _ t176 t202 _ ?side1 ?side2 A73.out).mono ?_); (case side1 => repeat (first | exact (Kd.N_reads' HO_9.out).2.2 | (with_reducible refine Kd.C_alloc ?_ _) | (with_reducible refine Kd.C_drewN ?_ _) | (with_reducible refine Kd.C_drew ?_))); (case side2 => exact (Kd.N_reads' HO_9.out).2.1); rintro e w81 ⟨rfl, hb⟩; have n0_ := Aside0.mk (Kd.N_below (by (with_reducible repeat (first | apply Kd.N_alloc | apply Kd.N_drewN | apply Kd.N_drew)); exact HO_6.out) hb); have n1_ := Aside0.mk (Kd.N_below (by (with_reducible repeat (first | apply Kd.N_alloc | apply Kd.N_drewN | apply Kd.N_drew)); exact HO_9.out) hb); have n2_ := Aside0.mk (Kd.N_below (by (with_reducible repeat (first | apply Kd.N_alloc | apply Kd.N_drewN | apply Kd.N_drew)); exact HO199.out) hb); have n3_ := Aside0.mk (blk_below (g := gb151) (o := .cells #[.int .u8 1, .int .u8 0, .int .u8 0, .int .u8 0, .int .u8 0, .int .u8 0, .int .u8 0, .int .u8 0] 52 (0, 0)) (by (with_reducible repeat (first | refine blk_drewN ?_ _ | refine blk_drew ?_ | refine blk_alloc ?_ _)); exact BK151.out) hb); have n4_ := Aside0.mk (blk_below (g := gb152) (o := .cells #[.int .u8 2, .int .u8 0, .int .u8 0, .int .u8 0, .int .u8 0, .int .u8 0, .int .u8 0, .int .u8 0] 52 (0, 0)) (by (with_reducible repeat (first | refine blk_drewN ?_ _ | refine blk_drew ?_ | refine blk_alloc ?_ _)); exact BK152.out) hb); have n5_ := Aside0.mk (blk_below (g := gb153) (o := .cells #[.int .u8 3, .int .u8 0, .int .u8 0, .int .u8 0, .int .u8 0, .int .u8 0, .int .u8 0, .int .u8 0] 52 (0, 0)) (by (with_reducible repeat (first | refine blk_drewN ?_ _ | refine blk_drew ?_ | refine blk_alloc ?_ _)); exact BK153.out) hb); have n6_ := Aside0.mk (below_step (by repeat (first | (with_reducible first | exact HB.out | apply below_alloc | apply pw_below_drewN | apply below_drew1 | refine below_set ?_ GE151.out | refine below_set ?_ GE152.out | refine below_set ?_ GE153.out) | exact HB.out)) hb); clear HO_6; clear HO_9; clear HO199; clear BK151; clear BK152; clear BK153; clear HB; have HO_6 := n0_; have HO_9 := n1_; have HO199 := n2_; have BK151 := n3_; have BK152 := n4_; have BK153 := n5_; have HB := n6_; clear n0_ n1_ n2_ n3_ n4_ n5_ n6_; (try clear hb); (try clear hb2); (try clear hk); (try clear hi)))
                go_ret
                exact ⟨by first | rfl | (simp [errW_none, errW_some] <;> rfl) | (simp [*, errW_none, errW_some] <;> rfl), by repeat (first | (with_reducible first | exact HB.out | apply below_alloc | apply pw_below_drewN | apply below_drew1 | refine below_set ?_ GE151.out | refine below_set ?_ GE152.out | refine below_set ?_ GE153.out) | exact HB.out)⟩
              · rw [if_neg c72] at H
                have c72b0 : (t201 == 3) = false := beq_eq_false_iff_ne.mpr c72
                have c72b1 : (t201 != 3) = true := bne_iff_ne.mpr c72
                obtain rfl := Option.some.inj H
                go_wp2_with (first | ((with_reducible refine gate_dst (N := 87) rfl ?_); (try (refine gate_guard (by rfl) ?_; dsimp only)); refine Kd.R_lit k54 _ 54 ?hg (N := 87) ?hd (xs := ([(⟨0, 1⟩ : S54), (⟨4, 1⟩ : S54)] : List (S54))) (inner := [.int .i64 0, .int .i64 1, .int .i64 4, .int .i64 1]) (ok := fun _ => True) (okp := fun _ => True) ?hr ?hp (fun _ hk => hk) trivial (Below.refl _ _) (Nat.le_refl _) (by simp) ?_; (case hd => rfl); (case hg => rfl); (case hr => first | (go_simp; done) | (go_simp; rfl)); (case hp => exact (Reps.c2 (show Kd.M k54 _ _ _ (⟨0, 1⟩ : S54) [.int .i64 0, .int .i64 1] from (k54_mkM _ _ _ (⟨0, 1⟩ : S54) )) (Reps.c2 (show Kd.M k54 _ _ _ (⟨4, 1⟩ : S54) [.int .i64 4, .int .i64 1] from (k54_mkM _ _ _ (⟨4, 1⟩ : S54) )) (Reps.none _ _)))); intro v195 w82 ho83 hb hg_ hnew_; clear hg_ hnew_; (first | rw [← Ny194.out] at ho83 | (simp only [Int.reduceToNat] at ho83; rw [← Ny194.out] at ho83)); have n0_ := Aside0.mk (Kd.N_elder' (by (with_reducible repeat (first | apply Kd.N_alloc | apply Kd.N_drewN | apply Kd.N_drew)); exact HO_6.out) (Kd.R_base ho83) hb); have n1_ := Aside0.mk (Kd.N_elder' (by (with_reducible repeat (first | apply Kd.N_alloc | apply Kd.N_drewN | apply Kd.N_drew)); exact HO_9.out) (Kd.R_base ho83) hb); have n2_ := Aside0.mk (Kd.R_lower ho83 (below_size (by repeat (first | (with_reducible first | exact HB.out | apply below_alloc | apply pw_below_drewN | apply below_drew1 | refine below_set ?_ GE151.out | refine below_set ?_ GE152.out | refine below_set ?_ GE153.out) | exact HB.out)))); have n3_ := Aside0.mk (blk_below (g := gb151) (o := .cells #[.int .u8 1, .int .u8 0, .int .u8 0, .int .u8 0, .int .u8 0, .int .u8 0, .int .u8 0, .int .u8 0] 52 (0, 0)) (by (with_reducible repeat (first | refine blk_drewN ?_ _ | refine blk_drew ?_ | refine blk_alloc ?_ _)); exact BK151.out) hb); have n4_ := Aside0.mk (blk_below (g := gb152) (o := .cells #[.int .u8 2, .int .u8 0, .int .u8 0, .int .u8 0, .int .u8 0, .int .u8 0, .int .u8 0, .int .u8 0] 52 (0, 0)) (by (with_reducible repeat (first | refine blk_drewN ?_ _ | refine blk_drew ?_ | refine blk_alloc ?_ _)); exact BK152.out) hb); have n5_ := Aside0.mk (blk_below (g := gb153) (o := .cells #[.int .u8 3, .int .u8 0, .int .u8 0, .int .u8 0, .int .u8 0, .int .u8 0, .int .u8 0, .int .u8 0] 52 (0, 0)) (by (with_reducible repeat (first | refine blk_drewN ?_ _ | refine blk_drew ?_ | refine blk_alloc ?_ _)); exact BK153.out) hb); have n6_ := Aside0.mk (below_step (by repeat (first | (with_reducible first | exact HB.out | apply below_alloc | apply pw_below_drewN | apply below_drew1 | refine below_set ?_ GE151.out | refine below_set ?_ GE152.out | refine below_set ?_ GE153.out) | exact HB.out)) hb); clear HO_6; clear HO_9; clear BK151; clear BK152; clear BK153; clear HB; have HO_6 := n0_; have HO_9 := n1_; have HO196 := n2_; have BK151 := n3_; have BK152 := n4_; have BK153 := n5_; have HB := n6_; clear n0_ n1_ n2_ n3_ n4_ n5_ n6_; clear hb ho83; obtain ⟨Ao84, co84, eo84⟩ := Kd.R_slice HO196.out; subst eo84) | ((with_reducible refine gate_dst (N := 88) rfl ?_); (try (refine gate_guard (by rfl) ?_; dsimp only)); refine Kd.N_lit (Kd.slice 54 k54) _ 50 ?hg (N' := 88) ?hd (xs := ([y194] : List (List (S54)))) (inner := [.slice Ao84 y194.length co84]) (ok := (fun k_ => some k_ ≠ (.slice Ao34 y169.length co34 : Value).ownBlock ∧ some k_ ≠ (.slice Ao38 t176.length co38 : Value).ownBlock ∧ k_ ≠ gb151 ∧ k_ ≠ gb152 ∧ k_ ≠ gb153)) (okp := (fun k_ => some k_ ≠ (.slice Ao34 y169.length co34 : Value).ownBlock ∧ some k_ ≠ (.slice Ao38 t176.length co38 : Value).ownBlock ∧ k_ ≠ gb151 ∧ k_ ≠ gb152 ∧ k_ ≠ gb153)) ?hr ?hp (fun _ hk => hk) ((show ∀ k_, w82.heap.size ≤ k_ → (fun k_ => some k_ ≠ (.slice Ao34 y169.length co34 : Value).ownBlock ∧ some k_ ≠ (.slice Ao38 t176.length co38 : Value).ownBlock ∧ k_ ≠ gb151 ∧ k_ ≠ gb152 ∧ k_ ≠ gb153) k_ from fun k_ hk => ⟨Kd.fresh' (Kd.N_lt (by (with_reducible repeat (first | apply Kd.N_alloc | apply Kd.N_drewN | apply Kd.N_drew)); exact HO_6.out)) k_ hk, Kd.fresh' (Kd.N_lt (by (with_reducible repeat (first | apply Kd.N_alloc | apply Kd.N_drewN | apply Kd.N_drew)); exact HO_9.out)) k_ hk, Kd.freshB (g := gb151) (o := .cells #[.int .u8 1, .int .u8 0, .int .u8 0, .int .u8 0, .int .u8 0, .int .u8 0, .int .u8 0, .int .u8 0] 52 (0, 0)) (by (with_reducible repeat (first | refine blk_drewN ?_ _ | refine blk_drew ?_ | refine blk_alloc ?_ _)); exact BK151.out) k_ hk, Kd.freshB (g := gb152) (o := .cells #[.int .u8 2, .int .u8 0, .int .u8 0, .int .u8 0, .int .u8 0, .int .u8 0, .int .u8 0, .int .u8 0] 52 (0, 0)) (by (with_reducible repeat (first | refine blk_drewN ?_ _ | refine blk_drew ?_ | refine blk_alloc ?_ _)); exact BK152.out) k_ hk, Kd.freshB (g := gb153) (o := .cells #[.int .u8 3, .int .u8 0, .int .u8 0, .int .u8 0, .int .u8 0, .int .u8 0, .int .u8 0, .int .u8 0] 52 (0, 0)) (by (with_reducible repeat (first | refine blk_drewN ?_ _ | refine blk_drew ?_ | refine blk_alloc ?_ _)); exact BK153.out) k_ hk⟩) _ (Nat.le_refl _)) (Below.refl _ _) (Nat.le_refl _) (by simp) ?_; (case hd => rfl); (case hg => rfl); (case hr => first | (go_simp; done) | (go_simp; rfl)); (case hp => exact (Reps.one (show Kd.FK (Kd.slice 54 k54) _ _ y194 [.slice Ao84 y194.length co84] from (Kd.FK_slice_mk (Kd.R_reads' (Kd.R_mono (ok' := (fun k_ => some k_ ≠ (.slice Ao34 y169.length co34 : Value).ownBlock ∧ some k_ ≠ (.slice Ao38 t176.length co38 : Value).ownBlock ∧ k_ ≠ gb151 ∧ k_ ≠ gb152 ∧ k_ ≠ gb153)) (Kd.R_types (Kd.R_types (Kd.R_types (Kd.R_apart' (Kd.R_apart' (HO196.out) (Kd.N_typed HO_6.out) (by decide)) (Kd.N_typed HO_9.out) (by decide)) BK151.out (by decide)) BK152.out (by decide)) BK153.out (by decide)) (fun k_ hk => ⟨hk.1.1.1.1.2, ⟨hk.1.1.1.2, ⟨hk.1.1.2, ⟨hk.1.2, hk.2⟩⟩⟩⟩))).2.1 (Kd.R_F (Kd.R_mono (ok' := (fun k_ => some k_ ≠ (.slice Ao34 y169.length co34 : Value).ownBlock ∧ some k_ ≠ (.slice Ao38 t176.length co38 : Value).ownBlock ∧ k_ ≠ gb151 ∧ k_ ≠ gb152 ∧ k_ ≠ gb153)) (Kd.R_types (Kd.R_types (Kd.R_types (Kd.R_apart' (Kd.R_apart' (HO196.out) (Kd.N_typed HO_6.out) (by decide)) (Kd.N_typed HO_9.out) (by decide)) BK151.out (by decide)) BK152.out (by decide)) BK153.out (by decide)) (fun k_ hk => ⟨hk.1.1.1.1.2, ⟨hk.1.1.1.2, ⟨hk.1.1.2, ⟨hk.1.2, hk.2⟩⟩⟩⟩))))) (Reps.none _ _))); intro v198 w85 ho86 hb hg_ hnew_; clear hg_ hnew_; (first | rw [← Ny197.out] at ho86 | (simp only [Int.reduceToNat] at ho86; rw [← Ny197.out] at ho86)); have n0_ := Aside0.mk (Kd.N_elder' (by (with_reducible repeat (first | apply Kd.N_alloc | apply Kd.N_drewN | apply Kd.N_drew)); exact HO_6.out) (Kd.N_base ho86) hb); have n1_ := Aside0.mk (Kd.N_elder' (by (with_reducible repeat (first | apply Kd.N_alloc | apply Kd.N_drewN | apply Kd.N_drew)); exact HO_9.out) (Kd.N_base ho86) hb); have n2_ := Aside0.mk (Kd.N_lower ho86 (below_size (by repeat (first | (with_reducible first | exact HB.out | apply below_alloc | apply pw_below_drewN | apply below_drew1 | refine below_set ?_ GE151.out | refine below_set ?_ GE152.out | refine below_set ?_ GE153.out) | exact HB.out)))); have n3_ := Aside0.mk (blk_below (g := gb151) (o := .cells #[.int .u8 1, .int .u8 0, .int .u8 0, .int .u8 0, .int .u8 0, .int .u8 0, .int .u8 0, .int .u8 0] 52 (0, 0)) (by (with_reducible repeat (first | refine blk_drewN ?_ _ | refine blk_drew ?_ | refine blk_alloc ?_ _)); exact BK151.out) hb); have n4_ := Aside0.mk (blk_below (g := gb152) (o := .cells #[.int .u8 2, .int .u8 0, .int .u8 0, .int .u8 0, .int .u8 0, .int .u8 0, .int .u8 0, .int .u8 0] 52 (0, 0)) (by (with_reducible repeat (first | refine blk_drewN ?_ _ | refine blk_drew ?_ | refine blk_alloc ?_ _)); exact BK152.out) hb); have n5_ := Aside0.mk (blk_below (g := gb153) (o := .cells #[.int .u8 3, .int .u8 0, .int .u8 0, .int .u8 0, .int .u8 0, .int .u8 0, .int .u8 0, .int .u8 0] 52 (0, 0)) (by (with_reducible repeat (first | refine blk_drewN ?_ _ | refine blk_drew ?_ | refine blk_alloc ?_ _)); exact BK153.out) hb); have n6_ := Aside0.mk (below_step (by repeat (first | (with_reducible first | exact HB.out | apply below_alloc | apply pw_below_drewN | apply below_drew1 | refine below_set ?_ GE151.out | refine below_set ?_ GE152.out | refine below_set ?_ GE153.out) | exact HB.out)) hb); clear HO_6; clear HO_9; clear BK151; clear BK152; clear BK153; clear HB; clear HO196; have HO_6 := n0_; have HO_9 := n1_; have HO199 := n2_; have BK151 := n3_; have BK152 := n4_; have BK153 := n5_; have HB := n6_; clear n0_ n1_ n2_ n3_ n4_ n5_ n6_; clear hb ho86; obtain ⟨Ao87, co87, eo87⟩ := Kd.N_slice HO199.out; subst eo87) | ((with_reducible refine gate_callee (f := 13) rfl ?_); refine goesL_ (some 89) rfl rfl Try.func13 (by kernel_rfl) rfl #[.slice Ao38 t176.length co38, .slice Ao87 y197.length co87] rfl (by (try simp only [List.map_toArray, List.map_cons, List.map_nil]); first | done | rfl | (simp only [List.length_drop, List.length_take]; rfl)) ?_; (with_reducible refine (standbyref36_SameExtents.calls kj4 _ _ t176 _ _ y197 true _ ?side1 ?side2 ?side3 ?side4 A61.out).mono ?_); (case side1 => repeat (first | exact (Kd.N_reads' HO_9.out).2.2 | (with_reducible refine Kd.C_alloc ?_ _) | (with_reducible refine Kd.C_drewN ?_ _) | (with_reducible refine Kd.C_drew ?_))); (case side2 => exact (Kd.N_reads' HO_9.out).2.1); (case side3 => repeat (first | exact (Kd.N_reads' HO199.out).2.2 | (with_reducible refine Kd.C_alloc ?_ _) | (with_reducible refine Kd.C_drewN ?_ _) | (with_reducible refine Kd.C_drew ?_))); (case side4 => exact (Kd.N_reads' HO199.out).2.1); rintro e w' ⟨rfl, ⟨nd, rfl⟩⟩; refine ⟨_, rfl, ?_⟩) | (go_at_call 14; (with_reducible refine (resync_Cost.calls _ _ y169 t201 _ ?side1 ?side2 A71.out).mono ?_); (case side1 => repeat (first | exact (Kd.N_reads' HO_6.out).2.2 | (with_reducible refine Kd.C_alloc ?_ _) | (with_reducible refine Kd.C_drewN ?_ _) | (with_reducible refine Kd.C_drew ?_))); (case side2 => exact (Kd.N_reads' HO_6.out).2.1); rintro e w88 ⟨rfl, hb⟩; have n0_ := Aside0.mk (Kd.N_below (by (with_reducible repeat (first | apply Kd.N_alloc | apply Kd.N_drewN | apply Kd.N_drew)); exact HO_6.out) hb); have n1_ := Aside0.mk (Kd.N_below (by (with_reducible repeat (first | apply Kd.N_alloc | apply Kd.N_drewN | apply Kd.N_drew)); exact HO_9.out) hb); have n2_ := Aside0.mk (Kd.N_below (by (with_reducible repeat (first | apply Kd.N_alloc | apply Kd.N_drewN | apply Kd.N_drew)); exact HO199.out) hb); have n3_ := Aside0.mk (blk_below (g := gb151) (o := .cells #[.int .u8 1, .int .u8 0, .int .u8 0, .int .u8 0, .int .u8 0, .int .u8 0, .int .u8 0, .int .u8 0] 52 (0, 0)) (by (with_reducible repeat (first | refine blk_drewN ?_ _ | refine blk_drew ?_ | refine blk_alloc ?_ _)); exact BK151.out) hb); have n4_ := Aside0.mk (blk_below (g := gb152) (o := .cells #[.int .u8 2, .int .u8 0, .int .u8 0, .int .u8 0, .int .u8 0, .int .u8 0, .int .u8 0, .int .u8 0] 52 (0, 0)) (by (with_reducible repeat (first | refine blk_drewN ?_ _ | refine blk_drew ?_ | refine blk_alloc ?_ _)); exact BK152.out) hb); have n5_ := Aside0.mk (blk_below (g := gb153) (o := .cells #[.int .u8 3, .int .u8 0, .int .u8 0, .int .u8 0, .int .u8 0, .int .u8 0, .int .u8 0, .int .u8 0] 52 (0, 0)) (by (with_reducible repeat (first | refine blk_drewN ?_ _ | refine blk_drew ?_ | refine blk_alloc ?_ _)); exact BK153.out) hb); have n6_ := Aside0.mk (below_step (by repeat (first | (with_reducible first | exact HB.out | apply below_alloc | apply pw_below_drewN | apply below_drew1 | refine below_set ?_ GE151.out | refine below_set ?_ GE152.out | refine below_set ?_ GE153.out) | exact HB.out)) hb); clear HO_6; clear HO_9; clear HO199; clear BK151; clear BK152; clear BK153; clear HB; have HO_6 := n0_; have HO_9 := n1_; have HO199 := n2_; have BK151 := n3_; have BK152 := n4_; have BK153 := n5_; have HB := n6_; clear n0_ n1_ n2_ n3_ n4_ n5_ n6_; (try clear hb); (try clear hb2); (try clear hk); (try clear hi)))
                go_ret
                exact ⟨by first | rfl | (simp [errW_none, errW_some] <;> rfl) | (simp [*, errW_none, errW_some] <;> rfl), by repeat (first | (with_reducible first | exact HB.out | apply below_alloc | apply pw_below_drewN | apply below_drew1 | refine below_set ?_ GE151.out | refine below_set ?_ GE152.out | refine below_set ?_ GE153.out) | exact HB.out)⟩
          · replace c63 := Bool.eq_false_iff.mpr c63
            subst c63
            have H1 : (some false) = some r := by rw [if_neg (show ¬ (false = true) by decide)] at H; exact H
            clear H
            have H := H1
            clear H1
            obtain rfl := Option.some.inj H
            go_wp2_with (first | ((with_reducible refine gate_dst (N := 87) rfl ?_); (try (refine gate_guard (by rfl) ?_; dsimp only)); refine Kd.R_lit k54 _ 54 ?hg (N := 87) ?hd (xs := ([(⟨0, 1⟩ : S54), (⟨4, 1⟩ : S54)] : List (S54))) (inner := [.int .i64 0, .int .i64 1, .int .i64 4, .int .i64 1]) (ok := fun _ => True) (okp := fun _ => True) ?hr ?hp (fun _ hk => hk) trivial (Below.refl _ _) (Nat.le_refl _) (by simp) ?_; (case hd => rfl); (case hg => rfl); (case hr => first | (go_simp; done) | (go_simp; rfl)); (case hp => exact (Reps.c2 (show Kd.M k54 _ _ _ (⟨0, 1⟩ : S54) [.int .i64 0, .int .i64 1] from (k54_mkM _ _ _ (⟨0, 1⟩ : S54) )) (Reps.c2 (show Kd.M k54 _ _ _ (⟨4, 1⟩ : S54) [.int .i64 4, .int .i64 1] from (k54_mkM _ _ _ (⟨4, 1⟩ : S54) )) (Reps.none _ _)))); intro v195 w89 ho90 hb hg_ hnew_; clear hg_ hnew_; (first | rw [← Ny194.out] at ho90 | (simp only [Int.reduceToNat] at ho90; rw [← Ny194.out] at ho90)); have n0_ := Aside0.mk (Kd.N_elder' (by (with_reducible repeat (first | apply Kd.N_alloc | apply Kd.N_drewN | apply Kd.N_drew)); exact HO_6.out) (Kd.R_base ho90) hb); have n1_ := Aside0.mk (Kd.N_elder' (by (with_reducible repeat (first | apply Kd.N_alloc | apply Kd.N_drewN | apply Kd.N_drew)); exact HO_9.out) (Kd.R_base ho90) hb); have n2_ := Aside0.mk (Kd.R_lower ho90 (below_size (by repeat (first | (with_reducible first | exact HB.out | apply below_alloc | apply pw_below_drewN | apply below_drew1 | refine below_set ?_ GE151.out | refine below_set ?_ GE152.out | refine below_set ?_ GE153.out) | exact HB.out)))); have n3_ := Aside0.mk (blk_below (g := gb151) (o := .cells #[.int .u8 1, .int .u8 0, .int .u8 0, .int .u8 0, .int .u8 0, .int .u8 0, .int .u8 0, .int .u8 0] 52 (0, 0)) (by (with_reducible repeat (first | refine blk_drewN ?_ _ | refine blk_drew ?_ | refine blk_alloc ?_ _)); exact BK151.out) hb); have n4_ := Aside0.mk (blk_below (g := gb152) (o := .cells #[.int .u8 2, .int .u8 0, .int .u8 0, .int .u8 0, .int .u8 0, .int .u8 0, .int .u8 0, .int .u8 0] 52 (0, 0)) (by (with_reducible repeat (first | refine blk_drewN ?_ _ | refine blk_drew ?_ | refine blk_alloc ?_ _)); exact BK152.out) hb); have n5_ := Aside0.mk (blk_below (g := gb153) (o := .cells #[.int .u8 3, .int .u8 0, .int .u8 0, .int .u8 0, .int .u8 0, .int .u8 0, .int .u8 0, .int .u8 0] 52 (0, 0)) (by (with_reducible repeat (first | refine blk_drewN ?_ _ | refine blk_drew ?_ | refine blk_alloc ?_ _)); exact BK153.out) hb); have n6_ := Aside0.mk (below_step (by repeat (first | (with_reducible first | exact HB.out | apply below_alloc | apply pw_below_drewN | apply below_drew1 | refine below_set ?_ GE151.out | refine below_set ?_ GE152.out | refine below_set ?_ GE153.out) | exact HB.out)) hb); clear HO_6; clear HO_9; clear BK151; clear BK152; clear BK153; clear HB; have HO_6 := n0_; have HO_9 := n1_; have HO196 := n2_; have BK151 := n3_; have BK152 := n4_; have BK153 := n5_; have HB := n6_; clear n0_ n1_ n2_ n3_ n4_ n5_ n6_; clear hb ho90; obtain ⟨Ao91, co91, eo91⟩ := Kd.R_slice HO196.out; subst eo91) | ((with_reducible refine gate_dst (N := 88) rfl ?_); (try (refine gate_guard (by rfl) ?_; dsimp only)); refine Kd.N_lit (Kd.slice 54 k54) _ 50 ?hg (N' := 88) ?hd (xs := ([y194] : List (List (S54)))) (inner := [.slice Ao91 y194.length co91]) (ok := (fun k_ => some k_ ≠ (.slice Ao34 y169.length co34 : Value).ownBlock ∧ some k_ ≠ (.slice Ao38 t176.length co38 : Value).ownBlock ∧ k_ ≠ gb151 ∧ k_ ≠ gb152 ∧ k_ ≠ gb153)) (okp := (fun k_ => some k_ ≠ (.slice Ao34 y169.length co34 : Value).ownBlock ∧ some k_ ≠ (.slice Ao38 t176.length co38 : Value).ownBlock ∧ k_ ≠ gb151 ∧ k_ ≠ gb152 ∧ k_ ≠ gb153)) ?hr ?hp (fun _ hk => hk) ((show ∀ k_, w89.heap.size ≤ k_ → (fun k_ => some k_ ≠ (.slice Ao34 y169.length co34 : Value).ownBlock ∧ some k_ ≠ (.slice Ao38 t176.length co38 : Value).ownBlock ∧ k_ ≠ gb151 ∧ k_ ≠ gb152 ∧ k_ ≠ gb153) k_ from fun k_ hk => ⟨Kd.fresh' (Kd.N_lt (by (with_reducible repeat (first | apply Kd.N_alloc | apply Kd.N_drewN | apply Kd.N_drew)); exact HO_6.out)) k_ hk, Kd.fresh' (Kd.N_lt (by (with_reducible repeat (first | apply Kd.N_alloc | apply Kd.N_drewN | apply Kd.N_drew)); exact HO_9.out)) k_ hk, Kd.freshB (g := gb151) (o := .cells #[.int .u8 1, .int .u8 0, .int .u8 0, .int .u8 0, .int .u8 0, .int .u8 0, .int .u8 0, .int .u8 0] 52 (0, 0)) (by (with_reducible repeat (first | refine blk_drewN ?_ _ | refine blk_drew ?_ | refine blk_alloc ?_ _)); exact BK151.out) k_ hk, Kd.freshB (g := gb152) (o := .cells #[.int .u8 2, .int .u8 0, .int .u8 0, .int .u8 0, .int .u8 0, .int .u8 0, .int .u8 0, .int .u8 0] 52 (0, 0)) (by (with_reducible repeat (first | refine blk_drewN ?_ _ | refine blk_drew ?_ | refine blk_alloc ?_ _)); exact BK152.out) k_ hk, Kd.freshB (g := gb153) (o := .cells #[.int .u8 3, .int .u8 0, .int .u8 0, .int .u8 0, .int .u8 0, .int .u8 0, .int .u8 0, .int .u8 0] 52 (0, 0)) (by (with_reducible repeat (first | refine blk_drewN ?_ _ | refine blk_drew ?_ | refine blk_alloc ?_ _)); exact BK153.out) k_ hk⟩) _ (Nat.le_refl _)) (Below.refl _ _) (Nat.le_refl _) (by simp) ?_; (case hd => rfl); (case hg => rfl); (case hr => first | (go_simp; done) | (go_simp; rfl)); (case hp => exact (Reps.one (show Kd.FK (Kd.slice 54 k54) _ _ y194 [.slice Ao91 y194.length co91] from (Kd.FK_slice_mk (Kd.R_reads' (Kd.R_mono (ok' := (fun k_ => some k_ ≠ (.slice Ao34 y169.length co34 : Value).ownBlock ∧ some k_ ≠ (.slice Ao38 t176.length co38 : Value).ownBlock ∧ k_ ≠ gb151 ∧ k_ ≠ gb152 ∧ k_ ≠ gb153)) (Kd.R_types (Kd.R_types (Kd.R_types (Kd.R_apart' (Kd.R_apart' (HO196.out) (Kd.N_typed HO_6.out) (by decide)) (Kd.N_typed HO_9.out) (by decide)) BK151.out (by decide)) BK152.out (by decide)) BK153.out (by decide)) (fun k_ hk => ⟨hk.1.1.1.1.2, ⟨hk.1.1.1.2, ⟨hk.1.1.2, ⟨hk.1.2, hk.2⟩⟩⟩⟩))).2.1 (Kd.R_F (Kd.R_mono (ok' := (fun k_ => some k_ ≠ (.slice Ao34 y169.length co34 : Value).ownBlock ∧ some k_ ≠ (.slice Ao38 t176.length co38 : Value).ownBlock ∧ k_ ≠ gb151 ∧ k_ ≠ gb152 ∧ k_ ≠ gb153)) (Kd.R_types (Kd.R_types (Kd.R_types (Kd.R_apart' (Kd.R_apart' (HO196.out) (Kd.N_typed HO_6.out) (by decide)) (Kd.N_typed HO_9.out) (by decide)) BK151.out (by decide)) BK152.out (by decide)) BK153.out (by decide)) (fun k_ hk => ⟨hk.1.1.1.1.2, ⟨hk.1.1.1.2, ⟨hk.1.1.2, ⟨hk.1.2, hk.2⟩⟩⟩⟩))))) (Reps.none _ _))); intro v198 w92 ho93 hb hg_ hnew_; clear hg_ hnew_; (first | rw [← Ny197.out] at ho93 | (simp only [Int.reduceToNat] at ho93; rw [← Ny197.out] at ho93)); have n0_ := Aside0.mk (Kd.N_elder' (by (with_reducible repeat (first | apply Kd.N_alloc | apply Kd.N_drewN | apply Kd.N_drew)); exact HO_6.out) (Kd.N_base ho93) hb); have n1_ := Aside0.mk (Kd.N_elder' (by (with_reducible repeat (first | apply Kd.N_alloc | apply Kd.N_drewN | apply Kd.N_drew)); exact HO_9.out) (Kd.N_base ho93) hb); have n2_ := Aside0.mk (Kd.N_lower ho93 (below_size (by repeat (first | (with_reducible first | exact HB.out | apply below_alloc | apply pw_below_drewN | apply below_drew1 | refine below_set ?_ GE151.out | refine below_set ?_ GE152.out | refine below_set ?_ GE153.out) | exact HB.out)))); have n3_ := Aside0.mk (blk_below (g := gb151) (o := .cells #[.int .u8 1, .int .u8 0, .int .u8 0, .int .u8 0, .int .u8 0, .int .u8 0, .int .u8 0, .int .u8 0] 52 (0, 0)) (by (with_reducible repeat (first | refine blk_drewN ?_ _ | refine blk_drew ?_ | refine blk_alloc ?_ _)); exact BK151.out) hb); have n4_ := Aside0.mk (blk_below (g := gb152) (o := .cells #[.int .u8 2, .int .u8 0, .int .u8 0, .int .u8 0, .int .u8 0, .int .u8 0, .int .u8 0, .int .u8 0] 52 (0, 0)) (by (with_reducible repeat (first | refine blk_drewN ?_ _ | refine blk_drew ?_ | refine blk_alloc ?_ _)); exact BK152.out) hb); have n5_ := Aside0.mk (blk_below (g := gb153) (o := .cells #[.int .u8 3, .int .u8 0, .int .u8 0, .int .u8 0, .int .u8 0, .int .u8 0, .int .u8 0, .int .u8 0] 52 (0, 0)) (by (with_reducible repeat (first | refine blk_drewN ?_ _ | refine blk_drew ?_ | refine blk_alloc ?_ _)); exact BK153.out) hb); have n6_ := Aside0.mk (below_step (by repeat (first | (with_reducible first | exact HB.out | apply below_alloc | apply pw_below_drewN | apply below_drew1 | refine below_set ?_ GE151.out | refine below_set ?_ GE152.out | refine below_set ?_ GE153.out) | exact HB.out)) hb); clear HO_6; clear HO_9; clear BK151; clear BK152; clear BK153; clear HB; clear HO196; have HO_6 := n0_; have HO_9 := n1_; have HO199 := n2_; have BK151 := n3_; have BK152 := n4_; have BK153 := n5_; have HB := n6_; clear n0_ n1_ n2_ n3_ n4_ n5_ n6_; clear hb ho93; obtain ⟨Ao94, co94, eo94⟩ := Kd.N_slice HO199.out; subst eo94) | ((with_reducible refine gate_callee (f := 13) rfl ?_); refine goesL_ (some 89) rfl rfl Try.func13 (by kernel_rfl) rfl #[.slice Ao38 t176.length co38, .slice Ao94 y197.length co94] rfl (by (try simp only [List.map_toArray, List.map_cons, List.map_nil]); first | done | rfl | (simp only [List.length_drop, List.length_take]; rfl)) ?_; (with_reducible refine (standbyref36_SameExtents.calls kj4 _ _ t176 _ _ y197 true _ ?side1 ?side2 ?side3 ?side4 A61.out).mono ?_); (case side1 => repeat (first | exact (Kd.N_reads' HO_9.out).2.2 | (with_reducible refine Kd.C_alloc ?_ _) | (with_reducible refine Kd.C_drewN ?_ _) | (with_reducible refine Kd.C_drew ?_))); (case side2 => exact (Kd.N_reads' HO_9.out).2.1); (case side3 => repeat (first | exact (Kd.N_reads' HO199.out).2.2 | (with_reducible refine Kd.C_alloc ?_ _) | (with_reducible refine Kd.C_drewN ?_ _) | (with_reducible refine Kd.C_drew ?_))); (case side4 => exact (Kd.N_reads' HO199.out).2.1); rintro e w' ⟨rfl, ⟨nd, rfl⟩⟩; refine ⟨_, rfl, ?_⟩))
            go_ret
            exact ⟨by first | rfl | (simp [errW_none, errW_some] <;> rfl) | (simp [*, errW_none, errW_some] <;> rfl), by repeat (first | (with_reducible first | exact HB.out | apply below_alloc | apply pw_below_drewN | apply below_drew1 | refine below_set ?_ GE151.out | refine below_set ?_ GE152.out | refine below_set ?_ GE153.out) | exact HB.out)⟩
        · replace c62 := Bool.eq_false_iff.mpr c62
          subst c62
          have H1 : (some false) = some r := by rw [if_neg (show ¬ (false = true) by decide)] at H; exact H
          clear H
          have H := H1
          clear H1
          obtain rfl := Option.some.inj H
          go_wp2_with (first | ((with_reducible refine gate_dst (N := 87) rfl ?_); (try (refine gate_guard (by rfl) ?_; dsimp only)); refine Kd.R_lit k54 _ 54 ?hg (N := 87) ?hd (xs := ([(⟨0, 1⟩ : S54), (⟨4, 1⟩ : S54)] : List (S54))) (inner := [.int .i64 0, .int .i64 1, .int .i64 4, .int .i64 1]) (ok := fun _ => True) (okp := fun _ => True) ?hr ?hp (fun _ hk => hk) trivial (Below.refl _ _) (Nat.le_refl _) (by simp) ?_; (case hd => rfl); (case hg => rfl); (case hr => first | (go_simp; done) | (go_simp; rfl)); (case hp => exact (Reps.c2 (show Kd.M k54 _ _ _ (⟨0, 1⟩ : S54) [.int .i64 0, .int .i64 1] from (k54_mkM _ _ _ (⟨0, 1⟩ : S54) )) (Reps.c2 (show Kd.M k54 _ _ _ (⟨4, 1⟩ : S54) [.int .i64 4, .int .i64 1] from (k54_mkM _ _ _ (⟨4, 1⟩ : S54) )) (Reps.none _ _)))); intro v195 w95 ho96 hb hg_ hnew_; clear hg_ hnew_; (first | rw [← Ny194.out] at ho96 | (simp only [Int.reduceToNat] at ho96; rw [← Ny194.out] at ho96)); have n0_ := Aside0.mk (Kd.N_elder' (by (with_reducible repeat (first | apply Kd.N_alloc | apply Kd.N_drewN | apply Kd.N_drew)); exact HO_6.out) (Kd.R_base ho96) hb); have n1_ := Aside0.mk (Kd.N_elder' (by (with_reducible repeat (first | apply Kd.N_alloc | apply Kd.N_drewN | apply Kd.N_drew)); exact HO_9.out) (Kd.R_base ho96) hb); have n2_ := Aside0.mk (Kd.R_lower ho96 (below_size (by repeat (first | (with_reducible first | exact HB.out | apply below_alloc | apply pw_below_drewN | apply below_drew1 | refine below_set ?_ GE151.out | refine below_set ?_ GE152.out | refine below_set ?_ GE153.out) | exact HB.out)))); have n3_ := Aside0.mk (blk_below (g := gb151) (o := .cells #[.int .u8 1, .int .u8 0, .int .u8 0, .int .u8 0, .int .u8 0, .int .u8 0, .int .u8 0, .int .u8 0] 52 (0, 0)) (by (with_reducible repeat (first | refine blk_drewN ?_ _ | refine blk_drew ?_ | refine blk_alloc ?_ _)); exact BK151.out) hb); have n4_ := Aside0.mk (blk_below (g := gb152) (o := .cells #[.int .u8 2, .int .u8 0, .int .u8 0, .int .u8 0, .int .u8 0, .int .u8 0, .int .u8 0, .int .u8 0] 52 (0, 0)) (by (with_reducible repeat (first | refine blk_drewN ?_ _ | refine blk_drew ?_ | refine blk_alloc ?_ _)); exact BK152.out) hb); have n5_ := Aside0.mk (blk_below (g := gb153) (o := .cells #[.int .u8 3, .int .u8 0, .int .u8 0, .int .u8 0, .int .u8 0, .int .u8 0, .int .u8 0, .int .u8 0] 52 (0, 0)) (by (with_reducible repeat (first | refine blk_drewN ?_ _ | refine blk_drew ?_ | refine blk_alloc ?_ _)); exact BK153.out) hb); have n6_ := Aside0.mk (below_step (by repeat (first | (with_reducible first | exact HB.out | apply below_alloc | apply pw_below_drewN | apply below_drew1 | refine below_set ?_ GE151.out | refine below_set ?_ GE152.out | refine below_set ?_ GE153.out) | exact HB.out)) hb); clear HO_6; clear HO_9; clear BK151; clear BK152; clear BK153; clear HB; have HO_6 := n0_; have HO_9 := n1_; have HO196 := n2_; have BK151 := n3_; have BK152 := n4_; have BK153 := n5_; have HB := n6_; clear n0_ n1_ n2_ n3_ n4_ n5_ n6_; clear hb ho96; obtain ⟨Ao97, co97, eo97⟩ := Kd.R_slice HO196.out; subst eo97) | ((with_reducible refine gate_dst (N := 88) rfl ?_); (try (refine gate_guard (by rfl) ?_; dsimp only)); refine Kd.N_lit (Kd.slice 54 k54) _ 50 ?hg (N' := 88) ?hd (xs := ([y194] : List (List (S54)))) (inner := [.slice Ao97 y194.length co97]) (ok := (fun k_ => some k_ ≠ (.slice Ao34 y169.length co34 : Value).ownBlock ∧ some k_ ≠ (.slice Ao38 t176.length co38 : Value).ownBlock ∧ k_ ≠ gb151 ∧ k_ ≠ gb152 ∧ k_ ≠ gb153)) (okp := (fun k_ => some k_ ≠ (.slice Ao34 y169.length co34 : Value).ownBlock ∧ some k_ ≠ (.slice Ao38 t176.length co38 : Value).ownBlock ∧ k_ ≠ gb151 ∧ k_ ≠ gb152 ∧ k_ ≠ gb153)) ?hr ?hp (fun _ hk => hk) ((show ∀ k_, w95.heap.size ≤ k_ → (fun k_ => some k_ ≠ (.slice Ao34 y169.length co34 : Value).ownBlock ∧ some k_ ≠ (.slice Ao38 t176.length co38 : Value).ownBlock ∧ k_ ≠ gb151 ∧ k_ ≠ gb152 ∧ k_ ≠ gb153) k_ from fun k_ hk => ⟨Kd.fresh' (Kd.N_lt (by (with_reducible repeat (first | apply Kd.N_alloc | apply Kd.N_drewN | apply Kd.N_drew)); exact HO_6.out)) k_ hk, Kd.fresh' (Kd.N_lt (by (with_reducible repeat (first | apply Kd.N_alloc | apply Kd.N_drewN | apply Kd.N_drew)); exact HO_9.out)) k_ hk, Kd.freshB (g := gb151) (o := .cells #[.int .u8 1, .int .u8 0, .int .u8 0, .int .u8 0, .int .u8 0, .int .u8 0, .int .u8 0, .int .u8 0] 52 (0, 0)) (by (with_reducible repeat (first | refine blk_drewN ?_ _ | refine blk_drew ?_ | refine blk_alloc ?_ _)); exact BK151.out) k_ hk, Kd.freshB (g := gb152) (o := .cells #[.int .u8 2, .int .u8 0, .int .u8 0, .int .u8 0, .int .u8 0, .int .u8 0, .int .u8 0, .int .u8 0] 52 (0, 0)) (by (with_reducible repeat (first | refine blk_drewN ?_ _ | refine blk_drew ?_ | refine blk_alloc ?_ _)); exact BK152.out) k_ hk, Kd.freshB (g := gb153) (o := .cells #[.int .u8 3, .int .u8 0, .int .u8 0, .int .u8 0, .int .u8 0, .int .u8 0, .int .u8 0, .int .u8 0] 52 (0, 0)) (by (with_reducible repeat (first | refine blk_drewN ?_ _ | refine blk_drew ?_ | refine blk_alloc ?_ _)); exact BK153.out) k_ hk⟩) _ (Nat.le_refl _)) (Below.refl _ _) (Nat.le_refl _) (by simp) ?_; (case hd => rfl); (case hg => rfl); (case hr => first | (go_simp; done) | (go_simp; rfl)); (case hp => exact (Reps.one (show Kd.FK (Kd.slice 54 k54) _ _ y194 [.slice Ao97 y194.length co97] from (Kd.FK_slice_mk (Kd.R_reads' (Kd.R_mono (ok' := (fun k_ => some k_ ≠ (.slice Ao34 y169.length co34 : Value).ownBlock ∧ some k_ ≠ (.slice Ao38 t176.length co38 : Value).ownBlock ∧ k_ ≠ gb151 ∧ k_ ≠ gb152 ∧ k_ ≠ gb153)) (Kd.R_types (Kd.R_types (Kd.R_types (Kd.R_apart' (Kd.R_apart' (HO196.out) (Kd.N_typed HO_6.out) (by decide)) (Kd.N_typed HO_9.out) (by decide)) BK151.out (by decide)) BK152.out (by decide)) BK153.out (by decide)) (fun k_ hk => ⟨hk.1.1.1.1.2, ⟨hk.1.1.1.2, ⟨hk.1.1.2, ⟨hk.1.2, hk.2⟩⟩⟩⟩))).2.1 (Kd.R_F (Kd.R_mono (ok' := (fun k_ => some k_ ≠ (.slice Ao34 y169.length co34 : Value).ownBlock ∧ some k_ ≠ (.slice Ao38 t176.length co38 : Value).ownBlock ∧ k_ ≠ gb151 ∧ k_ ≠ gb152 ∧ k_ ≠ gb153)) (Kd.R_types (Kd.R_types (Kd.R_types (Kd.R_apart' (Kd.R_apart' (HO196.out) (Kd.N_typed HO_6.out) (by decide)) (Kd.N_typed HO_9.out) (by decide)) BK151.out (by decide)) BK152.out (by decide)) BK153.out (by decide)) (fun k_ hk => ⟨hk.1.1.1.1.2, ⟨hk.1.1.1.2, ⟨hk.1.1.2, ⟨hk.1.2, hk.2⟩⟩⟩⟩))))) (Reps.none _ _))); intro v198 w98 ho99 hb hg_ hnew_; clear hg_ hnew_; (first | rw [← Ny197.out] at ho99 | (simp only [Int.reduceToNat] at ho99; rw [← Ny197.out] at ho99)); have n0_ := Aside0.mk (Kd.N_elder' (by (with_reducible repeat (first | apply Kd.N_alloc | apply Kd.N_drewN | apply Kd.N_drew)); exact HO_6.out) (Kd.N_base ho99) hb); have n1_ := Aside0.mk (Kd.N_elder' (by (with_reducible repeat (first | apply Kd.N_alloc | apply Kd.N_drewN | apply Kd.N_drew)); exact HO_9.out) (Kd.N_base ho99) hb); have n2_ := Aside0.mk (Kd.N_lower ho99 (below_size (by repeat (first | (with_reducible first | exact HB.out | apply below_alloc | apply pw_below_drewN | apply below_drew1 | refine below_set ?_ GE151.out | refine below_set ?_ GE152.out | refine below_set ?_ GE153.out) | exact HB.out)))); have n3_ := Aside0.mk (blk_below (g := gb151) (o := .cells #[.int .u8 1, .int .u8 0, .int .u8 0, .int .u8 0, .int .u8 0, .int .u8 0, .int .u8 0, .int .u8 0] 52 (0, 0)) (by (with_reducible repeat (first | refine blk_drewN ?_ _ | refine blk_drew ?_ | refine blk_alloc ?_ _)); exact BK151.out) hb); have n4_ := Aside0.mk (blk_below (g := gb152) (o := .cells #[.int .u8 2, .int .u8 0, .int .u8 0, .int .u8 0, .int .u8 0, .int .u8 0, .int .u8 0, .int .u8 0] 52 (0, 0)) (by (with_reducible repeat (first | refine blk_drewN ?_ _ | refine blk_drew ?_ | refine blk_alloc ?_ _)); exact BK152.out) hb); have n5_ := Aside0.mk (blk_below (g := gb153) (o := .cells #[.int .u8 3, .int .u8 0, .int .u8 0, .int .u8 0, .int .u8 0, .int .u8 0, .int .u8 0, .int .u8 0] 52 (0, 0)) (by (with_reducible repeat (first | refine blk_drewN ?_ _ | refine blk_drew ?_ | refine blk_alloc ?_ _)); exact BK153.out) hb); have n6_ := Aside0.mk (below_step (by repeat (first | (with_reducible first | exact HB.out | apply below_alloc | apply pw_below_drewN | apply below_drew1 | refine below_set ?_ GE151.out | refine below_set ?_ GE152.out | refine below_set ?_ GE153.out) | exact HB.out)) hb); clear HO_6; clear HO_9; clear BK151; clear BK152; clear BK153; clear HB; clear HO196; have HO_6 := n0_; have HO_9 := n1_; have HO199 := n2_; have BK151 := n3_; have BK152 := n4_; have BK153 := n5_; have HB := n6_; clear n0_ n1_ n2_ n3_ n4_ n5_ n6_; clear hb ho99; obtain ⟨Ao100, co100, eo100⟩ := Kd.N_slice HO199.out; subst eo100) | ((with_reducible refine gate_callee (f := 13) rfl ?_); refine goesL_ (some 89) rfl rfl Try.func13 (by kernel_rfl) rfl #[.slice Ao38 t176.length co38, .slice Ao100 y197.length co100] rfl (by (try simp only [List.map_toArray, List.map_cons, List.map_nil]); first | done | rfl | (simp only [List.length_drop, List.length_take]; rfl)) ?_; (with_reducible refine (standbyref36_SameExtents.calls kj4 _ _ t176 _ _ y197 false _ ?side1 ?side2 ?side3 ?side4 A61.out).mono ?_); (case side1 => repeat (first | exact (Kd.N_reads' HO_9.out).2.2 | (with_reducible refine Kd.C_alloc ?_ _) | (with_reducible refine Kd.C_drewN ?_ _) | (with_reducible refine Kd.C_drew ?_))); (case side2 => exact (Kd.N_reads' HO_9.out).2.1); (case side3 => repeat (first | exact (Kd.N_reads' HO199.out).2.2 | (with_reducible refine Kd.C_alloc ?_ _) | (with_reducible refine Kd.C_drewN ?_ _) | (with_reducible refine Kd.C_drew ?_))); (case side4 => exact (Kd.N_reads' HO199.out).2.1); rintro e w' ⟨rfl, ⟨nd, rfl⟩⟩; refine ⟨_, rfl, ?_⟩))
          go_ret
          exact ⟨by first | rfl | (simp [errW_none, errW_some] <;> rfl) | (simp [*, errW_none, errW_some] <;> rfl), by repeat (first | (with_reducible first | exact HB.out | apply below_alloc | apply pw_below_drewN | apply below_drew1 | refine below_set ?_ GE151.out | refine below_set ?_ GE152.out | refine below_set ?_ GE153.out) | exact HB.out)⟩
end Go.Proofs.Ytoichhdbomcdaaa.Pq
end
section
namespace Go.Proofs.Ytoichhdbomcdaaa.Pq
open Go.RowKit Go.Proofs.YtoichhdbomcdaaaW.PrintWords Go.Proofs.YtoichhdbomcdaaaW.PrintLast Go.Proofs.YtoichhdbomcdaaaW.PrintMore
attribute [local go_sem] max2_int min2_int max_two min_two max_three min_three max_four min_four
set_option linter.unusedVariables false
set_option linter.unusedSimpArgs false
mutual
def standbyref01_Add.j0 : Nat → List Bool → Bool → Int → Int → Option (List Bool)
  | 0, _, _, _, _ => none
  | k + 1, x0, x16, x249000, x249001 => if x16 = true then (some x0) else (if x249000 < 0 then (standbyref01_Add.j1 k x0 0 (mn (x0.length : Int) (wrap64 (x249000 + x249001)))) else (standbyref01_Add.j1 k x0 x249000 (mn (x0.length : Int) (wrap64 (x249000 + (mn x249001 4096))))))
def standbyref01_Add.j1 : Nat → List Bool → Int → Int → Option (List Bool)
  | 0, _, _, _ => none
  | k + 1, x0, x4, x5 => standbyref01_Add.l0 k x0 x5 x4
def standbyref01_Add.l0 : Nat → List Bool → Int → Int → Option (List Bool)
  | 0, _, _, _ => none
  | k + 1, x0, x5, x6 => if x6 < x5 then (if 0 ≤ x6 then (if x6 < (x0.length : Int) then (standbyref01_Add.l0 k (x0.set (x6 : Int).toNat true) x5 (wrap64 (x6 + 1))) else (none)) else (none)) else (some x0)
end
def standbyref01_Add.f (k : Nat) (l0 : List Bool) (a1_0 : Int) (a1_1 : Int) : Option (List Bool) := if a1_1 ≤ 0 then (standbyref01_Add.j0 k l0 true a1_0 a1_1) else (standbyref01_Add.j0 k l0 (decide (a1_0 ≥ (l0.length : Int))) a1_0 a1_1)
set_option maxHeartbeats 8000000 in
set_option maxRecDepth 100000 in
theorem standbyref01_Add.calls (k : Nat) (P0_ : Nat → Prop) (u9000_ : Value) (l0 : List Bool) (a1_0 : Int) (a1_1 : Int) (r : List Bool) (w0 w : World) (hB : Below w0.heap.size w0 w) (ho0 : Kd.R Kd.bool 4 w w0.heap.size P0_ u9000_ l0) (h : standbyref01_Add.f k l0 a1_0 a1_1 = some r) :
    Calls Try.prog 77 #[u9000_, .agg #[.int .i64 a1_0, .int .i64 a1_1]] w fun e w' => e = .returned (.tuple #[]) ∧ Kd.R Kd.bool 4 w' w0.heap.size (fun k_ => (P0_ k_ ∨ w.heap.size ≤ k_)) u9000_ r ∧ Below w0.heap.size w0 w' ∧ Kept w w' (fun k_ => P0_ k_) := by
  have hu54 := Try.underlying54
  have HO0 := Aside0.mk (show Kd.R Kd.bool 4 w w0.heap.size (fun k_ => (P0_ k_ ∨ w.heap.size ≤ k_)) u9000_ l0 from Kd.R_mono ho0 (fun k_ hk => (.inl hk)))
  have HK := Aside0.mk (Kept.refl w (fun k_ => P0_ k_))
  have HW0 := Aside0.mk hB.size
  have HB := Aside0.mk hB
  clear hB
  have H : (if a1_1 ≤ 0 then (standbyref01_Add.j0 k l0 true a1_0 a1_1) else (standbyref01_Add.j0 k l0 (decide (a1_0 ≥ (l0.length : Int))) a1_0 a1_1)) = some r := h
  clear h
  have HC3 := Aside0.mk H
  clear H
  go_enter Try.func77, Try.ntmps77
  go_upto_region 1 with (first | ((with_reducible refine gate_dst (N := 3) rfl ?_); (try (refine gate_guard (by rfl) ?_; dsimp only)); refine box_event ?hg (N := 3) ?hd (cs := #[.int .i64 a1_0, .int .i64 a1_1]) (t := 54) ?hr ?_; (case hd => rfl); (case hg => rfl); (case hr => first | (go_simp; done) | (go_simp; rfl)); intro gb248 hg w4 hbox hb; have n0_ := Aside0.mk (Kd.R_below (by (with_reducible repeat (first | apply Kd.R_alloc | apply Kd.R_drewN | apply Kd.R_drew)); exact HO0.out) hb); have n1_ := Aside0.mk (Kept.below (S := (fun k_ => P0_ k_)) (by repeat (first | (with_reducible first | exact HK.out | apply Kept.alloc | apply Kept.drewN | apply Kept.drew) | exact HK.out)) hb); have n2_ := Aside0.mk (below_step (by repeat (first | (with_reducible first | exact HB.out | apply below_alloc | apply pw_below_drewN | apply below_drew1) | exact HB.out)) hb); have n3_ := Aside0.mk (hbox); have n4_ := Aside0.mk ((by rw [hg]; exact (by first | exact HK.out.1 | exact (show Kept w _ (fun k_ => P0_ k_) from by repeat (first | (with_reducible first | exact HK.out | apply Kept.alloc | apply Kept.drewN | apply Kept.drew) | exact HK.out)).1) : w.heap.size ≤ gb248)); have n5_ := Aside0.mk ((by rw [hg]; exact (below_size (by repeat (first | (with_reducible first | exact HB.out | apply below_alloc | apply pw_below_drewN | apply below_drew1) | exact HB.out))) : w0.heap.size ≤ gb248)); clear HO0; clear HK; clear HB; have HO0 := n0_; have HK := n1_; have HB := n2_; have BK248 := n3_; have GW248 := n4_; have GE248 := n5_; clear n0_ n1_ n2_ n3_ n4_ n5_; clear hb hbox hg))
  (try simp only [Act.put, List.setIfInBounds_toArray, List.set_cons_zero, List.set_cons_succ])
  go_cut [16] (fun v16 wc => ∃ (kq : Nat) (x16_2 : Bool), v16 = .bool x16_2 ∧ Aside0 (standbyref01_Add.j0 kq l0 x16_2 a1_0 a1_1 = some r) ∧ Aside0 (kq ≤ k) ∧ Aside0 (Kd.R Kd.bool 4 wc w0.heap.size (fun k_ => (P0_ k_ ∨ w.heap.size ≤ k_)) u9000_ l0) ∧ Aside0 (wc.heap[gb248]? = some (.cells #[.int .i64 a1_0, .int .i64 a1_1] 54 (0, 0))) ∧ Aside0 (Kept w wc (fun k_ => P0_ k_)) ∧ Aside0 (Below w0.heap.size w0 wc))
  case first =>
    have H := HC3.out
    clear HC3
    by_cases c5 : a1_1 ≤ 0
    · rw [if_pos c5] at H
      have c5b0 : decide (a1_1 ≤ 0) = true := decide_eq_true c5
      clear c5
      (first | rw [c5b0] | (simp only [i64_w, i32_w]; rw [c5b0]) | skip)
      have H' := Aside0.mk H
      clear H
      have hcz6_0 : w4.cell? ⟨gb248, 0, none⟩ = some (.int .i64 a1_0) := (blk_cell BK248.out 0).trans rfl
      have hcz6_1 : w4.cell? ⟨gb248, 1, none⟩ = some (.int .i64 a1_1) := (blk_cell BK248.out 1).trans rfl
      have hfz6_0 := blk_frozen BK248.out 0
      have hfz6_1 := blk_frozen BK248.out 1
      go_wp2
      go_meet
      case rel => exact ⟨_, (true), (by first | rfl | (simp; done) | (simp [*]; done)), H', ⟨by first | omega | exact Nat.le_refl _⟩, ⟨by (with_reducible repeat (first | apply Kd.R_alloc | apply Kd.R_drewN | apply Kd.R_drew)); exact HO0.out⟩, ⟨by (with_reducible repeat (first | refine blk_drewN ?_ _ | refine blk_drew ?_ | refine blk_alloc ?_ _)); exact BK248.out⟩, ⟨by repeat (first | (with_reducible first | exact HK.out | apply Kept.alloc | apply Kept.drewN | apply Kept.drew | refine Kept.setCell ?_ (.inr GW248.out) _) | exact HK.out)⟩, ⟨by repeat (first | (with_reducible first | exact HB.out | apply below_alloc | apply pw_below_drewN | apply below_drew1 | refine below_set ?_ GE248.out) | exact HB.out)⟩⟩
    · rw [if_neg c5] at H
      have c5b0 : decide (a1_1 ≤ 0) = false := decide_eq_false c5
      clear c5
      (first | rw [c5b0] | (simp only [i64_w, i32_w]; rw [c5b0]) | skip)
      have H' := Aside0.mk H
      clear H
      have hcz7_0 : w4.cell? ⟨gb248, 0, none⟩ = some (.int .i64 a1_0) := (blk_cell BK248.out 0).trans rfl
      have hcz7_1 : w4.cell? ⟨gb248, 1, none⟩ = some (.int .i64 a1_1) := (blk_cell BK248.out 1).trans rfl
      have hfz7_0 := blk_frozen BK248.out 0
      have hfz7_1 := blk_frozen BK248.out 1
      obtain ⟨Ao8, co8, eo8⟩ := Kd.R_slice HO0.out
      subst eo8
      go_wp2
      go_meet
      case rel => exact ⟨_, (decide (a1_0 ≥ (l0.length : Int))), (by first | rfl | (simp; done) | (simp [*]; done)), H', ⟨by first | omega | exact Nat.le_refl _⟩, ⟨by (with_reducible repeat (first | apply Kd.R_alloc | apply Kd.R_drewN | apply Kd.R_drew)); exact HO0.out⟩, ⟨by (with_reducible repeat (first | refine blk_drewN ?_ _ | refine blk_drew ?_ | refine blk_alloc ?_ _)); exact BK248.out⟩, ⟨by repeat (first | (with_reducible first | exact HK.out | apply Kept.alloc | apply Kept.drewN | apply Kept.drew | refine Kept.setCell ?_ (.inr GW248.out) _) | exact HK.out)⟩, ⟨by repeat (first | (with_reducible first | exact HB.out | apply below_alloc | apply pw_below_drewN | apply below_drew1 | refine below_set ?_ GE248.out) | exact HB.out)⟩⟩
  case rest =>
    clear HC3
    try clear p2
    try clear c5
    try clear c5b0
    try clear c7
    try clear hcz6_0
    try clear hcz6_1
    try clear hcz7_0
    try clear hcz7_1
    try clear hfz6_0
    try clear hfz6_1
    try clear hfz7_0
    try clear hfz7_1
    obtain ⟨kq, x16_2, rfl, HA, HJ2, HO_0, BK248, HK, HB⟩ := hcut
    cases kq with
    | zero => exact absurd HA.out (by simp [standbyref01_Add.j0])
    | succ kj2 =>
      have H := HA.out
      clear HA
      simp only [standbyref01_Add.j0] at H
      by_cases c9 : x16_2 = true
      · subst c9
        have H1 : (some l0) = some r := by rw [if_pos rfl] at H; exact H
        clear H
        have H := H1
        clear H1
        obtain rfl := Option.some.inj H
        go_wp2
        first | go_end0 | ((try simp only [Exit.inBlock, Exit.then]); refine bodyPost_ret (results_none rfl _ _ _) rfl ?_)
        exact ⟨by first | rfl | (simp [errW_none, errW_some] <;> rfl) | (simp [*, errW_none, errW_some] <;> rfl), by (with_reducible repeat (first | apply Kd.R_alloc | apply Kd.R_drewN | apply Kd.R_drew)); exact HO_0.out, by repeat (first | (with_reducible first | exact HB.out | apply below_alloc | apply pw_below_drewN | apply below_drew1 | refine below_set ?_ GE248.out) | exact HB.out), by repeat (first | (with_reducible first | exact HK.out | apply Kept.alloc | apply Kept.drewN | apply Kept.drew | refine Kept.setCell ?_ (.inr GW248.out) _) | exact HK.out)⟩
      · replace c9 := Bool.eq_false_iff.mpr c9
        subst c9
        have H1 : (if a1_0 < 0 then (standbyref01_Add.j1 kj2 l0 0 (mn (l0.length : Int) (wrap64 (a1_0 + a1_1)))) else (standbyref01_Add.j1 kj2 l0 a1_0 (mn (l0.length : Int) (wrap64 (a1_0 + (mn a1_1 4096)))))) = some r := by rw [if_neg (show ¬ (false = true) by decide)] at H; exact H
        clear H
        have H := H1
        clear H1
        have HC10 := Aside0.mk H
        clear H
        have hcz11_0 : wc.cell? ⟨gb248, 0, none⟩ = some (.int .i64 a1_0) := (blk_cell BK248.out 0).trans rfl
        have hcz11_1 : wc.cell? ⟨gb248, 1, none⟩ = some (.int .i64 a1_1) := (blk_cell BK248.out 1).trans rfl
        have hfz11_0 := blk_frozen BK248.out 0
        have hfz11_1 := blk_frozen BK248.out 1
        obtain ⟨Ao12, co12, eo12⟩ := Kd.R_slice HO_0.out
        subst eo12
        go_upto_if 22 with (fail)
        go_cut [4, 5] (fun v4 v5 wc => ∃ (kq : Nat) (x4_9 : Int) (x5_9 : Int), v4 = .int .i64 x4_9 ∧ v5 = .int .i64 x5_9 ∧ Aside0 (standbyref01_Add.j1 kq l0 x4_9 x5_9 = some r) ∧ Aside0 (kq ≤ kj2) ∧ Aside0 (Kd.R Kd.bool 4 wc w0.heap.size (fun k_ => (P0_ k_ ∨ w.heap.size ≤ k_)) (.slice Ao12 l0.length co12) l0) ∧ Aside0 (wc.heap[gb248]? = some (.cells #[.int .i64 a1_0, .int .i64 a1_1] 54 (0, 0))) ∧ Aside0 (Kept w wc (fun k_ => P0_ k_)) ∧ Aside0 (Below w0.heap.size w0 wc))
        case first =>
          have H := HC10.out
          clear HC10
          by_cases c13 : a1_0 < 0
          · rw [if_pos c13] at H
            have c13b0 : decide (a1_0 < 0) = true := decide_eq_true c13
            clear c13
            (first | rw [c13b0] | (simp only [i64_w, i32_w]; rw [c13b0]) | skip)
            obtain ⟨ji14, hji14⟩ : ∃ j_ : Int, (mn (l0.length : Int) (wrap64 (a1_0 + a1_1))) = j_ := ⟨_, rfl⟩
            replace H : (standbyref01_Add.j1 kj2 l0 0 ji14) = some r := by first | (rw [hji14] at H; exact H) | (simp only [hji14] at H ⊢; exact H)
            have hji14_ : (if (wrap64 (a1_0 + a1_1)) < (l0.length : Int) then (wrap64 (a1_0 + a1_1)) else (l0.length : Int)) = ji14 := hji14
            have H' := Aside0.mk H
            clear H
            have hcz15_0 : wc.cell? ⟨gb248, 0, none⟩ = some (.int .i64 a1_0) := (blk_cell BK248.out 0).trans rfl
            have hcz15_1 : wc.cell? ⟨gb248, 1, none⟩ = some (.int .i64 a1_1) := (blk_cell BK248.out 1).trans rfl
            have hfz15_0 := blk_frozen BK248.out 0
            have hfz15_1 := blk_frozen BK248.out 1
            go_wp2
            go_meet
            case rel => exact ⟨_, (0), (ji14), (by first | rfl | (simp; done) | (simp [*]; done)), (by first | rfl | (simp; done) | (simp only [← hji14] <;> (first | rfl | simp)) | (simp [*]; done)), H', ⟨by have := HJ2.out; first | omega | exact Nat.le_refl _⟩, ⟨by (with_reducible repeat (first | apply Kd.R_alloc | apply Kd.R_drewN | apply Kd.R_drew)); exact HO_0.out⟩, ⟨by (with_reducible repeat (first | refine blk_drewN ?_ _ | refine blk_drew ?_ | refine blk_alloc ?_ _)); exact BK248.out⟩, ⟨by repeat (first | (with_reducible first | exact HK.out | apply Kept.alloc | apply Kept.drewN | apply Kept.drew | refine Kept.setCell ?_ (.inr GW248.out) _) | exact HK.out)⟩, ⟨by repeat (first | (with_reducible first | exact HB.out | apply below_alloc | apply pw_below_drewN | apply below_drew1 | refine below_set ?_ GE248.out) | exact HB.out)⟩⟩
          · rw [if_neg c13] at H
            have c13b0 : decide (a1_0 < 0) = false := decide_eq_false c13
            clear c13
            (first | rw [c13b0] | (simp only [i64_w, i32_w]; rw [c13b0]) | skip)
            obtain ⟨ji16, hji16⟩ : ∃ j_ : Int, (mn a1_1 4096) = j_ := ⟨_, rfl⟩
            replace H : (standbyref01_Add.j1 kj2 l0 a1_0 (mn (l0.length : Int) (wrap64 (a1_0 + (ji16))))) = some r := by first | (rw [hji16] at H; exact H) | (simp only [hji16] at H ⊢; exact H)
            have hji16_ : (if 4096 < a1_1 then 4096 else a1_1) = ji16 := hji16
            obtain ⟨ji17, hji17⟩ : ∃ j_ : Int, (mn (l0.length : Int) (wrap64 (a1_0 + (ji16)))) = j_ := ⟨_, rfl⟩
            replace H : (standbyref01_Add.j1 kj2 l0 a1_0 ji17) = some r := by first | (rw [hji17] at H; exact H) | (simp only [hji17] at H ⊢; exact H)
            have hji17_ : (if (wrap64 (a1_0 + (ji16))) < (l0.length : Int) then (wrap64 (a1_0 + (ji16))) else (l0.length : Int)) = ji17 := hji17
            have H' := Aside0.mk H
            clear H
            have hcz18_0 : wc.cell? ⟨gb248, 0, none⟩ = some (.int .i64 a1_0) := (blk_cell BK248.out 0).trans rfl
            have hcz18_1 : wc.cell? ⟨gb248, 1, none⟩ = some (.int .i64 a1_1) := (blk_cell BK248.out 1).trans rfl
            have hfz18_0 := blk_frozen BK248.out 0
            have hfz18_1 := blk_frozen BK248.out 1
            go_wp2
            go_meet
            case rel => exact ⟨_, (a1_0), (ji17), (by first | rfl | (simp; done) | (simp [*]; done)), (by first | rfl | (simp; done) | (simp only [← hji17] <;> (first | rfl | simp)) | (simp [*]; done)), H', ⟨by have := HJ2.out; first | omega | exact Nat.le_refl _⟩, ⟨by (with_reducible repeat (first | apply Kd.R_alloc | apply Kd.R_drewN | apply Kd.R_drew)); exact HO_0.out⟩, ⟨by (with_reducible repeat (first | refine blk_drewN ?_ _ | refine blk_drew ?_ | refine blk_alloc ?_ _)); exact BK248.out⟩, ⟨by repeat (first | (with_reducible first | exact HK.out | apply Kept.alloc | apply Kept.drewN | apply Kept.drew | refine Kept.setCell ?_ (.inr GW248.out) _) | exact HK.out)⟩, ⟨by repeat (first | (with_reducible first | exact HB.out | apply below_alloc | apply pw_below_drewN | apply below_drew1 | refine below_set ?_ GE248.out) | exact HB.out)⟩⟩
        case rest =>
          clear HC10
          try clear c1
          try clear p2
          try clear c5
          try clear c5b0
          try clear p6
          try clear c7
          try clear c9
          try clear c13
          try clear c13b0
          try clear hcz11_0
          try clear hcz11_1
          try clear hcz15_0
          try clear hcz15_1
          try clear hcz18_0
          try clear hcz18_1
          try clear hcz6_0
          try clear hcz6_1
          try clear hcz7_0
          try clear hcz7_1
          try clear hfz11_0
          try clear hfz11_1
          try clear hfz15_0
          try clear hfz15_1
          try clear hfz18_0
          try clear hfz18_1
          try clear hfz6_0
          try clear hfz6_1
          try clear hfz7_0
          try clear hfz7_1
          try clear p2
          obtain ⟨kq, x4_9, x5_9, rfl, rfl, HA, HJ9, HO_0, BK248, HK, HB⟩ := hcut
          cases kq with
          | zero => exact absurd HA.out (by simp [standbyref01_Add.j1])
          | succ kj9 =>
            have H := HA.out
            clear HA
            simp only [standbyref01_Add.j1] at H
            have H' := Aside0.mk H
            clear H
            go_wp2
            go_loopg [6] kj9 (fun kq v6 w' => ∃ (x0_3 : List Bool) (x6_3 : Int), v6 = .int .i64 x6_3 ∧ Aside0 (standbyref01_Add.l0 kq x0_3 x5_9 x6_3 = some r) ∧ Aside0 (kq ≤ kj9) ∧ Aside0 (Kd.R Kd.bool 4 w' w0.heap.size (fun k_ => (P0_ k_ ∨ w.heap.size ≤ k_)) (.slice Ao12 l0.length co12) x0_3) ∧ Aside0 (w'.heap[gb248]? = some (.cells #[.int .i64 a1_0, .int .i64 a1_1] 54 (0, 0))) ∧ Aside0 (Kept w w' (fun k_ => P0_ k_)) ∧ Aside0 (Below w0.heap.size w0 w'))
            case atStart => exact ⟨(l0), (x4_9), (by first | rfl | (simp; done) | (simp [*]; done)), H', ⟨Nat.le_refl _⟩, ⟨by (with_reducible repeat (first | apply Kd.R_alloc | apply Kd.R_drewN | apply Kd.R_drew)); exact HO_0.out⟩, ⟨by (with_reducible repeat (first | refine blk_drewN ?_ _ | refine blk_drew ?_ | refine blk_alloc ?_ _)); exact BK248.out⟩, ⟨by repeat (first | (with_reducible first | exact HK.out | apply Kept.alloc | apply Kept.drewN | apply Kept.drew | refine Kept.setCell ?_ (.inr GW248.out) _) | exact HK.out)⟩, ⟨by repeat (first | (with_reducible first | exact HB.out | apply below_alloc | apply pw_below_drewN | apply below_drew1 | refine below_set ?_ GE248.out) | exact HB.out)⟩⟩
            case round =>
              clear H'
              try clear c1
              try clear p2
              try clear c5
              try clear c5b0
              try clear p6
              try clear c7
              try clear c9
              try clear c13
              try clear c13b0
              try clear hcz11_0
              try clear hcz11_1
              try clear hcz15_0
              try clear hcz15_1
              try clear hcz18_0
              try clear hcz18_1
              try clear hcz6_0
              try clear hcz6_1
              try clear hcz7_0
              try clear hcz7_1
              try clear hfz11_0
              try clear hfz11_1
              try clear hfz15_0
              try clear hfz15_1
              try clear hfz18_0
              try clear hfz18_1
              try clear hfz6_0
              try clear hfz6_1
              try clear hfz7_0
              try clear hfz7_1
              try clear p2
              try clear p6
              obtain ⟨x0_3, x6_3, rfl, HA, HK3, HO_0, BK248, HK, HB⟩ := hrel
              have hl0_3 := (Kd.R_reads' HO_0.out).1
              rw [hl0_3] at HO_0
              (try simp only [hl0_3])
              (try simp only [hl0_3] at BK248)
              cases gk with
              | zero => exact absurd HA.out (by simp [standbyref01_Add.l0])
              | succ k3 =>
                have H := HA.out
                clear HA
                simp only [standbyref01_Add.l0] at H
                by_cases c19 : x6_3 < x5_9
                · rw [if_pos c19] at H
                  have c19b0 : decide (x6_3 < x5_9) = true := decide_eq_true c19
                  clear c19
                  by_cases c20 : 0 ≤ x6_3
                  · rw [if_pos c20] at H
                    have c20b0 : decide (0 ≤ x6_3) = true := decide_eq_true c20
                    clear c20
                    by_cases c21 : x6_3 < (x0_3.length : Int)
                    · rw [if_pos c21] at H
                      have c21b0 : decide (x6_3 < (x0_3.length : Int)) = true := decide_eq_true c21
                      clear c21
                      obtain ⟨y249, hy249⟩ : ∃ y_ : List Bool, y_ = (x0_3.set (x6_3 : Int).toNat true) := ⟨_, rfl⟩
                      replace H : (standbyref01_Add.l0 k3 y249 x5_9 (wrap64 (x6_3 + 1))) = some r := by first | (rw [hy249]; with_reducible exact H) | (have H2_ := (Option.bind_some _ _).symm.trans H; rw [hy249]; with_reducible exact H2_) | (have H2_ := (Option.bind_some _ _).symm.trans H; with_reducible exact H2_) | with_reducible exact H | (rw [hy249]; exact H) | exact H
                      have Ny249 := Aside0.mk hy249
                      clear hy249
                      have H' := Aside0.mk H
                      clear H
                      have p22 : 0 ≤ (x6_3 : Int) := of_decide_eq_true (by first | (with_reducible assumption) | assumption)
                      have q22 : (x6_3 : Int) < ((x0_3.length : Int) : Int) := of_decide_eq_true (by first | (with_reducible assumption) | assumption)
                      obtain ⟨go22, co22, eo22, gb22, gl22, cl22, HG22⟩ := Kd.R_form HO_0.out (by omega)
                      (first | cases eo22 | (injection eo22 with ea_ en_ ec_; (first | subst ea_ | (injection ea_ with ea_; subst ea_)); subst ec_; clear en_))
                      have GB22 := Aside0.mk gb22
                      have GG22 := Aside0.mk HG22
                      clear gb22 gl22 HG22
                      have HMgo22 := Aside0.mk (show (P0_ go22 ∨ w.heap.size ≤ go22) from (HO_0.out.1 _ rfl))
                      obtain ⟨hx22_0, hf22_0⟩ := Kd.R_celln false HO_0.out (x6_3 : Int) p22 q22
                      replace p22 := eq_true p22
                      replace q22 := eq_true q22
                      have HP23 := Kd.R_putg HO_0.out (x6_3 : Int) true
                      go_wp2_with (first | ((with_reducible refine gate_store (t := 4) (p := 46) rfl ?_); refine store_event (t := 4) (p := 46) (v := ?vo_w24) (w1 := (wr.setCell ⟨go22, (x6_3 : Int).toNat, none⟩ (.bool true))) ?hg ?ho ?hn ?hr ?_; (case ho => rfl); (case hg => rfl); (case hn => rfl); (case hr => first | (go_simp; done) | (go_simp; rfl)); intro w24 hw; have hg : wr.grownBy w24 (some go22) := (by rw [hw]; exact HP23.2); have hp_ : Kd.R Kd.bool 4 w24 w0.heap.size (fun k_ => (P0_ k_ ∨ w.heap.size ≤ k_)) (.slice (some ⟨go22, 0, none⟩) x0_3.length co12) y249 := (by rw [hw, Ny249.out]; exact HP23.1); clear HP23; have n0_ := Aside0.mk (hp_); have n1_ := Aside0.mk (blk_grown (g := gb248) (o := .cells #[.int .i64 a1_0, .int .i64 a1_1] 54 (0, 0)) (by (with_reducible repeat (first | refine blk_drewN ?_ _ | refine blk_drew ?_ | refine blk_alloc ?_ _)); exact BK248.out) hg (Kd.R_ne HO_0.out BK248.out (by decide))); have n2_ := Aside0.mk ((by rw [hw]; exact below_set (HB.out) GB22.out : Below w0.heap.size w0 w24)); have n3_ := Aside0.mk (Kept.of_grown (S := (fun k_ => P0_ k_)) hg (by repeat (first | (with_reducible first | exact HK.out | apply Kept.alloc | apply Kept.drewN | apply Kept.drew | refine Kept.setCell ?_ (.inr GW248.out) _) | exact HK.out)) (fun k_ e_ => (HO_0.out.1 k_ e_))); clear HO_0; clear BK248; clear HB; clear HK; have HO_0 := n0_; have BK248 := n1_; have HB := n2_; have HK := n3_; clear n0_ n1_ n2_ n3_; clear hg hw hp_))
                      (try simp only [← hl0_3])
                      go_roundg k3
                      case measure => have := HJ2.out; have := HJ9.out; have := HK3.out; omega
                      case rel => exact ⟨(y249), (wrap64 (x6_3 + 1)), (by first | rfl | (simp; done) | (simp [*]; done)), H', ⟨by have := HJ2.out; have := HJ9.out; have := HK3.out; omega⟩, ⟨by (try simp only [hl0_3]); (with_reducible repeat (first | apply Kd.R_alloc | apply Kd.R_drewN | apply Kd.R_drew)); exact HO_0.out⟩, ⟨by (try simp only [hl0_3]); (with_reducible repeat (first | refine blk_drewN ?_ _ | refine blk_drew ?_ | refine blk_alloc ?_ _)); exact BK248.out⟩, ⟨by repeat (first | (with_reducible first | exact HK.out | apply Kept.alloc | apply Kept.drewN | apply Kept.drew | refine Kept.setCell ?_ (.inr GW248.out) _) | exact HK.out)⟩, ⟨by repeat (first | (with_reducible first | exact HB.out | apply below_alloc | apply pw_below_drewN | apply below_drew1 | refine below_set ?_ GE248.out) | exact HB.out)⟩⟩
                    · rw [if_neg c21] at H
                      exact absurd H (by simp)
                  · rw [if_neg c20] at H
                    exact absurd H (by simp)
                · rw [if_neg c19] at H
                  have c19b0 : decide (x6_3 < x5_9) = false := decide_eq_false c19
                  clear c19
                  obtain rfl := Option.some.inj H
                  go_wp2
                  first | go_end0 | ((try simp only [Exit.inBlock, Exit.then]); refine bodyPost_ret (results_none rfl _ _ _) rfl ?_)
                  exact ⟨by first | rfl | (simp [errW_none, errW_some] <;> rfl) | (simp [*, errW_none, errW_some] <;> rfl), (by first | exact (by (with_reducible repeat (first | apply Kd.R_alloc | apply Kd.R_drewN | apply Kd.R_drew)); exact HO_0.out) | (simp only [hl0_3]; exact (by (with_reducible repeat (first | apply Kd.R_alloc | apply Kd.R_drewN | apply Kd.R_drew)); exact HO_0.out))), by repeat (first | (with_reducible first | exact HB.out | apply below_alloc | apply pw_below_drewN | apply below_drew1 | refine below_set ?_ GE248.out) | exact HB.out), by repeat (first | (with_reducible first | exact HK.out | apply Kept.alloc | apply Kept.drewN | apply Kept.drew | refine Kept.setCell ?_ (.inr GW248.out) _) | exact HK.out)⟩
def standbyref01_Marks.l0 : Nat → List (S54) → List Bool → Int → Option (List Bool)
  | 0, _, _, _ => none
  | k + 1, x0, x3, x4 => if x4 < (x0.length : Int) then (if 0 ≤ x4 then ((standbyref01_Add.f k x3 ((rd_T54 x0 x4).f0) ((rd_T54 x0 x4).f1)).bind fun t254 => (standbyref01_Marks.l0 k x0 t254 (wrap64 (x4 + 1)))) else (none)) else (some x3)
def standbyref01_Marks.f (k : Nat) (l0 : List (S54)) : Option (List Bool) := if 4096 ≤ 281474976710656 then (standbyref01_Marks.l0 k l0 (List.replicate 4096 false) 0) else (none)
set_option maxHeartbeats 8000000 in
set_option maxRecDepth 100000 in
theorem standbyref01_Marks.calls (k : Nat) (A0 : Option Addr) (c0 : Nat) (l0 : List (S54)) (r : List Bool) (w : World) (hr0 : Kd.C k54 w A0 l0.length l0) (hc0 : l0.length ≤ c0) (h : standbyref01_Marks.f k l0 = some r) :
    Calls Try.prog 58 #[.slice A0 l0.length c0] w fun e w' => ∃ v0_ : Value, e = .returned (v0_) ∧ Kd.R Kd.bool 4 w' w.heap.size (fun _ => True) v0_ r ∧ Below w.heap.size w w' := by
  have hu54 := Try.underlying54
  have HR0 := Aside0.mk hr0
  have HC0 := Aside0.mk hc0
  clear hr0 hc0
  have HB := Aside0.mk (Below.refl w.heap.size w)
  have H : (if 4096 ≤ 281474976710656 then (standbyref01_Marks.l0 k l0 (List.replicate 4096 false) 0) else (none)) = some r := h
  clear h
  by_cases c2 : 4096 ≤ 281474976710656
  · rw [if_pos c2] at H
    have c2b0 := eq_true c2
    have c2b1 : decide (4096 ≤ 281474976710656) = true := decide_eq_true c2
    clear c2
    obtain ⟨y250, hy250⟩ : ∃ y_ : List Bool, y_ = (List.replicate 4096 false) := ⟨_, rfl⟩
    replace H : (standbyref01_Marks.l0 k l0 y250 0) = some r := by first | (rw [hy250]; with_reducible exact H) | (have H2_ := (Option.bind_some _ _).symm.trans H; rw [hy250]; with_reducible exact H2_) | (have H2_ := (Option.bind_some _ _).symm.trans H; with_reducible exact H2_) | with_reducible exact H | (rw [hy250]; exact H) | exact H
    have Ny250 := Aside0.mk hy250
    clear hy250
    have H' := Aside0.mk H
    clear H
    go_enter Try.func58, Try.ntmps58
    go_wp2_with (first | ((with_reducible refine gate_dst (N := 5) rfl ?_); refine Kd.R_make Kd.bool _ 4 rfl (N := 5) rfl 81 _ _ rfl 4096 rfl rfl Try.underlying81 (.bool false) 1 info4 rfl (by decide) (by omega) false (ok := fun _ => True) (okp := fun _ => True) rfl (fun _ hk => hk) trivial (by omega) (by omega) (Below.refl _ _) (Nat.le_refl _) ?_; intro v251 w3 ho4 hb hg_ hnew_; clear hg_ hnew_; (first | rw [← Ny250.out] at ho4 | (simp only [Int.reduceToNat] at ho4; rw [← Ny250.out] at ho4)); have n0_ := Aside0.mk (Kd.R_lower ho4 (below_size (by repeat (first | (with_reducible first | exact HB.out | apply below_alloc | apply pw_below_drewN | apply below_drew1) | exact HB.out)))); have n1_ := Aside0.mk (below_step (by repeat (first | (with_reducible first | exact HB.out | apply below_alloc | apply pw_below_drewN | apply below_drew1) | exact HB.out)) hb); clear HB; have HO252 := n0_; have HB := n1_; clear n0_ n1_; clear hb ho4))
    go_loopg [4] k (fun kq v4 w' => ∃ (x3_1 : List Bool) (x4_1 : Int), v4 = .int .i64 x4_1 ∧ Aside0 (standbyref01_Marks.l0 kq l0 x3_1 x4_1 = some r) ∧ Aside0 (kq ≤ k) ∧ Aside0 (Kd.R Kd.bool 4 w' w.heap.size (fun _ => True) v251 x3_1) ∧ Aside0 (Below w.heap.size w w'))
    case atStart => exact ⟨(y250), (0), (by first | rfl | (simp; done) | (simp [*]; done)), H', ⟨Nat.le_refl _⟩, ⟨by (with_reducible repeat (first | apply Kd.R_alloc | apply Kd.R_drewN | apply Kd.R_drew)); exact HO252.out⟩, ⟨by repeat (first | (with_reducible first | exact HB.out | apply below_alloc | apply pw_below_drewN | apply below_drew1) | exact HB.out)⟩⟩
    case round =>
      clear H'
      try clear c2
      try clear c2b0
      try clear c2b1
      try clear p2
      obtain ⟨x3_1, x4_1, rfl, HA, HK1, HO_3, HB⟩ := hrel
      cases gk with
      | zero => exact absurd HA.out (by simp [standbyref01_Marks.l0])
      | succ k1 =>
        have H := HA.out
        clear HA
        simp only [standbyref01_Marks.l0] at H
        by_cases c5 : x4_1 < (l0.length : Int)
        · rw [if_pos c5] at H
          have c5b0 : decide (x4_1 < (l0.length : Int)) = true := decide_eq_true c5
          clear c5
          by_cases c6 : 0 ≤ x4_1
          · rw [if_pos c6] at H
            have c6b0 : decide (0 ≤ x4_1) = true := decide_eq_true c6
            clear c6
            replace H := Option.bind_eq_some_iff.mp H
            obtain ⟨t254, A70, H⟩ := H
            replace H : (standbyref01_Marks.l0 k1 l0 t254 (wrap64 (x4_1 + 1))) = some r := H
            have A7 := Aside0.mk A70
            clear A70
            have H' := Aside0.mk H
            clear H
            have p253 : 0 ≤ (x4_1 : Int) := of_decide_eq_true (by first | (with_reducible assumption) | assumption)
            have q253 : x4_1 < (l0.length : Int) := of_decide_eq_true (by first | (with_reducible assumption) | assumption)
            obtain ⟨ad253, e253, hx253_0, hx253_1⟩ := at_T54 HR0.out x4_1 p253 q253
            cases e253
            replace hx253_0 := (HB.out.cell (World.block_lt_of_cell? w _ hx253_0)).trans hx253_0
            replace hx253_1 := (HB.out.cell (World.block_lt_of_cell? w _ hx253_1)).trans hx253_1
            replace p253 := eq_true p253
            replace q253 := eq_true q253
            obtain ⟨Ao8, co8, eo8⟩ := Kd.R_slice HO_3.out
            subst eo8
            go_wp2_with (first | ((with_reducible refine gate_callee (f := 77) rfl ?_); refine goesL_ (some 17) rfl rfl Try.func77 (by kernel_rfl) rfl #[.slice Ao8 x3_1.length co8, .agg #[.int .i64 ((rd_T54 l0 x4_1).f0), .int .i64 ((rd_T54 l0 x4_1).f1)]] rfl (by (try simp only [List.map_toArray, List.map_cons, List.map_nil]); first | done | rfl | (simp only [List.length_drop, List.length_take]; rfl)) ?_; (with_reducible refine (standbyref01_Add.calls k1 (fun k_ => some k_ = (.slice Ao8 x3_1.length co8 : Value).ownBlock) (.slice Ao8 x3_1.length co8) x3_1 ((rd_T54 l0 x4_1).f0) ((rd_T54 l0 x4_1).f1) t254 w _ ?side1 ?side2 A7.out).mono ?_); (case side1 => repeat (first | (with_reducible first | exact HB.out | apply below_alloc | apply pw_below_drewN | apply below_drew1) | exact HB.out)); (case side2 => exact Kd.R_tight rfl HO_3.out); rintro e w9 ⟨rfl, hy0, hb, hkp⟩; refine ⟨_, rfl, ?_⟩; have n0_ := Aside0.mk (Kd.R_reok rfl hy0 (fun k_ e_ => HO_3.out.1 k_ e_)); have n1_ := Aside0.mk (hb); clear HO_3; clear HB; have HO_3 := n0_; have HB := n1_; clear n0_ n1_; (try clear hb); (try clear hkp); (try clear hy0)))
            go_roundg k1
            case measure => have := HK1.out; omega
            case rel => exact ⟨(t254), (wrap64 (x4_1 + 1)), (by first | rfl | (simp; done) | (simp [*]; done)), H', ⟨by have := HK1.out; omega⟩, ⟨by (with_reducible repeat (first | apply Kd.R_alloc | apply Kd.R_drewN | apply Kd.R_drew)); exact HO_3.out⟩, ⟨by repeat (first | (with_reducible first | exact HB.out | apply below_alloc | apply pw_below_drewN | apply below_drew1) | exact HB.out)⟩⟩
          · rw [if_neg c6] at H
            exact absurd H (by simp)
        · rw [if_neg c5] at H
          have c5b0 : decide (x4_1 < (l0.length : Int)) = false := decide_eq_false c5
          clear c5
          obtain rfl := Option.some.inj H
          go_wp2
          go_ret
          exact ⟨_, by first | rfl | (simp [errW_none, errW_some] <;> rfl) | (simp [*, errW_none, errW_some] <;> rfl), by (with_reducible repeat (first | apply Kd.R_alloc | apply Kd.R_drewN | apply Kd.R_drew)); exact HO_3.out, by repeat (first | (with_reducible first | exact HB.out | apply below_alloc | apply pw_below_drewN | apply below_drew1) | exact HB.out)⟩
  · rw [if_neg c2] at H
    exact absurd H (by simp)
end Go.Proofs.Ytoichhdbomcdaaa.Pq
end
section
namespace Go.Proofs.Ytoichhdbomcdaaa.Pq
open Go.RowKit Go.Proofs.YtoichhdbomcdaaaW.PrintWords Go.Proofs.YtoichhdbomcdaaaW.PrintLast Go.Proofs.YtoichhdbomcdaaaW.PrintMore
attribute [local go_sem] max2_int min2_int max_two min_two max_three min_three max_four min_four
set_option linter.unusedVariables false
set_option linter.unusedSimpArgs false
def standbyref01_Count.l0 : Nat → List Bool → Int → Int → Option (Int)
  | 0, _, _, _ => none
  | k + 1, x3, x4, x5 => if x5 < (x3.length : Int) then (if 0 ≤ x5 then (if rdOf false x3 x5 = true then (standbyref01_Count.l0 k x3 (wrap64 (x4 + 1)) (wrap64 (x5 + 1))) else (standbyref01_Count.l0 k x3 x4 (wrap64 (x5 + 1)))) else (none)) else (some x4)
def standbyref01_Count.f (k : Nat) (l0 : List (S54)) : Option (Int) := (standbyref01_Marks.f k l0).bind fun t322 => (standbyref01_Count.l0 k t322 0 0)
set_option maxHeartbeats 8000000 in
set_option maxRecDepth 100000 in
theorem standbyref01_Count.calls (k : Nat) (A0 : Option Addr) (c0 : Nat) (l0 : List (S54)) (r : Int) (w : World) (hr0 : Kd.C k54 w A0 l0.length l0) (hc0 : l0.length ≤ c0) (h : standbyref01_Count.f k l0 = some r) :
    Calls Try.prog 37 #[.slice A0 l0.length c0] w fun e w' => e = .returned (.int .i64 r) ∧ Below w.heap.size w w' := by
  have HR0 := Aside0.mk hr0
  have HC0 := Aside0.mk hc0
  clear hr0 hc0
  have HB := Aside0.mk (Below.refl w.heap.size w)
  have H : ((standbyref01_Marks.f k l0).bind fun t322 => (standbyref01_Count.l0 k t322 0 0)) = some r := h
  clear h
  replace H := Option.bind_eq_some_iff.mp H
  obtain ⟨t322, A20, H⟩ := H
  replace H : (standbyref01_Count.l0 k t322 0 0) = some r := H
  have A2 := Aside0.mk A20
  clear A20
  have H' := Aside0.mk H
  clear H
  go_enter Try.func37, Try.ntmps37
  go_wp2_with (first | ((with_reducible refine gate_callee (f := 58) rfl ?_); refine goesL_ (some 7) rfl rfl Try.func58 (by kernel_rfl) rfl #[.slice A0 l0.length c0] rfl (by (try simp only [List.map_toArray, List.map_cons, List.map_nil]); first | done | rfl | (simp only [List.length_drop, List.length_take]; rfl)) ?_; (with_reducible refine (standbyref01_Marks.calls k _ _ l0 t322 _ ?side1 ?side2 A2.out).mono ?_); (case side1 => repeat (first | exact HR0.out | (with_reducible refine Kd.C_alloc ?_ _) | (with_reducible refine Kd.C_drewN ?_ _) | (with_reducible refine Kd.C_drew ?_))); (case side2 => exact HC0.out); rintro e w3 ⟨v323, rfl, ho0, hb⟩; refine ⟨_, rfl, ?_⟩; have n0_ := Aside0.mk (Kd.R_lower ho0 (below_size (by repeat (first | (with_reducible first | exact HB.out | apply below_alloc | apply pw_below_drewN | apply below_drew1) | exact HB.out)))); have n1_ := Aside0.mk (below_step (by repeat (first | (with_reducible first | exact HB.out | apply below_alloc | apply pw_below_drewN | apply below_drew1) | exact HB.out)) hb); clear HB; have HO324 := n0_; have HB := n1_; clear n0_ n1_; (try clear hb); (try clear hb2); (try clear hk); (try clear hi); (try clear ho0)))
  go_loopg [4, 5] k (fun kq v4 v5 w' => ∃ (x4_1 : Int) (x5_1 : Int), v4 = .int .i64 x4_1 ∧ v5 = .int .i64 x5_1 ∧ Aside0 (standbyref01_Count.l0 kq t322 x4_1 x5_1 = some r) ∧ Aside0 (kq ≤ k) ∧ Aside0 (Kd.R Kd.bool 4 w' w.heap.size (fun _ => True) v323 t322) ∧ Aside0 (Below w.heap.size w w'))
  case atStart => exact ⟨(0), (0), (by first | rfl | (simp; done) | (simp [*]; done)), (by first | rfl | (simp; done) | (simp [*]; done)), H', ⟨Nat.le_refl _⟩, ⟨by (with_reducible repeat (first | apply Kd.R_alloc | apply Kd.R_drewN | apply Kd.R_drew)); exact HO324.out⟩, ⟨by repeat (first | (with_reducible first | exact HB.out | apply below_alloc | apply pw_below_drewN | apply below_drew1) | exact HB.out)⟩⟩
  case round =>
    clear H'
    try clear p2
    try clear c3
    obtain ⟨x4_1, x5_1, rfl, rfl, HA, HK1, HO_3, HB⟩ := hrel
    cases gk with
    | zero => exact absurd HA.out (by simp [standbyref01_Count.l0])
    | succ k1 =>
      have H := HA.out
      clear HA
      simp only [standbyref01_Count.l0] at H
      by_cases c4 : x5_1 < (t322.length : Int)
      · rw [if_pos c4] at H
        have c4b0 : decide (x5_1 < (t322.length : Int)) = true := decide_eq_true c4
        clear c4
        by_cases c5 : 0 ≤ x5_1
        · rw [if_pos c5] at H
          have c5b0 : decide (0 ≤ x5_1) = true := decide_eq_true c5
          clear c5
          obtain ⟨bq6, hbq6⟩ : ∃ b_ : Bool, b_ = (rdOf false t322 x5_1) := ⟨_, rfl⟩
          replace H : (if bq6 = true then (standbyref01_Count.l0 k1 t322 (wrap64 (x4_1 + 1)) (wrap64 (x5_1 + 1))) else (standbyref01_Count.l0 k1 t322 x4_1 (wrap64 (x5_1 + 1)))) = some r := by rw [← hbq6] at H; exact H
          have Nbq6 := Aside0.mk hbq6
          clear hbq6
          by_cases c7 : bq6 = true
          · subst c7
            have H1 : (standbyref01_Count.l0 k1 t322 (wrap64 (x4_1 + 1)) (wrap64 (x5_1 + 1))) = some r := by rw [if_pos rfl] at H; exact H
            clear H
            have H := H1
            clear H1
            have H' := Aside0.mk H
            clear H
            obtain ⟨Ao8, co8, eo8⟩ := Kd.R_slice HO_3.out
            subst eo8
            have p325 : 0 ≤ (x5_1 : Int) := of_decide_eq_true (by first | (with_reducible assumption) | assumption)
            have q325 : x5_1 < (t322.length : Int) := of_decide_eq_true (by first | (with_reducible assumption) | assumption)
            obtain ⟨ad325, e325, hx325_0⟩ := Kd.at_bool (Kd.R_reads' HO_3.out).2.2 x5_1 p325 q325
            (try rw [← Nbq6.out] at hx325_0)
            cases e325
            replace p325 := eq_true p325
            replace q325 := eq_true q325
            go_wp2
            go_roundg k1
            case measure => have := HK1.out; omega
            case rel => exact ⟨(wrap64 (x4_1 + 1)), (wrap64 (x5_1 + 1)), (by first | rfl | (simp; done) | (simp [*]; done)), (by first | rfl | (simp; done) | (simp [*]; done)), H', ⟨by have := HK1.out; omega⟩, ⟨by (with_reducible repeat (first | apply Kd.R_alloc | apply Kd.R_drewN | apply Kd.R_drew)); exact HO_3.out⟩, ⟨by repeat (first | (with_reducible first | exact HB.out | apply below_alloc | apply pw_below_drewN | apply below_drew1) | exact HB.out)⟩⟩
          · replace c7 := Bool.eq_false_iff.mpr c7
            subst c7
            have H1 : (standbyref01_Count.l0 k1 t322 x4_1 (wrap64 (x5_1 + 1))) = some r := by rw [if_neg (show ¬ (false = true) by decide)] at H; exact H
            clear H
            have H := H1
            clear H1
            have H' := Aside0.mk H
            clear H
            obtain ⟨Ao9, co9, eo9⟩ := Kd.R_slice HO_3.out
            subst eo9
            have p325 : 0 ≤ (x5_1 : Int) := of_decide_eq_true (by first | (with_reducible assumption) | assumption)
            have q325 : x5_1 < (t322.length : Int) := of_decide_eq_true (by first | (with_reducible assumption) | assumption)
            obtain ⟨ad325, e325, hx325_0⟩ := Kd.at_bool (Kd.R_reads' HO_3.out).2.2 x5_1 p325 q325
            (try rw [← Nbq6.out] at hx325_0)
            cases e325
            replace p325 := eq_true p325
            replace q325 := eq_true q325
            go_wp2
            go_roundg k1
            case measure => have := HK1.out; omega
            case rel => exact ⟨(x4_1), (wrap64 (x5_1 + 1)), (by first | rfl | (simp; done) | (simp [*]; done)), (by first | rfl | (simp; done) | (simp [*]; done)), H', ⟨by have := HK1.out; omega⟩, ⟨by (with_reducible repeat (first | apply Kd.R_alloc | apply Kd.R_drewN | apply Kd.R_drew)); exact HO_3.out⟩, ⟨by repeat (first | (with_reducible first | exact HB.out | apply below_alloc | apply pw_below_drewN | apply below_drew1) | exact HB.out)⟩⟩
        · rw [if_neg c5] at H
          exact absurd H (by simp)
      · rw [if_neg c4] at H
        have c4b0 : decide (x5_1 < (t322.length : Int)) = false := decide_eq_false c4
        clear c4
        obtain rfl := Option.some.inj H
        obtain ⟨Ao10, co10, eo10⟩ := Kd.R_slice HO_3.out
        subst eo10
        go_wp2
        go_ret
        exact ⟨by first | rfl | (simp [errW_none, errW_some] <;> rfl) | (simp [*, errW_none, errW_some] <;> rfl), by repeat (first | (with_reducible first | exact HB.out | apply below_alloc | apply pw_below_drewN | apply below_drew1) | exact HB.out)⟩
def standbyref45_Cost.l0 : Nat → List (List (S54)) → Int → Int → Option (Int)
  | 0, _, _, _ => none
  | k + 1, x0, x3, x4 => if x4 < (x0.length : Int) then (if 0 ≤ x4 then ((standbyref01_Count.f k (rd_L7 x0 x4)).bind fun t327 => (standbyref45_Cost.l0 k x0 (wrap64 (x3 + t327)) (wrap64 (x4 + 1)))) else (none)) else (some x3)
def standbyref45_Cost.f (k : Nat) (l0 : List (List (S54))) : Option (Int) := standbyref45_Cost.l0 k l0 0 0
set_option maxHeartbeats 8000000 in
set_option maxRecDepth 100000 in
theorem standbyref45_Cost.calls (k : Nat) (A0 : Option Addr) (c0 : Nat) (l0 : List (List (S54))) (r : Int) (w : World) (hr0 : Kd.C (Kd.slice 54 k54) w A0 l0.length l0) (hc0 : l0.length ≤ c0) (h : standbyref45_Cost.f k l0 = some r) :
    Calls Try.prog 15 #[.slice A0 l0.length c0] w fun e w' => e = .returned (.int .i64 r) ∧ Below w.heap.size w w' := by
  have HR0 := Aside0.mk hr0
  have HC0 := Aside0.mk hc0
  clear hr0 hc0
  have HB := Aside0.mk (Below.refl w.heap.size w)
  have H : (standbyref45_Cost.l0 k l0 0 0) = some r := h
  clear h
  have H' := Aside0.mk H
  clear H
  go_enter Try.func15, Try.ntmps15
  go_wp2
  go_loopg [3, 4] k (fun kq v3 v4 w' => ∃ (x3_1 : Int) (x4_1 : Int), v3 = .int .i64 x3_1 ∧ v4 = .int .i64 x4_1 ∧ Aside0 (standbyref45_Cost.l0 kq l0 x3_1 x4_1 = some r) ∧ Aside0 (kq ≤ k) ∧ Aside0 (Below w.heap.size w w'))
  case atStart => exact ⟨(0), (0), (by first | rfl | (simp; done) | (simp [*]; done)), (by first | rfl | (simp; done) | (simp [*]; done)), H', ⟨Nat.le_refl _⟩, ⟨by repeat (first | (with_reducible first | exact HB.out | apply below_alloc | apply pw_below_drewN | apply below_drew1) | exact HB.out)⟩⟩
  case round =>
    clear H'
    try clear c1
    obtain ⟨x3_1, x4_1, rfl, rfl, HA, HK1, HB⟩ := hrel
    cases gk with
    | zero => exact absurd HA.out (by simp [standbyref45_Cost.l0])
    | succ k1 =>
      have H := HA.out
      clear HA
      simp only [standbyref45_Cost.l0] at H
      by_cases c2 : x4_1 < (l0.length : Int)
      · rw [if_pos c2] at H
        have c2b0 : decide (x4_1 < (l0.length : Int)) = true := decide_eq_true c2
        clear c2
        by_cases c3 : 0 ≤ x4_1
        · rw [if_pos c3] at H
          have c3b0 : decide (0 ≤ x4_1) = true := decide_eq_true c3
          clear c3
          replace H := Option.bind_eq_some_iff.mp H
          obtain ⟨t327, A40, H⟩ := H
          replace H : (standbyref45_Cost.l0 k1 l0 (wrap64 (x3_1 + t327)) (wrap64 (x4_1 + 1))) = some r := H
          have A4 := Aside0.mk A40
          clear A40
          have H' := Aside0.mk H
          clear H
          have p326 : 0 ≤ (x4_1 : Int) := of_decide_eq_true (by first | (with_reducible assumption) | assumption)
          have q326 : x4_1 < (l0.length : Int) := of_decide_eq_true (by first | (with_reducible assumption) | assumption)
          obtain ⟨ad326, A326_0, c326_0, e326, hx326_0, hl326_0, hi326_0⟩ := at_L7 HR0.out x4_1 p326 q326
          cases e326
          replace hx326_0 := (HB.out.cell (World.block_lt_of_cell? w _ hx326_0)).trans hx326_0
          have HR326_0 := Aside0.mk hi326_0
          have HC326_0 := Aside0.mk hl326_0
          clear hi326_0 hl326_0
          replace p326 := eq_true p326
          replace q326 := eq_true q326
          go_wp2_with (first | ((with_reducible refine gate_callee (f := 37) rfl ?_); refine goesL_ (some 16) rfl rfl Try.func37 (by kernel_rfl) rfl #[.slice A326_0 (rd_L7 l0 x4_1).length c326_0] rfl (by (try simp only [List.map_toArray, List.map_cons, List.map_nil]); first | done | rfl | (simp only [List.length_drop, List.length_take]; rfl)) ?_; (with_reducible refine (standbyref01_Count.calls k1 _ _ (rd_L7 l0 x4_1) t327 _ ?side1 ?side2 A4.out).mono ?_); (case side1 => repeat (first | exact (Kd.C_below HR326_0.out HB.out) | (with_reducible refine Kd.C_alloc ?_ _) | (with_reducible refine Kd.C_drewN ?_ _) | (with_reducible refine Kd.C_drew ?_))); (case side2 => exact HC326_0.out); rintro e w5 ⟨rfl, hb⟩; refine ⟨_, rfl, ?_⟩; have n0_ := Aside0.mk (below_step (by repeat (first | (with_reducible first | exact HB.out | apply below_alloc | apply pw_below_drewN | apply below_drew1) | exact HB.out)) hb); clear HB; have HB := n0_; clear n0_; (try clear hb); (try clear hb2); (try clear hk); (try clear hi)))
          go_roundg k1
          case measure => have := HK1.out; omega
          case rel => exact ⟨(wrap64 (x3_1 + t327)), (wrap64 (x4_1 + 1)), (by first | rfl | (simp; done) | (simp [*]; done)), (by first | rfl | (simp; done) | (simp [*]; done)), H', ⟨by have := HK1.out; omega⟩, ⟨by repeat (first | (with_reducible first | exact HB.out | apply below_alloc | apply pw_below_drewN | apply below_drew1) | exact HB.out)⟩⟩
        · rw [if_neg c3] at H
          exact absurd H (by simp)
      · rw [if_neg c2] at H
        have c2b0 : decide (x4_1 < (l0.length : Int)) = false := decide_eq_false c2
        clear c2
        obtain rfl := Option.some.inj H
        go_wp2
        go_ret
        exact ⟨by first | rfl | (simp [errW_none, errW_some] <;> rfl) | (simp [*, errW_none, errW_some] <;> rfl), by repeat (first | (with_reducible first | exact HB.out | apply below_alloc | apply pw_below_drewN | apply below_drew1) | exact HB.out)⟩
def standbylaw45_ResyncCosts.f (k : Nat) (l0 : List (List (S54))) : Option (Bool) := (standbylaw45_awake.f k).bind fun t328 => (if t328 = true then ((standbyref45_FewLists.f k l0).bind fun t329 => (if t329 = true then ((resync_Cost.f l0).bind fun t330 => ((standbyref45_Cost.f k l0).bind fun t331 => (some (t330 == t331)))) else (some true))) else (some false))
set_option maxHeartbeats 8000000 in
set_option maxRecDepth 100000 in
theorem standbylaw45_ResyncCosts.calls (k : Nat) (A0 : Option Addr) (c0 : Nat) (l0 : List (List (S54))) (r : Bool) (w : World) (hr0 : Kd.C (Kd.slice 54 k54) w A0 l0.length l0) (hc0 : l0.length ≤ c0) (h : standbylaw45_ResyncCosts.f k l0 = some r) :
    Calls Try.prog 4 #[.slice A0 l0.length c0] w fun e w' => e = .returned (.bool r) ∧ Below w.heap.size w w' := by
  have HR0 := Aside0.mk hr0
  have HC0 := Aside0.mk hc0
  clear hr0 hc0
  have HB := Aside0.mk (Below.refl w.heap.size w)
  have H : ((standbylaw45_awake.f k).bind fun t328 => (if t328 = true then ((standbyref45_FewLists.f k l0).bind fun t329 => (if t329 = true then ((resync_Cost.f l0).bind fun t330 => ((standbyref45_Cost.f k l0).bind fun t331 => (some (t330 == t331)))) else (some true))) else (some false))) = some r := h
  clear h
  replace H := Option.bind_eq_some_iff.mp H
  obtain ⟨t328, A20, H⟩ := H
  replace H : (if t328 = true then ((standbyref45_FewLists.f k l0).bind fun t329 => (if t329 = true then ((resync_Cost.f l0).bind fun t330 => ((standbyref45_Cost.f k l0).bind fun t331 => (some (t330 == t331)))) else (some true))) else (some false)) = some r := H
  have A2 := Aside0.mk A20
  clear A20
  by_cases c3 : t328 = true
  · subst c3
    have H1 : ((standbyref45_FewLists.f k l0).bind fun t329 => (if t329 = true then ((resync_Cost.f l0).bind fun t330 => ((standbyref45_Cost.f k l0).bind fun t331 => (some (t330 == t331)))) else (some true))) = some r := by rw [if_pos rfl] at H; exact H
    clear H
    have H := H1
    clear H1
    replace H := Option.bind_eq_some_iff.mp H
    obtain ⟨t329, A40, H⟩ := H
    replace H : (if t329 = true then ((resync_Cost.f l0).bind fun t330 => ((standbyref45_Cost.f k l0).bind fun t331 => (some (t330 == t331)))) else (some true)) = some r := H
    have A4 := Aside0.mk A40
    clear A40
    by_cases c5 : t329 = true
    · subst c5
      have H1 : ((resync_Cost.f l0).bind fun t330 => ((standbyref45_Cost.f k l0).bind fun t331 => (some (t330 == t331)))) = some r := by rw [if_pos rfl] at H; exact H
      clear H
      have H := H1
      clear H1
      replace H := Option.bind_eq_some_iff.mp H
      obtain ⟨t330, A60, H⟩ := H
      replace H : ((standbyref45_Cost.f k l0).bind fun t331 => (some (t330 == t331))) = some r := H
      have A6 := Aside0.mk A60
      clear A60
      replace H := Option.bind_eq_some_iff.mp H
      obtain ⟨t331, A70, H⟩ := H
      replace H : (some (t330 == t331)) = some r := H
      have A7 := Aside0.mk A70
      clear A70
      obtain rfl := Option.some.inj H
      go_enter Try.func4, Try.ntmps4
      go_wp2_with (first | ((with_reducible refine gate_callee (f := 8) rfl ?_); refine goesL_ (some 3) rfl rfl Try.func8 (by kernel_rfl) rfl #[] rfl (by (try simp only [List.map_toArray, List.map_cons, List.map_nil]); first | done | rfl | (simp only [List.length_drop, List.length_take]; rfl)) ?_; (with_reducible refine (standbylaw45_awake.calls k  true _ A2.out).mono ?_); rintro e w8 ⟨rfl, hb⟩; refine ⟨_, rfl, ?_⟩; have n0_ := Aside0.mk (below_step (by repeat (first | (with_reducible first | exact HB.out | apply below_alloc | apply pw_below_drewN | apply below_drew1) | exact HB.out)) hb); clear HB; have HB := n0_; clear n0_; (try clear hb); (try clear hb2); (try clear hk); (try clear hi)) | (go_at_call 7; (with_reducible refine (standbyref45_FewLists.calls k _ _ l0 true _ ?side1 ?side2 A4.out).mono ?_); (case side1 => repeat (first | exact (Kd.C_below HR0.out HB.out) | (with_reducible refine Kd.C_alloc ?_ _) | (with_reducible refine Kd.C_drewN ?_ _) | (with_reducible refine Kd.C_drew ?_))); (case side2 => exact HC0.out); rintro e w' ⟨rfl, ⟨nd, rfl⟩⟩) | (go_at_call 14; (with_reducible refine (resync_Cost.calls _ _ l0 t330 _ ?side1 ?side2 A6.out).mono ?_); (case side1 => repeat (first | exact (Kd.C_below HR0.out (by repeat (first | (with_reducible first | exact HB.out | apply below_alloc | apply pw_below_drewN | apply below_drew1) | exact HB.out))) | (with_reducible refine Kd.C_alloc ?_ _) | (with_reducible refine Kd.C_drewN ?_ _) | (with_reducible refine Kd.C_drew ?_))); (case side2 => exact HC0.out); rintro e w9 ⟨rfl, hb⟩; have n0_ := Aside0.mk (below_step (by repeat (first | (with_reducible first | exact HB.out | apply below_alloc | apply pw_below_drewN | apply below_drew1) | exact HB.out)) hb); clear HB; have HB := n0_; clear n0_; (try clear hb); (try clear hb2); (try clear hk); (try clear hi)) | (go_at_call 15; (with_reducible refine (standbyref45_Cost.calls k _ _ l0 t331 _ ?side1 ?side2 A7.out).mono ?_); (case side1 => repeat (first | exact (Kd.C_below HR0.out HB.out) | (with_reducible refine Kd.C_alloc ?_ _) | (with_reducible refine Kd.C_drewN ?_ _) | (with_reducible refine Kd.C_drew ?_))); (case side2 => exact HC0.out); rintro e w10 ⟨rfl, hb⟩; have n0_ := Aside0.mk (below_step (by repeat (first | (with_reducible first | exact HB.out | apply below_alloc | apply pw_below_drewN | apply below_drew1) | exact HB.out)) hb); clear HB; have HB := n0_; clear n0_; (try clear hb); (try clear hb2); (try clear hk); (try clear hi)))
      go_ret
      exact ⟨by first | rfl | (simp [errW_none, errW_some] <;> rfl) | (simp [*, errW_none, errW_some] <;> rfl), by repeat (first | (with_reducible first | exact HB.out | apply below_alloc | apply pw_below_drewN | apply below_drew1) | exact HB.out)⟩
    · replace c5 := Bool.eq_false_iff.mpr c5
      subst c5
      have H1 : (some true) = some r := by rw [if_neg (show ¬ (false = true) by decide)] at H; exact H
      clear H
      have H := H1
      clear H1
      obtain rfl := Option.some.inj H
      go_enter Try.func4, Try.ntmps4
      go_wp2_with (first | ((with_reducible refine gate_callee (f := 8) rfl ?_); refine goesL_ (some 3) rfl rfl Try.func8 (by kernel_rfl) rfl #[] rfl (by (try simp only [List.map_toArray, List.map_cons, List.map_nil]); first | done | rfl | (simp only [List.length_drop, List.length_take]; rfl)) ?_; (with_reducible refine (standbylaw45_awake.calls k  true _ A2.out).mono ?_); rintro e w11 ⟨rfl, hb⟩; refine ⟨_, rfl, ?_⟩; have n0_ := Aside0.mk (below_step (by repeat (first | (with_reducible first | exact HB.out | apply below_alloc | apply pw_below_drewN | apply below_drew1) | exact HB.out)) hb); clear HB; have HB := n0_; clear n0_; (try clear hb); (try clear hb2); (try clear hk); (try clear hi)) | (go_at_call 7; (with_reducible refine (standbyref45_FewLists.calls k _ _ l0 false _ ?side1 ?side2 A4.out).mono ?_); (case side1 => repeat (first | exact (Kd.C_below HR0.out HB.out) | (with_reducible refine Kd.C_alloc ?_ _) | (with_reducible refine Kd.C_drewN ?_ _) | (with_reducible refine Kd.C_drew ?_))); (case side2 => exact HC0.out); rintro e w' ⟨rfl, ⟨nd, rfl⟩⟩))
      go_ret
      exact ⟨by first | rfl | (simp [errW_none, errW_some] <;> rfl) | (simp [*, errW_none, errW_some] <;> rfl), by repeat (first | (with_reducible first | exact HB.out | apply below_alloc | apply pw_below_drewN | apply below_drew1) | exact HB.out)⟩
  · replace c3 := Bool.eq_false_iff.mpr c3
    subst c3
    have H1 : (some false) = some r := by rw [if_neg (show ¬ (false = true) by decide)] at H; exact H
    clear H
    have H := H1
    clear H1
    obtain rfl := Option.some.inj H
    go_enter Try.func4, Try.ntmps4
    go_wp2_with (first | ((with_reducible refine gate_callee (f := 8) rfl ?_); refine goesL_ (some 3) rfl rfl Try.func8 (by kernel_rfl) rfl #[] rfl (by (try simp only [List.map_toArray, List.map_cons, List.map_nil]); first | done | rfl | (simp only [List.length_drop, List.length_take]; rfl)) ?_; (with_reducible refine (standbylaw45_awake.calls k  false _ A2.out).mono ?_); rintro e w12 ⟨rfl, hb⟩; refine ⟨_, rfl, ?_⟩; have n0_ := Aside0.mk (below_step (by repeat (first | (with_reducible first | exact HB.out | apply below_alloc | apply pw_below_drewN | apply below_drew1) | exact HB.out)) hb); clear HB; have HB := n0_; clear n0_; (try clear hb); (try clear hb2); (try clear hk); (try clear hi)))
    go_ret
    exact ⟨by first | rfl | (simp [errW_none, errW_some] <;> rfl) | (simp [*, errW_none, errW_some] <;> rfl), by repeat (first | (with_reducible first | exact HB.out | apply below_alloc | apply pw_below_drewN | apply below_drew1) | exact HB.out)⟩
end Go.Proofs.Ytoichhdbomcdaaa.Pq
end
