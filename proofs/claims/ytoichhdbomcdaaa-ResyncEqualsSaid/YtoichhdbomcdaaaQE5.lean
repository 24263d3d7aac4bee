import Derived.Test.YtoichhdbomcdaaaQE4
section
namespace Go.Proofs.Ytoichhdbomcdaaa.Pq
open Go.RowKit Go.Proofs.YtoichhdbomcdaaaW.PrintWords Go.Proofs.YtoichhdbomcdaaaW.PrintLast Go.Proofs.YtoichhdbomcdaaaW.PrintMore
attribute [local go_sem] max2_int min2_int max_two min_two max_three min_three max_four min_four
set_option linter.unusedVariables false
set_option linter.unusedSimpArgs false
def standbyref22_Same.f (k : Nat) (l0 : List (S57)) (l1 : List (S57)) : Option (Bool) := (standbyref03_SameWrites.f k l0 l1).bind fun t150 => (some t150)
set_option maxHeartbeats 8000000 in
set_option maxRecDepth 100000 in
theorem standbyref22_Same.calls (k : Nat) (A0 : Option Addr) (c0 : Nat) (l0 : List (S57)) (A1 : Option Addr) (c1 : Nat) (l1 : List (S57)) (r : Bool) (w : World) (hr0 : Kd.C k57 w A0 l0.length l0) (hc0 : l0.length ≤ c0) (hr1 : Kd.C k57 w A1 l1.length l1) (hc1 : l1.length ≤ c1) (h : standbyref22_Same.f k l0 l1 = some r) :
    Calls Try.prog 21 #[.slice A0 l0.length c0, .slice A1 l1.length c1] w fun e w' => e = .returned (.bool r) ∧ Below w.heap.size w w' := by
  have HR0 := Aside0.mk hr0
  have HC0 := Aside0.mk hc0
  clear hr0 hc0
  have HR1 := Aside0.mk hr1
  have HC1 := Aside0.mk hc1
  clear hr1 hc1
  have HB := Aside0.mk (Below.refl w.heap.size w)
  have H : ((standbyref03_SameWrites.f k l0 l1).bind fun t150 => (some t150)) = some r := h
  clear h
  replace H := Option.bind_eq_some_iff.mp H
  obtain ⟨t150, A30, H⟩ := H
  replace H : (some t150) = some r := H
  have A3 := Aside0.mk A30
  clear A30
  obtain rfl := Option.some.inj H
  go_enter Try.func21, Try.ntmps21
  go_wp2_with (first | ((with_reducible refine gate_callee (f := 45) rfl ?_); refine goesL_ (some 7) rfl rfl Try.func45 (by kernel_rfl) rfl #[.slice A0 l0.length c0, .slice A1 l1.length c1] rfl (by (try simp only [List.map_toArray, List.map_cons, List.map_nil]); first | done | rfl | (simp only [List.length_drop, List.length_take]; rfl)) ?_; (with_reducible refine (standbyref03_SameWrites.calls k _ _ l0 _ _ l1 t150 _ ?side1 ?side2 ?side3 ?side4 A3.out).mono ?_); (case side1 => repeat (first | exact HR0.out | (with_reducible refine Kd.C_alloc ?_ _) | (with_reducible refine Kd.C_drewN ?_ _) | (with_reducible refine Kd.C_drew ?_))); (case side2 => exact HC0.out); (case side3 => repeat (first | exact HR1.out | (with_reducible refine Kd.C_alloc ?_ _) | (with_reducible refine Kd.C_drewN ?_ _) | (with_reducible refine Kd.C_drew ?_))); (case side4 => exact HC1.out); rintro e w4 ⟨rfl, hb⟩; refine ⟨_, rfl, ?_⟩; have n0_ := Aside0.mk (below_step (by repeat (first | (with_reducible first | exact HB.out | apply below_alloc | apply pw_below_drewN | apply below_drew1) | exact HB.out)) hb); clear HB; have HB := n0_; clear n0_; (try clear hb); (try clear hb2); (try clear hk); (try clear hi)))
  go_ret
  exact ⟨by first | rfl | (simp [errW_none, errW_some] <;> rfl) | (simp [*, errW_none, errW_some] <;> rfl), by repeat (first | (with_reducible first | exact HB.out | apply below_alloc | apply pw_below_drewN | apply below_drew1) | exact HB.out)⟩
def standbylaw45_awake.j0 : Nat → List (List (S54)) → List (List (S54)) → Bool → Bool → Bool → Option (Bool)
  | 0, _, _, _, _, _ => none
  | k + 1, x6, x9, x11, x13, x83 => if x83 = true then (some false) else ((standbyref36_SameExtents.f k x9 (([(([(⟨0, 1⟩ : S54), (⟨4, 1⟩ : S54)] : List (S54)))] : List (List (S54))))).bind fun t200 => (if t200 = true then (if x11 = true then (if x13 = true then (some false) else ((resync_Cost.f x6).bind fun t201 => (if t201 = 3 then ((resync_Cost.f x9).bind fun t202 => (some (t202 == 2))) else (some false)))) else (some false)) else (some false)))
def standbylaw45_awake.f (k : Nat)  : Option (Bool) := (some (([(([(⟨1, 0, 0, 0, 0, 0, 0, 0⟩ : S52), (⟨2, 0, 0, 0, 0, 0, 0, 0⟩ : S52), (⟨0, 0, 0, 0, 0, 0, 0, 0⟩ : S52), (⟨0, 0, 0, 0, 0, 0, 0, 0⟩ : S52), (⟨3, 0, 0, 0, 0, 0, 0, 0⟩ : S52)] : List (S52)))] : List (List (S52))) : List (List (S52)))).bind fun y157 => ((some (([(([(⟨0, 0, 0, 0, 0, 0, 0, 0⟩ : S52), (⟨2, 0, 0, 0, 0, 0, 0, 0⟩ : S52), (⟨0, 0, 0, 0, 0, 0, 0, 0⟩ : S52), (⟨0, 0, 0, 0, 0, 0, 0, 0⟩ : S52), (⟨0, 0, 0, 0, 0, 0, 0, 0⟩ : S52)] : List (S52)))] : List (List (S52))) : List (List (S52)))).bind fun y163 => ((some (([(([(⟨0, 2⟩ : S54), (⟨4, 1⟩ : S54)] : List (S54)))] : List (List (S54))) : List (List (S54)))).bind fun y169 => ((resync_Writes.f y157 y169).bind fun bt172 => ((resync_Needed.f y157 y163 y169).bind fun bt176 => ((resync_Exact.f y157 y163 bt176.1).bind fun bt180 => ((resync_Exact.f y157 y163 y169).bind fun bt182 => (if (wrap64 ((wrap64 ((wrap64 (bt172.2 + bt176.2)) + bt180.2)) + bt182.2)) = 0 then ((standbyref22_Same.f k bt172.1 (([(⟨0, 0, (([(⟨1, 0, 0, 0, 0, 0, 0, 0⟩ : S52), (⟨2, 0, 0, 0, 0, 0, 0, 0⟩ : S52)] : List (S52)))⟩ : S57), (⟨0, 4, (([(⟨3, 0, 0, 0, 0, 0, 0, 0⟩ : S52)] : List (S52)))⟩ : S57)] : List (S57)))).bind fun t193 => (standbylaw45_awake.j0 k y169 bt176.1 bt180.1 bt182.1 (!t193))) else (standbylaw45_awake.j0 k y169 bt176.1 bt180.1 bt182.1 true))))))))
def standbylaw45_awake.T2 : Bool × List (List Nat × List Nat) := (true, [([], []), ([], []), ([], []), ([], []), ([], []), ([0, 1, 2, 3, 4], [0, 1, 2, 3, 4]), ([5], [5]), ([], []), ([], []), ([], []), ([], []), ([], []), ([7, 8, 9, 10, 11], [7, 8, 9, 10, 11]), ([12], [12]), ([6, 0, 1, 2, 3, 4, 5, 6], [6]), ([13, 14, 0, 1, 2, 3, 4, 5, 6, 7, 8, 9, 10, 11, 12, 13, 14], [13])])
def standbylaw45_awake.B2 : List Nat := [0, 0, 0, 0, 0, 31, 63, 0, 0, 0, 0, 0, 3968, 8064, 127, 32767]
theorem standbylaw45_awake.tab2 : rtab .any (opsOf Try.f8 2) = standbylaw45_awake.T2 := by kernel_rfl
theorem standbylaw45_awake.bits2 : waitsOk standbylaw45_awake.T2.2 standbylaw45_awake.B2 = true := by kernel_rfl
set_option maxHeartbeats 8000000 in
set_option maxRecDepth 100000 in
theorem standbylaw45_awake.calls (k : Nat)  (r : Bool) (w : World) (h : standbylaw45_awake.f k  = some r) :
    Calls Try.prog 8 #[] w fun e w' => e = .returned (.bool r) ∧ Below w.heap.size w w' := by
  have hu52 := Try.underlying52
  have hu54 := Try.underlying54
  have hu57 := Try.underlying57
  have HB := Aside0.mk (Below.refl w.heap.size w)
  have H : ((some (([(([(⟨1, 0, 0, 0, 0, 0, 0, 0⟩ : S52), (⟨2, 0, 0, 0, 0, 0, 0, 0⟩ : S52), (⟨0, 0, 0, 0, 0, 0, 0, 0⟩ : S52), (⟨0, 0, 0, 0, 0, 0, 0, 0⟩ : S52), (⟨3, 0, 0, 0, 0, 0, 0, 0⟩ : S52)] : List (S52)))] : List (List (S52))) : List (List (S52)))).bind fun y157 => ((some (([(([(⟨0, 0, 0, 0, 0, 0, 0, 0⟩ : S52), (⟨2, 0, 0, 0, 0, 0, 0, 0⟩ : S52), (⟨0, 0, 0, 0, 0, 0, 0, 0⟩ : S52), (⟨0, 0, 0, 0, 0, 0, 0, 0⟩ : S52), (⟨0, 0, 0, 0, 0, 0, 0, 0⟩ : S52)] : List (S52)))] : List (List (S52))) : List (List (S52)))).bind fun y163 => ((some (([(([(⟨0, 2⟩ : S54), (⟨4, 1⟩ : S54)] : List (S54)))] : List (List (S54))) : List (List (S54)))).bind fun y169 => ((resync_Writes.f y157 y169).bind fun bt172 => ((resync_Needed.f y157 y163 y169).bind fun bt176 => ((resync_Exact.f y157 y163 bt176.1).bind fun bt180 => ((resync_Exact.f y157 y163 y169).bind fun bt182 => (if (wrap64 ((wrap64 ((wrap64 (bt172.2 + bt176.2)) + bt180.2)) + bt182.2)) = 0 then ((standbyref22_Same.f k bt172.1 (([(⟨0, 0, (([(⟨1, 0, 0, 0, 0, 0, 0, 0⟩ : S52), (⟨2, 0, 0, 0, 0, 0, 0, 0⟩ : S52)] : List (S52)))⟩ : S57), (⟨0, 4, (([(⟨3, 0, 0, 0, 0, 0, 0, 0⟩ : S52)] : List (S52)))⟩ : S57)] : List (S57)))).bind fun t193 => (standbylaw45_awake.j0 k y169 bt176.1 bt180.1 bt182.1 (!t193))) else (standbylaw45_awake.j0 k y169 bt176.1 bt180.1 bt182.1 true))))))))) = some r := h
  clear h
  obtain ⟨y154, hy154⟩ : ∃ y_ : List (S52), y_ = (([(⟨1, 0, 0, 0, 0, 0, 0, 0⟩ : S52), (⟨2, 0, 0, 0, 0, 0, 0, 0⟩ : S52), (⟨0, 0, 0, 0, 0, 0, 0, 0⟩ : S52), (⟨0, 0, 0, 0, 0, 0, 0, 0⟩ : S52), (⟨3, 0, 0, 0, 0, 0, 0, 0⟩ : S52)] : List (S52))) := ⟨_, rfl⟩
  replace H : ((some (([y154] : List (List (S52))) : List (List (S52)))).bind fun y157 => ((some (([(([(⟨0, 0, 0, 0, 0, 0, 0, 0⟩ : S52), (⟨2, 0, 0, 0, 0, 0, 0, 0⟩ : S52), (⟨0, 0, 0, 0, 0, 0, 0, 0⟩ : S52), (⟨0, 0, 0, 0, 0, 0, 0, 0⟩ : S52), (⟨0, 0, 0, 0, 0, 0, 0, 0⟩ : S52)] : List (S52)))] : List (List (S52))) : List (List (S52)))).bind fun y163 => ((some (([(([(⟨0, 2⟩ : S54), (⟨4, 1⟩ : S54)] : List (S54)))] : List (List (S54))) : List (List (S54)))).bind fun y169 => ((resync_Writes.f y157 y169).bind fun bt172 => ((resync_Needed.f y157 y163 y169).bind fun bt176 => ((resync_Exact.f y157 y163 bt176.1).bind fun bt180 => ((resync_Exact.f y157 y163 y169).bind fun bt182 => (if (wrap64 ((wrap64 ((wrap64 (bt172.2 + bt176.2)) + bt180.2)) + bt182.2)) = 0 then ((standbyref22_Same.f k bt172.1 (([(⟨0, 0, (([(⟨1, 0, 0, 0, 0, 0, 0, 0⟩ : S52), (⟨2, 0, 0, 0, 0, 0, 0, 0⟩ : S52)] : List (S52)))⟩ : S57), (⟨0, 4, (([(⟨3, 0, 0, 0, 0, 0, 0, 0⟩ : S52)] : List (S52)))⟩ : S57)] : List (S57)))).bind fun t193 => (standbylaw45_awake.j0 k y169 bt176.1 bt180.1 bt182.1 (!t193))) else (standbylaw45_awake.j0 k y169 bt176.1 bt180.1 bt182.1 true))))))))) = some r := by first | (rw [hy154]; with_reducible exact H) | (have H2_ := (Option.bind_some _ _).symm.trans H; rw [hy154]; with_reducible exact H2_) | (have H2_ := (Option.bind_some _ _).symm.trans H; with_reducible exact H2_) | with_reducible exact H | (rw [hy154]; exact H) | exact H
  have Ny154 := Aside0.mk hy154
  clear hy154
  obtain ⟨y157, hy157⟩ : ∃ y_ : List (List (S52)), y_ = (([y154] : List (List (S52)))) := ⟨_, rfl⟩
  replace H : ((some (([(([(⟨0, 0, 0, 0, 0, 0, 0, 0⟩ : S52), (⟨2, 0, 0, 0, 0, 0, 0, 0⟩ : S52), (⟨0, 0, 0, 0, 0, 0, 0, 0⟩ : S52), (⟨0, 0, 0, 0, 0, 0, 0, 0⟩ : S52), (⟨0, 0, 0, 0, 0, 0, 0, 0⟩ : S52)] : List (S52)))] : List (List (S52))) : List (List (S52)))).bind fun y163 => ((some (([(([(⟨0, 2⟩ : S54), (⟨4, 1⟩ : S54)] : List (S54)))] : List (List (S54))) : List (List (S54)))).bind fun y169 => ((resync_Writes.f y157 y169).bind fun bt172 => ((resync_Needed.f y157 y163 y169).bind fun bt176 => ((resync_Exact.f y157 y163 bt176.1).bind fun bt180 => ((resync_Exact.f y157 y163 y169).bind fun bt182 => (if (wrap64 ((wrap64 ((wrap64 (bt172.2 + bt176.2)) + bt180.2)) + bt182.2)) = 0 then ((standbyref22_Same.f k bt172.1 (([(⟨0, 0, (([(⟨1, 0, 0, 0, 0, 0, 0, 0⟩ : S52), (⟨2, 0, 0, 0, 0, 0, 0, 0⟩ : S52)] : List (S52)))⟩ : S57), (⟨0, 4, (([(⟨3, 0, 0, 0, 0, 0, 0, 0⟩ : S52)] : List (S52)))⟩ : S57)] : List (S57)))).bind fun t193 => (standbylaw45_awake.j0 k y169 bt176.1 bt180.1 bt182.1 (!t193))) else (standbylaw45_awake.j0 k y169 bt176.1 bt180.1 bt182.1 true)))))))) = some r := by first | (rw [hy157]; with_reducible exact H) | (have H2_ := (Option.bind_some _ _).symm.trans H; rw [hy157]; with_reducible exact H2_) | (have H2_ := (Option.bind_some _ _).symm.trans H; with_reducible exact H2_) | with_reducible exact H | (rw [hy157]; exact H) | exact H
  have Ny157 := Aside0.mk hy157
  clear hy157
  obtain ⟨y160, hy160⟩ : ∃ y_ : List (S52), y_ = (([(⟨0, 0, 0, 0, 0, 0, 0, 0⟩ : S52), (⟨2, 0, 0, 0, 0, 0, 0, 0⟩ : S52), (⟨0, 0, 0, 0, 0, 0, 0, 0⟩ : S52), (⟨0, 0, 0, 0, 0, 0, 0, 0⟩ : S52), (⟨0, 0, 0, 0, 0, 0, 0, 0⟩ : S52)] : List (S52))) := ⟨_, rfl⟩
  replace H : ((some (([y160] : List (List (S52))) : List (List (S52)))).bind fun y163 => ((some (([(([(⟨0, 2⟩ : S54), (⟨4, 1⟩ : S54)] : List (S54)))] : List (List (S54))) : List (List (S54)))).bind fun y169 => ((resync_Writes.f y157 y169).bind fun bt172 => ((resync_Needed.f y157 y163 y169).bind fun bt176 => ((resync_Exact.f y157 y163 bt176.1).bind fun bt180 => ((resync_Exact.f y157 y163 y169).bind fun bt182 => (if (wrap64 ((wrap64 ((wrap64 (bt172.2 + bt176.2)) + bt180.2)) + bt182.2)) = 0 then ((standbyref22_Same.f k bt172.1 (([(⟨0, 0, (([(⟨1, 0, 0, 0, 0, 0, 0, 0⟩ : S52), (⟨2, 0, 0, 0, 0, 0, 0, 0⟩ : S52)] : List (S52)))⟩ : S57), (⟨0, 4, (([(⟨3, 0, 0, 0, 0, 0, 0, 0⟩ : S52)] : List (S52)))⟩ : S57)] : List (S57)))).bind fun t193 => (standbylaw45_awake.j0 k y169 bt176.1 bt180.1 bt182.1 (!t193))) else (standbylaw45_awake.j0 k y169 bt176.1 bt180.1 bt182.1 true)))))))) = some r := by first | (rw [hy160]; with_reducible exact H) | (have H2_ := (Option.bind_some _ _).symm.trans H; rw [hy160]; with_reducible exact H2_) | (have H2_ := (Option.bind_some _ _).symm.trans H; with_reducible exact H2_) | with_reducible exact H | (rw [hy160]; exact H) | exact H
  have Ny160 := Aside0.mk hy160
  clear hy160
  obtain ⟨y163, hy163⟩ : ∃ y_ : List (List (S52)), y_ = (([y160] : List (List (S52)))) := ⟨_, rfl⟩
  replace H : ((some (([(([(⟨0, 2⟩ : S54), (⟨4, 1⟩ : S54)] : List (S54)))] : List (List (S54))) : List (List (S54)))).bind fun y169 => ((resync_Writes.f y157 y169).bind fun bt172 => ((resync_Needed.f y157 y163 y169).bind fun bt176 => ((resync_Exact.f y157 y163 bt176.1).bind fun bt180 => ((resync_Exact.f y157 y163 y169).bind fun bt182 => (if (wrap64 ((wrap64 ((wrap64 (bt172.2 + bt176.2)) + bt180.2)) + bt182.2)) = 0 then ((standbyref22_Same.f k bt172.1 (([(⟨0, 0, (([(⟨1, 0, 0, 0, 0, 0, 0, 0⟩ : S52), (⟨2, 0, 0, 0, 0, 0, 0, 0⟩ : S52)] : List (S52)))⟩ : S57), (⟨0, 4, (([(⟨3, 0, 0, 0, 0, 0, 0, 0⟩ : S52)] : List (S52)))⟩ : S57)] : List (S57)))).bind fun t193 => (standbylaw45_awake.j0 k y169 bt176.1 bt180.1 bt182.1 (!t193))) else (standbylaw45_awake.j0 k y169 bt176.1 bt180.1 bt182.1 true))))))) = some r := by first | (rw [hy163]; with_reducible exact H) | (have H2_ := (Option.bind_some _ _).symm.trans H; rw [hy163]; with_reducible exact H2_) | (have H2_ := (Option.bind_some _ _).symm.trans H; with_reducible exact H2_) | with_reducible exact H | (rw [hy163]; exact H) | exact H
  have Ny163 := Aside0.mk hy163
  clear hy163
  obtain ⟨y166, hy166⟩ : ∃ y_ : List (S54), y_ = (([(⟨0, 2⟩ : S54), (⟨4, 1⟩ : S54)] : List (S54))) := ⟨_, rfl⟩
  replace H : ((some (([y166] : List (List (S54))) : List (List (S54)))).bind fun y169 => ((resync_Writes.f y157 y169).bind fun bt172 => ((resync_Needed.f y157 y163 y169).bind fun bt176 => ((resync_Exact.f y157 y163 bt176.1).bind fun bt180 => ((resync_Exact.f y157 y163 y169).bind fun bt182 => (if (wrap64 ((wrap64 ((wrap64 (bt172.2 + bt176.2)) + bt180.2)) + bt182.2)) = 0 then ((standbyref22_Same.f k bt172.1 (([(⟨0, 0, (([(⟨1, 0, 0, 0, 0, 0, 0, 0⟩ : S52), (⟨2, 0, 0, 0, 0, 0, 0, 0⟩ : S52)] : List (S52)))⟩ : S57), (⟨0, 4, (([(⟨3, 0, 0, 0, 0, 0, 0, 0⟩ : S52)] : List (S52)))⟩ : S57)] : List (S57)))).bind fun t193 => (standbylaw45_awake.j0 k y169 bt176.1 bt180.1 bt182.1 (!t193))) else (standbylaw45_awake.j0 k y169 bt176.1 bt180.1 bt182.1 true))))))) = some r := by first | (rw [hy166]; with_reducible exact H) | (have H2_ := (Option.bind_some _ _).symm.trans H; rw [hy166]; with_reducible exact H2_) | (have H2_ := (Option.bind_some _ _).symm.trans H; with_reducible exact H2_) | with_reducible exact H | (rw [hy166]; exact H) | exact H
  have Ny166 := Aside0.mk hy166
  clear hy166
  obtain ⟨y169, hy169⟩ : ∃ y_ : List (List (S54)), y_ = (([y166] : List (List (S54)))) := ⟨_, rfl⟩
  replace H : ((resync_Writes.f y157 y169).bind fun bt172 => ((resync_Needed.f y157 y163 y169).bind fun bt176 => ((resync_Exact.f y157 y163 bt176.1).bind fun bt180 => ((resync_Exact.f y157 y163 y169).bind fun bt182 => (if (wrap64 ((wrap64 ((wrap64 (bt172.2 + bt176.2)) + bt180.2)) + bt182.2)) = 0 then ((standbyref22_Same.f k bt172.1 (([(⟨0, 0, (([(⟨1, 0, 0, 0, 0, 0, 0, 0⟩ : S52), (⟨2, 0, 0, 0, 0, 0, 0, 0⟩ : S52)] : List (S52)))⟩ : S57), (⟨0, 4, (([(⟨3, 0, 0, 0, 0, 0, 0, 0⟩ : S52)] : List (S52)))⟩ : S57)] : List (S57)))).bind fun t193 => (standbylaw45_awake.j0 k y169 bt176.1 bt180.1 bt182.1 (!t193))) else (standbylaw45_awake.j0 k y169 bt176.1 bt180.1 bt182.1 true)))))) = some r := by first | (rw [hy169]; with_reducible exact H) | (have H2_ := (Option.bind_some _ _).symm.trans H; rw [hy169]; with_reducible exact H2_) | (have H2_ := (Option.bind_some _ _).symm.trans H; with_reducible exact H2_) | with_reducible exact H | (rw [hy169]; exact H) | exact H
  have Ny169 := Aside0.mk hy169
  clear hy169
  replace H := Option.bind_eq_some_iff.mp H
  obtain ⟨⟨t172, t173⟩, A10, H⟩ := H
  replace H : ((resync_Needed.f y157 y163 y169).bind fun bt176 => ((resync_Exact.f y157 y163 bt176.1).bind fun bt180 => ((resync_Exact.f y157 y163 y169).bind fun bt182 => (if (wrap64 ((wrap64 ((wrap64 (t173 + bt176.2)) + bt180.2)) + bt182.2)) = 0 then ((standbyref22_Same.f k t172 (([(⟨0, 0, (([(⟨1, 0, 0, 0, 0, 0, 0, 0⟩ : S52), (⟨2, 0, 0, 0, 0, 0, 0, 0⟩ : S52)] : List (S52)))⟩ : S57), (⟨0, 4, (([(⟨3, 0, 0, 0, 0, 0, 0, 0⟩ : S52)] : List (S52)))⟩ : S57)] : List (S57)))).bind fun t193 => (standbylaw45_awake.j0 k y169 bt176.1 bt180.1 bt182.1 (!t193))) else (standbylaw45_awake.j0 k y169 bt176.1 bt180.1 bt182.1 true))))) = some r := H
  have A1 := Aside0.mk A10
  clear A10
  replace H := Option.bind_eq_some_iff.mp H
  obtain ⟨⟨t176, t177⟩, A20, H⟩ := H
  replace H : ((resync_Exact.f y157 y163 t176).bind fun bt180 => ((resync_Exact.f y157 y163 y169).bind fun bt182 => (if (wrap64 ((wrap64 ((wrap64 (t173 + t177)) + bt180.2)) + bt182.2)) = 0 then ((standbyref22_Same.f k t172 (([(⟨0, 0, (([(⟨1, 0, 0, 0, 0, 0, 0, 0⟩ : S52), (⟨2, 0, 0, 0, 0, 0, 0, 0⟩ : S52)] : List (S52)))⟩ : S57), (⟨0, 4, (([(⟨3, 0, 0, 0, 0, 0, 0, 0⟩ : S52)] : List (S52)))⟩ : S57)] : List (S57)))).bind fun t193 => (standbylaw45_awake.j0 k y169 t176 bt180.1 bt182.1 (!t193))) else (standbylaw45_awake.j0 k y169 t176 bt180.1 bt182.1 true)))) = some r := H
  have A2 := Aside0.mk A20
  clear A20
  replace H := Option.bind_eq_some_iff.mp H
  obtain ⟨⟨t180, t181⟩, A30, H⟩ := H
  replace H : ((resync_Exact.f y157 y163 y169).bind fun bt182 => (if (wrap64 ((wrap64 ((wrap64 (t173 + t177)) + t181)) + bt182.2)) = 0 then ((standbyref22_Same.f k t172 (([(⟨0, 0, (([(⟨1, 0, 0, 0, 0, 0, 0, 0⟩ : S52), (⟨2, 0, 0, 0, 0, 0, 0, 0⟩ : S52)] : List (S52)))⟩ : S57), (⟨0, 4, (([(⟨3, 0, 0, 0, 0, 0, 0, 0⟩ : S52)] : List (S52)))⟩ : S57)] : List (S57)))).bind fun t193 => (standbylaw45_awake.j0 k y169 t176 t180 bt182.1 (!t193))) else (standbylaw45_awake.j0 k y169 t176 t180 bt182.1 true))) = some r := H
  have A3 := Aside0.mk A30
  clear A30
  replace H := Option.bind_eq_some_iff.mp H
  obtain ⟨⟨t182, t183⟩, A40, H⟩ := H
  replace H : (if (wrap64 ((wrap64 ((wrap64 (t173 + t177)) + t181)) + t183)) = 0 then ((standbyref22_Same.f k t172 (([(⟨0, 0, (([(⟨1, 0, 0, 0, 0, 0, 0, 0⟩ : S52), (⟨2, 0, 0, 0, 0, 0, 0, 0⟩ : S52)] : List (S52)))⟩ : S57), (⟨0, 4, (([(⟨3, 0, 0, 0, 0, 0, 0, 0⟩ : S52)] : List (S52)))⟩ : S57)] : List (S57)))).bind fun t193 => (standbylaw45_awake.j0 k y169 t176 t180 t182 (!t193))) else (standbylaw45_awake.j0 k y169 t176 t180 t182 true)) = some r := H
  have A4 := Aside0.mk A40
  clear A40
  have HC5 := Aside0.mk H
  clear H
  go_enter Try.func8, Try.ntmps8
  try go_wp2_with (first | ((with_reducible refine gate_dst (N := 1) rfl ?_); (try (refine gate_guard (by rfl) ?_; dsimp only)); refine box_event ?hg (N := 1) ?hd (cs := #[.int .u8 0, .int .u8 0, .int .u8 0, .int .u8 0, .int .u8 0, .int .u8 0, .int .u8 0, .int .u8 0]) (t := 52) ?hr ?_; (case hd => rfl); (case hg => rfl); (case hr => first | (go_simp; done) | (go_simp; rfl)); intro gb151 hg w6 hbox hb; have n0_ := Aside0.mk (below_step (by repeat (first | (with_reducible first | exact HB.out | apply below_alloc | apply pw_below_drewN | apply below_drew1) | exact HB.out)) hb); have n1_ := Aside0.mk (hbox); have n2_ := Aside0.mk ((by rw [hg]; exact (below_size (by repeat (first | (with_reducible first | exact HB.out | apply below_alloc | apply pw_below_drewN | apply below_drew1) | exact HB.out))) : w.heap.size ≤ gb151)); have n3_ := Aside0.mk ((by rw [hg]; exact (below_size (by repeat (first | (with_reducible first | exact HB.out | apply below_alloc | apply pw_below_drewN | apply below_drew1) | exact HB.out))) : w.heap.size ≤ gb151)); clear HB; have HB := n0_; have BK151 := n1_; have GW151 := n2_; have GE151 := n3_; clear n0_ n1_ n2_ n3_; clear hb hbox hg) | ((with_reducible refine gate_dst (N := 2) rfl ?_); (try (refine gate_guard (by rfl) ?_; dsimp only)); refine box_event ?hg (N := 2) ?hd (cs := #[.int .u8 0, .int .u8 0, .int .u8 0, .int .u8 0, .int .u8 0, .int .u8 0, .int .u8 0, .int .u8 0]) (t := 52) ?hr ?_; (case hd => rfl); (case hg => rfl); (case hr => first | (go_simp; done) | (go_simp; rfl)); intro gb152 hg w7 hbox hb; have n0_ := Aside0.mk (blk_below (g := gb151) (o := .cells #[.int .u8 0, .int .u8 0, .int .u8 0, .int .u8 0, .int .u8 0, .int .u8 0, .int .u8 0, .int .u8 0] 52 (0, 0)) (by (with_reducible repeat (first | refine blk_drewN ?_ _ | refine blk_drew ?_ | refine blk_alloc ?_ _)); exact BK151.out) hb); have n1_ := Aside0.mk (below_step (by repeat (first | (with_reducible first | exact HB.out | apply below_alloc | apply pw_below_drewN | apply below_drew1 | refine below_set ?_ GE151.out) | exact HB.out)) hb); have n2_ := Aside0.mk (hbox); have n3_ := Aside0.mk ((by rw [hg]; exact (below_size (by repeat (first | (with_reducible first | exact HB.out | apply below_alloc | apply pw_below_drewN | apply below_drew1 | refine below_set ?_ GE151.out) | exact HB.out))) : w.heap.size ≤ gb152)); have n4_ := Aside0.mk ((by rw [hg]; exact (below_size (by repeat (first | (with_reducible first | exact HB.out | apply below_alloc | apply pw_below_drewN | apply below_drew1 | refine below_set ?_ GE151.out) | exact HB.out))) : w.heap.size ≤ gb152)); have n5_ := Aside0.mk ((by rw [hg]; exact Nat.ne_of_lt (blk_lt (g := gb151) (o := .cells #[.int .u8 0, .int .u8 0, .int .u8 0, .int .u8 0, .int .u8 0, .int .u8 0, .int .u8 0, .int .u8 0] 52 (0, 0)) (by (with_reducible repeat (first | refine blk_drewN ?_ _ | refine blk_drew ?_ | refine blk_alloc ?_ _)); exact BK151.out)) : gb151 ≠ gb152)); have n6_ := Aside0.mk ((by rw [hg]; exact Nat.ne_of_gt (blk_lt (g := gb151) (o := .cells #[.int .u8 0, .int .u8 0, .int .u8 0, .int .u8 0, .int .u8 0, .int .u8 0, .int .u8 0, .int .u8 0] 52 (0, 0)) (by (with_reducible repeat (first | refine blk_drewN ?_ _ | refine blk_drew ?_ | refine blk_alloc ?_ _)); exact BK151.out)) : gb152 ≠ gb151)); clear BK151; clear HB; have BK151 := n0_; have HB := n1_; have BK152 := n2_; have GW152 := n3_; have GE152 := n4_; have NB151_152 := n5_; have NB152_151 := n6_; clear n0_ n1_ n2_ n3_ n4_ n5_ n6_; clear hb hbox hg) | ((with_reducible refine gate_dst (N := 3) rfl ?_); (try (refine gate_guard (by rfl) ?_; dsimp only)); refine box_event ?hg (N := 3) ?hd (cs := #[.int .u8 0, .int .u8 0, .int .u8 0, .int .u8 0, .int .u8 0, .int .u8 0, .int .u8 0, .int .u8 0]) (t := 52) ?hr ?_; (case hd => rfl); (case hg => rfl); (case hr => first | (go_simp; done) | (go_simp; rfl)); intro gb153 hg w8 hbox hb; have n0_ := Aside0.mk (blk_below (g := gb151) (o := .cells #[.int .u8 0, .int .u8 0, .int .u8 0, .int .u8 0, .int .u8 0, .int .u8 0, .int .u8 0, .int .u8 0] 52 (0, 0)) (by (with_reducible repeat (first | refine blk_drewN ?_ _ | refine blk_drew ?_ | refine blk_alloc ?_ _)); exact BK151.out) hb); have n1_ := Aside0.mk (blk_below (g := gb152) (o := .cells #[.int .u8 0, .int .u8 0, .int .u8 0, .int .u8 0, .int .u8 0, .int .u8 0, .int .u8 0, .int .u8 0] 52 (0, 0)) (by (with_reducible repeat (first | refine blk_drewN ?_ _ | refine blk_drew ?_ | refine blk_alloc ?_ _)); exact BK152.out) hb); have n2_ := Aside0.mk (below_step (by repeat (first | (with_reducible first | exact HB.out | apply below_alloc | apply pw_below_drewN | apply below_drew1 | refine below_set ?_ GE151.out | refine below_set ?_ GE152.out) | exact HB.out)) hb); have n3_ := Aside0.mk (hbox); have n4_ := Aside0.mk ((by rw [hg]; exact (below_size (by repeat (first | (with_reducible first | exact HB.out | apply below_alloc | apply pw_below_drewN | apply below_drew1 | refine below_set ?_ GE151.out | refine below_set ?_ GE152.out) | exact HB.out))) : w.heap.size ≤ gb153)); have n5_ := Aside0.mk ((by rw [hg]; exact (below_size (by repeat (first | (with_reducible first | exact HB.out | apply below_alloc | apply pw_below_drewN | apply below_drew1 | refine below_set ?_ GE151.out | refine below_set ?_ GE152.out) | exact HB.out))) : w.heap.size ≤ gb153)); have n6_ := Aside0.mk ((by rw [hg]; exact Nat.ne_of_lt (blk_lt (g := gb151) (o := .cells #[.int .u8 0, .int .u8 0, .int .u8 0, .int .u8 0, .int .u8 0, .int .u8 0, .int .u8 0, .int .u8 0] 52 (0, 0)) (by (with_reducible repeat (first | refine blk_drewN ?_ _ | refine blk_drew ?_ | refine blk_alloc ?_ _)); exact BK151.out)) : gb151 ≠ gb153)); have n7_ := Aside0.mk ((by rw [hg]; exact Nat.ne_of_gt (blk_lt (g := gb151) (o := .cells #[.int .u8 0, .int .u8 0, .int .u8 0, .int .u8 0, .int .u8 0, .int .u8 0, .int .u8 0, .int .u8 0] 52 (0, 0)) (by (with_reducible repeat (first | refine blk_drewN ?_ _ | refine blk_drew ?_ | refine blk_alloc ?_ _)); exact BK151.out)) : gb153 ≠ gb151)); have n8_ := Aside0.mk ((by rw [hg]; exact Nat.ne_of_lt (blk_lt (g := gb152) (o := .cells #[.int .u8 0, .int .u8 0, .int .u8 0, .int .u8 0, .int .u8 0, .int .u8 0, .int .u8 0, .int .u8 0] 52 (0, 0)) (by (with_reducible repeat (first | refine blk_drewN ?_ _ | refine blk_drew ?_ | refine blk_alloc ?_ _)); exact BK152.out)) : gb152 ≠ gb153)); have n9_ := Aside0.mk ((by rw [hg]; exact Nat.ne_of_gt (blk_lt (g := gb152) (o := .cells #[.int .u8 0, .int .u8 0, .int .u8 0, .int .u8 0, .int .u8 0, .int .u8 0, .int .u8 0, .int .u8 0] 52 (0, 0)) (by (with_reducible repeat (first | refine blk_drewN ?_ _ | refine blk_drew ?_ | refine blk_alloc ?_ _)); exact BK152.out)) : gb153 ≠ gb152)); clear BK151; clear BK152; clear HB; have BK151 := n0_; have BK152 := n1_; have HB := n2_; have BK153 := n3_; have GW153 := n4_; have GE153 := n5_; have NB151_153 := n6_; have NB153_151 := n7_; have NB152_153 := n8_; have NB153_152 := n9_; clear n0_ n1_ n2_ n3_ n4_ n5_ n6_ n7_ n8_ n9_; clear hb hbox hg; have hnb9 := NB151_152.out; have hnc9 := NB152_151.out; have hnb10 := NB151_153.out; have hnc10 := NB153_151.out; have hcz11_0 : w8.cell? ⟨gb151, 0, none⟩ = some (.int .u8 0) := (blk_cell BK151.out 0).trans rfl; have hcz11_1 : w8.cell? ⟨gb151, 1, none⟩ = some (.int .u8 0) := (blk_cell BK151.out 1).trans rfl; have hcz11_2 : w8.cell? ⟨gb151, 2, none⟩ = some (.int .u8 0) := (blk_cell BK151.out 2).trans rfl; have hcz11_3 : w8.cell? ⟨gb151, 3, none⟩ = some (.int .u8 0) := (blk_cell BK151.out 3).trans rfl; have hcz11_4 : w8.cell? ⟨gb151, 4, none⟩ = some (.int .u8 0) := (blk_cell BK151.out 4).trans rfl; have hcz11_5 : w8.cell? ⟨gb151, 5, none⟩ = some (.int .u8 0) := (blk_cell BK151.out 5).trans rfl; have hcz11_6 : w8.cell? ⟨gb151, 6, none⟩ = some (.int .u8 0) := (blk_cell BK151.out 6).trans rfl; have hcz11_7 : w8.cell? ⟨gb151, 7, none⟩ = some (.int .u8 0) := (blk_cell BK151.out 7).trans rfl; have hfz11_0 := blk_frozen BK151.out 0; have hfz11_1 := blk_frozen BK151.out 1; have hfz11_2 := blk_frozen BK151.out 2; have hfz11_3 := blk_frozen BK151.out 3; have hfz11_4 := blk_frozen BK151.out 4; have hfz11_5 := blk_frozen BK151.out 5; have hfz11_6 := blk_frozen BK151.out 6; have hfz11_7 := blk_frozen BK151.out 7; have hnb12 := NB152_153.out; have hnc12 := NB153_152.out; have hcz13_0 : w8.cell? ⟨gb152, 0, none⟩ = some (.int .u8 0) := (blk_cell BK152.out 0).trans rfl; have hcz13_1 : w8.cell? ⟨gb152, 1, none⟩ = some (.int .u8 0) := (blk_cell BK152.out 1).trans rfl; have hcz13_2 : w8.cell? ⟨gb152, 2, none⟩ = some (.int .u8 0) := (blk_cell BK152.out 2).trans rfl; have hcz13_3 : w8.cell? ⟨gb152, 3, none⟩ = some (.int .u8 0) := (blk_cell BK152.out 3).trans rfl; have hcz13_4 : w8.cell? ⟨gb152, 4, none⟩ = some (.int .u8 0) := (blk_cell BK152.out 4).trans rfl; have hcz13_5 : w8.cell? ⟨gb152, 5, none⟩ = some (.int .u8 0) := (blk_cell BK152.out 5).trans rfl; have hcz13_6 : w8.cell? ⟨gb152, 6, none⟩ = some (.int .u8 0) := (blk_cell BK152.out 6).trans rfl; have hcz13_7 : w8.cell? ⟨gb152, 7, none⟩ = some (.int .u8 0) := (blk_cell BK152.out 7).trans rfl; have hfz13_0 := blk_frozen BK152.out 0; have hfz13_1 := blk_frozen BK152.out 1; have hfz13_2 := blk_frozen BK152.out 2; have hfz13_3 := blk_frozen BK152.out 3; have hfz13_4 := blk_frozen BK152.out 4; have hfz13_5 := blk_frozen BK152.out 5; have hfz13_6 := blk_frozen BK152.out 6; have hfz13_7 := blk_frozen BK152.out 7; have hcz14_0 : w8.cell? ⟨gb153, 0, none⟩ = some (.int .u8 0) := (blk_cell BK153.out 0).trans rfl; have hcz14_1 : w8.cell? ⟨gb153, 1, none⟩ = some (.int .u8 0) := (blk_cell BK153.out 1).trans rfl; have hcz14_2 : w8.cell? ⟨gb153, 2, none⟩ = some (.int .u8 0) := (blk_cell BK153.out 2).trans rfl; have hcz14_3 : w8.cell? ⟨gb153, 3, none⟩ = some (.int .u8 0) := (blk_cell BK153.out 3).trans rfl; have hcz14_4 : w8.cell? ⟨gb153, 4, none⟩ = some (.int .u8 0) := (blk_cell BK153.out 4).trans rfl; have hcz14_5 : w8.cell? ⟨gb153, 5, none⟩ = some (.int .u8 0) := (blk_cell BK153.out 5).trans rfl; have hcz14_6 : w8.cell? ⟨gb153, 6, none⟩ = some (.int .u8 0) := (blk_cell BK153.out 6).trans rfl; have hcz14_7 : w8.cell? ⟨gb153, 7, none⟩ = some (.int .u8 0) := (blk_cell BK153.out 7).trans rfl; have hfz14_0 := blk_frozen BK153.out 0; have hfz14_1 := blk_frozen BK153.out 1; have hfz14_2 := blk_frozen BK153.out 2; have hfz14_3 := blk_frozen BK153.out 3; have hfz14_4 := blk_frozen BK153.out 4; have hfz14_5 := blk_frozen BK153.out 5; have hfz14_6 := blk_frozen BK153.out 6; have hfz14_7 := blk_frozen BK153.out 7))
  have n0_ : Aside0 (((((((((((((((((((((((((w8.setCell ⟨gb151, 0, none⟩ (.int .u8 1)).setCell ⟨gb151, 1, none⟩ (.int .u8 0)).setCell ⟨gb151, 2, none⟩ (.int .u8 0)).setCell ⟨gb151, 3, none⟩ (.int .u8 0)).setCell ⟨gb151, 4, none⟩ (.int .u8 0)).setCell ⟨gb151, 5, none⟩ (.int .u8 0)).setCell ⟨gb151, 6, none⟩ (.int .u8 0)).setCell ⟨gb151, 7, none⟩ (.int .u8 0)).setCell ⟨gb152, 0, none⟩ (.int .u8 2)).setCell ⟨gb152, 1, none⟩ (.int .u8 0)).setCell ⟨gb152, 2, none⟩ (.int .u8 0)).setCell ⟨gb152, 3, none⟩ (.int .u8 0)).setCell ⟨gb152, 4, none⟩ (.int .u8 0)).setCell ⟨gb152, 5, none⟩ (.int .u8 0)).setCell ⟨gb152, 6, none⟩ (.int .u8 0)).setCell ⟨gb152, 7, none⟩ (.int .u8 0)).setCell ⟨gb153, 0, none⟩ (.int .u8 3)).setCell ⟨gb153, 1, none⟩ (.int .u8 0)).setCell ⟨gb153, 2, none⟩ (.int .u8 0)).setCell ⟨gb153, 3, none⟩ (.int .u8 0)).setCell ⟨gb153, 4, none⟩ (.int .u8 0)).setCell ⟨gb153, 5, none⟩ (.int .u8 0)).setCell ⟨gb153, 6, none⟩ (.int .u8 0)).setCell ⟨gb153, 7, none⟩ (.int .u8 0)).heap[gb151]? = some (.cells #[.int .u8 1, .int .u8 0, .int .u8 0, .int .u8 0, .int .u8 0, .int .u8 0, .int .u8 0, .int .u8 0] 52 (0, 0))) := ⟨by (with_reducible repeat (first | refine blk_drewN ?_ _ | refine blk_drew ?_ | refine blk_alloc ?_ _)); refine blk_far ?_ NB151_153.out _; (with_reducible repeat (first | refine blk_drewN ?_ _ | refine blk_drew ?_ | refine blk_alloc ?_ _)); refine blk_far ?_ NB151_153.out _; (with_reducible repeat (first | refine blk_drewN ?_ _ | refine blk_drew ?_ | refine blk_alloc ?_ _)); refine blk_far ?_ NB151_153.out _; (with_reducible repeat (first | refine blk_drewN ?_ _ | refine blk_drew ?_ | refine blk_alloc ?_ _)); refine blk_far ?_ NB151_153.out _; (with_reducible repeat (first | refine blk_drewN ?_ _ | refine blk_drew ?_ | refine blk_alloc ?_ _)); refine blk_far ?_ NB151_153.out _; (with_reducible repeat (first | refine blk_drewN ?_ _ | refine blk_drew ?_ | refine blk_alloc ?_ _)); refine blk_far ?_ NB151_153.out _; (with_reducible repeat (first | refine blk_drewN ?_ _ | refine blk_drew ?_ | refine blk_alloc ?_ _)); refine blk_far ?_ NB151_153.out _; (with_reducible repeat (first | refine blk_drewN ?_ _ | refine blk_drew ?_ | refine blk_alloc ?_ _)); refine blk_far ?_ NB151_153.out _; (with_reducible repeat (first | refine blk_drewN ?_ _ | refine blk_drew ?_ | refine blk_alloc ?_ _)); refine blk_far ?_ NB151_152.out _; (with_reducible repeat (first | refine blk_drewN ?_ _ | refine blk_drew ?_ | refine blk_alloc ?_ _)); refine blk_far ?_ NB151_152.out _; (with_reducible repeat (first | refine blk_drewN ?_ _ | refine blk_drew ?_ | refine blk_alloc ?_ _)); refine blk_far ?_ NB151_152.out _; (with_reducible repeat (first | refine blk_drewN ?_ _ | refine blk_drew ?_ | refine blk_alloc ?_ _)); refine blk_far ?_ NB151_152.out _; (with_reducible repeat (first | refine blk_drewN ?_ _ | refine blk_drew ?_ | refine blk_alloc ?_ _)); refine blk_far ?_ NB151_152.out _; (with_reducible repeat (first | refine blk_drewN ?_ _ | refine blk_drew ?_ | refine blk_alloc ?_ _)); refine blk_far ?_ NB151_152.out _; (with_reducible repeat (first | refine blk_drewN ?_ _ | refine blk_drew ?_ | refine blk_alloc ?_ _)); refine blk_far ?_ NB151_152.out _; (with_reducible repeat (first | refine blk_drewN ?_ _ | refine blk_drew ?_ | refine blk_alloc ?_ _)); refine blk_far ?_ NB151_152.out _; (with_reducible repeat (first | refine blk_drewN ?_ _ | refine blk_drew ?_ | refine blk_alloc ?_ _)); refine blk_put (cs := #[.int .u8 1, .int .u8 0, .int .u8 0, .int .u8 0, .int .u8 0, .int .u8 0, .int .u8 0, .int .u8 0]) ?_ 7 _ rfl; (with_reducible repeat (first | refine blk_drewN ?_ _ | refine blk_drew ?_ | refine blk_alloc ?_ _)); refine blk_put (cs := #[.int .u8 1, .int .u8 0, .int .u8 0, .int .u8 0, .int .u8 0, .int .u8 0, .int .u8 0, .int .u8 0]) ?_ 6 _ rfl; (with_reducible repeat (first | refine blk_drewN ?_ _ | refine blk_drew ?_ | refine blk_alloc ?_ _)); refine blk_put (cs := #[.int .u8 1, .int .u8 0, .int .u8 0, .int .u8 0, .int .u8 0, .int .u8 0, .int .u8 0, .int .u8 0]) ?_ 5 _ rfl; (with_reducible repeat (first | refine blk_drewN ?_ _ | refine blk_drew ?_ | refine blk_alloc ?_ _)); refine blk_put (cs := #[.int .u8 1, .int .u8 0, .int .u8 0, .int .u8 0, .int .u8 0, .int .u8 0, .int .u8 0, .int .u8 0]) ?_ 4 _ rfl; (with_reducible repeat (first | refine blk_drewN ?_ _ | refine blk_drew ?_ | refine blk_alloc ?_ _)); refine blk_put (cs := #[.int .u8 1, .int .u8 0, .int .u8 0, .int .u8 0, .int .u8 0, .int .u8 0, .int .u8 0, .int .u8 0]) ?_ 3 _ rfl; (with_reducible repeat (first | refine blk_drewN ?_ _ | refine blk_drew ?_ | refine blk_alloc ?_ _)); refine blk_put (cs := #[.int .u8 1, .int .u8 0, .int .u8 0, .int .u8 0, .int .u8 0, .int .u8 0, .int .u8 0, .int .u8 0]) ?_ 2 _ rfl; (with_reducible repeat (first | refine blk_drewN ?_ _ | refine blk_drew ?_ | refine blk_alloc ?_ _)); refine blk_put (cs := #[.int .u8 1, .int .u8 0, .int .u8 0, .int .u8 0, .int .u8 0, .int .u8 0, .int .u8 0, .int .u8 0]) ?_ 1 _ rfl; (with_reducible repeat (first | refine blk_drewN ?_ _ | refine blk_drew ?_ | refine blk_alloc ?_ _)); refine blk_put (cs := #[.int .u8 0, .int .u8 0, .int .u8 0, .int .u8 0, .int .u8 0, .int .u8 0, .int .u8 0, .int .u8 0]) ?_ 0 _ rfl; (with_reducible repeat (first | refine blk_drewN ?_ _ | refine blk_drew ?_ | refine blk_alloc ?_ _)); exact BK151.out⟩
  have n1_ : Aside0 (((((((((((((((((((((((((w8.setCell ⟨gb151, 0, none⟩ (.int .u8 1)).setCell ⟨gb151, 1, none⟩ (.int .u8 0)).setCell ⟨gb151, 2, none⟩ (.int .u8 0)).setCell ⟨gb151, 3, none⟩ (.int .u8 0)).setCell ⟨gb151, 4, none⟩ (.int .u8 0)).setCell ⟨gb151, 5, none⟩ (.int .u8 0)).setCell ⟨gb151, 6, none⟩ (.int .u8 0)).setCell ⟨gb151, 7, none⟩ (.int .u8 0)).setCell ⟨gb152, 0, none⟩ (.int .u8 2)).setCell ⟨gb152, 1, none⟩ (.int .u8 0)).setCell ⟨gb152, 2, none⟩ (.int .u8 0)).setCell ⟨gb152, 3, none⟩ (.int .u8 0)).setCell ⟨gb152, 4, none⟩ (.int .u8 0)).setCell ⟨gb152, 5, none⟩ (.int .u8 0)).setCell ⟨gb152, 6, none⟩ (.int .u8 0)).setCell ⟨gb152, 7, none⟩ (.int .u8 0)).setCell ⟨gb153, 0, none⟩ (.int .u8 3)).setCell ⟨gb153, 1, none⟩ (.int .u8 0)).setCell ⟨gb153, 2, none⟩ (.int .u8 0)).setCell ⟨gb153, 3, none⟩ (.int .u8 0)).setCell ⟨gb153, 4, none⟩ (.int .u8 0)).setCell ⟨gb153, 5, none⟩ (.int .u8 0)).setCell ⟨gb153, 6, none⟩ (.int .u8 0)).setCell ⟨gb153, 7, none⟩ (.int .u8 0)).heap[gb152]? = some (.cells #[.int .u8 2, .int .u8 0, .int .u8 0, .int .u8 0, .int .u8 0, .int .u8 0, .int .u8 0, .int .u8 0] 52 (0, 0))) := ⟨by (with_reducible repeat (first | refine blk_drewN ?_ _ | refine blk_drew ?_ | refine blk_alloc ?_ _)); refine blk_far ?_ NB152_153.out _; (with_reducible repeat (first | refine blk_drewN ?_ _ | refine blk_drew ?_ | refine blk_alloc ?_ _)); refine blk_far ?_ NB152_153.out _; (with_reducible repeat (first | refine blk_drewN ?_ _ | refine blk_drew ?_ | refine blk_alloc ?_ _)); refine blk_far ?_ NB152_153.out _; (with_reducible repeat (first | refine blk_drewN ?_ _ | refine blk_drew ?_ | refine blk_alloc ?_ _)); refine blk_far ?_ NB152_153.out _; (with_reducible repeat (first | refine blk_drewN ?_ _ | refine blk_drew ?_ | refine blk_alloc ?_ _)); refine blk_far ?_ NB152_153.out _; (with_reducible repeat (first | refine blk_drewN ?_ _ | refine blk_drew ?_ | refine blk_alloc ?_ _)); refine blk_far ?_ NB152_153.out _; (with_reducible repeat (first | refine blk_drewN ?_ _ | refine blk_drew ?_ | refine blk_alloc ?_ _)); refine blk_far ?_ NB152_153.out _; (with_reducible repeat (first | refine blk_drewN ?_ _ | refine blk_drew ?_ | refine blk_alloc ?_ _)); refine blk_far ?_ NB152_153.out _; (with_reducible repeat (first | refine blk_drewN ?_ _ | refine blk_drew ?_ | refine blk_alloc ?_ _)); refine blk_put (cs := #[.int .u8 2, .int .u8 0, .int .u8 0, .int .u8 0, .int .u8 0, .int .u8 0, .int .u8 0, .int .u8 0]) ?_ 7 _ rfl; (with_reducible repeat (first | refine blk_drewN ?_ _ | refine blk_drew ?_ | refine blk_alloc ?_ _)); refine blk_put (cs := #[.int .u8 2, .int .u8 0, .int .u8 0, .int .u8 0, .int .u8 0, .int .u8 0, .int .u8 0, .int .u8 0]) ?_ 6 _ rfl; (with_reducible repeat (first | refine blk_drewN ?_ _ | refine blk_drew ?_ | refine blk_alloc ?_ _)); refine blk_put (cs := #[.int .u8 2, .int .u8 0, .int .u8 0, .int .u8 0, .int .u8 0, .int .u8 0, .int .u8 0, .int .u8 0]) ?_ 5 _ rfl; (with_reducible repeat (first | refine blk_drewN ?_ _ | refine blk_drew ?_ | refine blk_alloc ?_ _)); refine blk_put (cs := #[.int .u8 2, .int .u8 0, .int .u8 0, .int .u8 0, .int .u8 0, .int .u8 0, .int .u8 0, .int .u8 0]) ?_ 4 _ rfl; (with_reducible repeat (first | refine blk_drewN ?_ _ | refine blk_drew ?_ | refine blk_alloc ?_ _)); refine blk_put (cs := #[.int .u8 2, .int .u8 0, .int .u8 0, .int .u8 0, .int .u8 0, .int .u8 0, .int .u8 0, .int .u8 0]) ?_ 3 _ rfl; (with_reducible repeat (first | refine blk_drewN ?_ _ | refine blk_drew ?_ | refine blk_alloc ?_ _)); refine blk_put (cs := #[.int .u8 2, .int .u8 0, .int .u8 0, .int .u8 0, .int .u8 0, .int .u8 0, .int .u8 0, .int .u8 0]) ?_ 2 _ rfl; (with_reducible repeat (first | refine blk_drewN ?_ _ | refine blk_drew ?_ | refine blk_alloc ?_ _)); refine blk_put (cs := #[.int .u8 2, .int .u8 0, .int .u8 0, .int .u8 0, .int .u8 0, .int .u8 0, .int .u8 0, .int .u8 0]) ?_ 1 _ rfl; (with_reducible repeat (first | refine blk_drewN ?_ _ | refine blk_drew ?_ | refine blk_alloc ?_ _)); refine blk_put (cs := #[.int .u8 0, .int .u8 0, .int .u8 0, .int .u8 0, .int .u8 0, .int .u8 0, .int .u8 0, .int .u8 0]) ?_ 0 _ rfl; (with_reducible repeat (first | refine blk_drewN ?_ _ | refine blk_drew ?_ | refine blk_alloc ?_ _)); refine blk_far ?_ NB152_151.out _; (with_reducible repeat (first | refine blk_drewN ?_ _ | refine blk_drew ?_ | refine blk_alloc ?_ _)); refine blk_far ?_ NB152_151.out _; (with_reducible repeat (first | refine blk_drewN ?_ _ | refine blk_drew ?_ | refine blk_alloc ?_ _)); refine blk_far ?_ NB152_151.out _; (with_reducible repeat (first | refine blk_drewN ?_ _ | refine blk_drew ?_ | refine blk_alloc ?_ _)); refine blk_far ?_ NB152_151.out _; (with_reducible repeat (first | refine blk_drewN ?_ _ | refine blk_drew ?_ | refine blk_alloc ?_ _)); refine blk_far ?_ NB152_151.out _; (with_reducible repeat (first | refine blk_drewN ?_ _ | refine blk_drew ?_ | refine blk_alloc ?_ _)); refine blk_far ?_ NB152_151.out _; (with_reducible repeat (first | refine blk_drewN ?_ _ | refine blk_drew ?_ | refine blk_alloc ?_ _)); refine blk_far ?_ NB152_151.out _; (with_reducible repeat (first | refine blk_drewN ?_ _ | refine blk_drew ?_ | refine blk_alloc ?_ _)); refine blk_far ?_ NB152_151.out _; (with_reducible repeat (first | refine blk_drewN ?_ _ | refine blk_drew ?_ | refine blk_alloc ?_ _)); exact BK152.out⟩
  have n2_ : Aside0 (((((((((((((((((((((((((w8.setCell ⟨gb151, 0, none⟩ (.int .u8 1)).setCell ⟨gb151, 1, none⟩ (.int .u8 0)).setCell ⟨gb151, 2, none⟩ (.int .u8 0)).setCell ⟨gb151, 3, none⟩ (.int .u8 0)).setCell ⟨gb151, 4, none⟩ (.int .u8 0)).setCell ⟨gb151, 5, none⟩ (.int .u8 0)).setCell ⟨gb151, 6, none⟩ (.int .u8 0)).setCell ⟨gb151, 7, none⟩ (.int .u8 0)).setCell ⟨gb152, 0, none⟩ (.int .u8 2)).setCell ⟨gb152, 1, none⟩ (.int .u8 0)).setCell ⟨gb152, 2, none⟩ (.int .u8 0)).setCell ⟨gb152, 3, none⟩ (.int .u8 0)).setCell ⟨gb152, 4, none⟩ (.int .u8 0)).setCell ⟨gb152, 5, none⟩ (.int .u8 0)).setCell ⟨gb152, 6, none⟩ (.int .u8 0)).setCell ⟨gb152, 7, none⟩ (.int .u8 0)).setCell ⟨gb153, 0, none⟩ (.int .u8 3)).setCell ⟨gb153, 1, none⟩ (.int .u8 0)).setCell ⟨gb153, 2, none⟩ (.int .u8 0)).setCell ⟨gb153, 3, none⟩ (.int .u8 0)).setCell ⟨gb153, 4, none⟩ (.int .u8 0)).setCell ⟨gb153, 5, none⟩ (.int .u8 0)).setCell ⟨gb153, 6, none⟩ (.int .u8 0)).setCell ⟨gb153, 7, none⟩ (.int .u8 0)).heap[gb153]? = some (.cells #[.int .u8 3, .int .u8 0, .int .u8 0, .int .u8 0, .int .u8 0, .int .u8 0, .int .u8 0, .int .u8 0] 52 (0, 0))) := ⟨by (with_reducible repeat (first | refine blk_drewN ?_ _ | refine blk_drew ?_ | refine blk_alloc ?_ _)); refine blk_put (cs := #[.int .u8 3, .int .u8 0, .int .u8 0, .int .u8 0, .int .u8 0, .int .u8 0, .int .u8 0, .int .u8 0]) ?_ 7 _ rfl; (with_reducible repeat (first | refine blk_drewN ?_ _ | refine blk_drew ?_ | refine blk_alloc ?_ _)); refine blk_put (cs := #[.int .u8 3, .int .u8 0, .int .u8 0, .int .u8 0, .int .u8 0, .int .u8 0, .int .u8 0, .int .u8 0]) ?_ 6 _ rfl; (with_reducible repeat (first | refine blk_drewN ?_ _ | refine blk_drew ?_ | refine blk_alloc ?_ _)); refine blk_put (cs := #[.int .u8 3, .int .u8 0, .int .u8 0, .int .u8 0, .int .u8 0, .int .u8 0, .int .u8 0, .int .u8 0]) ?_ 5 _ rfl; (with_reducible repeat (first | refine blk_drewN ?_ _ | refine blk_drew ?_ | refine blk_alloc ?_ _)); refine blk_put (cs := #[.int .u8 3, .int .u8 0, .int .u8 0, .int .u8 0, .int .u8 0, .int .u8 0, .int .u8 0, .int .u8 0]) ?_ 4 _ rfl; (with_reducible repeat (first | refine blk_drewN ?_ _ | refine blk_drew ?_ | refine blk_alloc ?_ _)); refine blk_put (cs := #[.int .u8 3, .int .u8 0, .int .u8 0, .int .u8 0, .int .u8 0, .int .u8 0, .int .u8 0, .int .u8 0]) ?_ 3 _ rfl; (with_reducible repeat (first | refine blk_drewN ?_ _ | refine blk_drew ?_ | refine blk_alloc ?_ _)); refine blk_put (cs := #[.int .u8 3, .int .u8 0, .int .u8 0, .int .u8 0, .int .u8 0, .int .u8 0, .int .u8 0, .int .u8 0]) ?_ 2 _ rfl; (with_reducible repeat (first | refine blk_drewN ?_ _ | refine blk_drew ?_ | refine blk_alloc ?_ _)); refine blk_put (cs := #[.int .u8 3, .int .u8 0, .int .u8 0, .int .u8 0, .int .u8 0, .int .u8 0, .int .u8 0, .int .u8 0]) ?_ 1 _ rfl; (with_reducible repeat (first | refine blk_drewN ?_ _ | refine blk_drew ?_ | refine blk_alloc ?_ _)); refine blk_put (cs := #[.int .u8 0, .int .u8 0, .int .u8 0, .int .u8 0, .int .u8 0, .int .u8 0, .int .u8 0, .int .u8 0]) ?_ 0 _ rfl; (with_reducible repeat (first | refine blk_drewN ?_ _ | refine blk_drew ?_ | refine blk_alloc ?_ _)); refine blk_far ?_ NB153_152.out _; (with_reducible repeat (first | refine blk_drewN ?_ _ | refine blk_drew ?_ | refine blk_alloc ?_ _)); refine blk_far ?_ NB153_152.out _; (with_reducible repeat (first | refine blk_drewN ?_ _ | refine blk_drew ?_ | refine blk_alloc ?_ _)); refine blk_far ?_ NB153_152.out _; (with_reducible repeat (first | refine blk_drewN ?_ _ | refine blk_drew ?_ | refine blk_alloc ?_ _)); refine blk_far ?_ NB153_152.out _; (with_reducible repeat (first | refine blk_drewN ?_ _ | refine blk_drew ?_ | refine blk_alloc ?_ _)); refine blk_far ?_ NB153_152.out _; (with_reducible repeat (first | refine blk_drewN ?_ _ | refine blk_drew ?_ | refine blk_alloc ?_ _)); refine blk_far ?_ NB153_152.out _; (with_reducible repeat (first | refine blk_drewN ?_ _ | refine blk_drew ?_ | refine blk_alloc ?_ _)); refine blk_far ?_ NB153_152.out _; (with_reducible repeat (first | refine blk_drewN ?_ _ | refine blk_drew ?_ | refine blk_alloc ?_ _)); refine blk_far ?_ NB153_152.out _; (with_reducible repeat (first | refine blk_drewN ?_ _ | refine blk_drew ?_ | refine blk_alloc ?_ _)); refine blk_far ?_ NB153_151.out _; (with_reducible repeat (first | refine blk_drewN ?_ _ | refine blk_drew ?_ | refine blk_alloc ?_ _)); refine blk_far ?_ NB153_151.out _; (with_reducible repeat (first | refine blk_drewN ?_ _ | refine blk_drew ?_ | refine blk_alloc ?_ _)); refine blk_far ?_ NB153_151.out _; (with_reducible repeat (first | refine blk_drewN ?_ _ | refine blk_drew ?_ | refine blk_alloc ?_ _)); refine blk_far ?_ NB153_151.out _; (with_reducible repeat (first | refine blk_drewN ?_ _ | refine blk_drew ?_ | refine blk_alloc ?_ _)); refine blk_far ?_ NB153_151.out _; (with_reducible repeat (first | refine blk_drewN ?_ _ | refine blk_drew ?_ | refine blk_alloc ?_ _)); refine blk_far ?_ NB153_151.out _; (with_reducible repeat (first | refine blk_drewN ?_ _ | refine blk_drew ?_ | refine blk_alloc ?_ _)); refine blk_far ?_ NB153_151.out _; (with_reducible repeat (first | refine blk_drewN ?_ _ | refine blk_drew ?_ | refine blk_alloc ?_ _)); refine blk_far ?_ NB153_151.out _; (with_reducible repeat (first | refine blk_drewN ?_ _ | refine blk_drew ?_ | refine blk_alloc ?_ _)); exact BK153.out⟩
  have n3_ : Aside0 (Below w.heap.size w ((((((((((((((((((((((((w8.setCell ⟨gb151, 0, none⟩ (.int .u8 1)).setCell ⟨gb151, 1, none⟩ (.int .u8 0)).setCell ⟨gb151, 2, none⟩ (.int .u8 0)).setCell ⟨gb151, 3, none⟩ (.int .u8 0)).setCell ⟨gb151, 4, none⟩ (.int .u8 0)).setCell ⟨gb151, 5, none⟩ (.int .u8 0)).setCell ⟨gb151, 6, none⟩ (.int .u8 0)).setCell ⟨gb151, 7, none⟩ (.int .u8 0)).setCell ⟨gb152, 0, none⟩ (.int .u8 2)).setCell ⟨gb152, 1, none⟩ (.int .u8 0)).setCell ⟨gb152, 2, none⟩ (.int .u8 0)).setCell ⟨gb152, 3, none⟩ (.int .u8 0)).setCell ⟨gb152, 4, none⟩ (.int .u8 0)).setCell ⟨gb152, 5, none⟩ (.int .u8 0)).setCell ⟨gb152, 6, none⟩ (.int .u8 0)).setCell ⟨gb152, 7, none⟩ (.int .u8 0)).setCell ⟨gb153, 0, none⟩ (.int .u8 3)).setCell ⟨gb153, 1, none⟩ (.int .u8 0)).setCell ⟨gb153, 2, none⟩ (.int .u8 0)).setCell ⟨gb153, 3, none⟩ (.int .u8 0)).setCell ⟨gb153, 4, none⟩ (.int .u8 0)).setCell ⟨gb153, 5, none⟩ (.int .u8 0)).setCell ⟨gb153, 6, none⟩ (.int .u8 0)).setCell ⟨gb153, 7, none⟩ (.int .u8 0))) := ⟨by repeat (first | (with_reducible first | exact HB.out | apply below_alloc | apply pw_below_drewN | apply below_drew1 | refine below_set ?_ GE151.out | refine below_set ?_ GE152.out | refine below_set ?_ GE153.out) | exact HB.out)⟩
  (try clear BK151)
  (try clear BK152)
  (try clear BK153)
  (try clear HB)
  generalize ((((((((((((((((((((((((w8.setCell ⟨gb151, 0, none⟩ (.int .u8 1)).setCell ⟨gb151, 1, none⟩ (.int .u8 0)).setCell ⟨gb151, 2, none⟩ (.int .u8 0)).setCell ⟨gb151, 3, none⟩ (.int .u8 0)).setCell ⟨gb151, 4, none⟩ (.int .u8 0)).setCell ⟨gb151, 5, none⟩ (.int .u8 0)).setCell ⟨gb151, 6, none⟩ (.int .u8 0)).setCell ⟨gb151, 7, none⟩ (.int .u8 0)).setCell ⟨gb152, 0, none⟩ (.int .u8 2)).setCell ⟨gb152, 1, none⟩ (.int .u8 0)).setCell ⟨gb152, 2, none⟩ (.int .u8 0)).setCell ⟨gb152, 3, none⟩ (.int .u8 0)).setCell ⟨gb152, 4, none⟩ (.int .u8 0)).setCell ⟨gb152, 5, none⟩ (.int .u8 0)).setCell ⟨gb152, 6, none⟩ (.int .u8 0)).setCell ⟨gb152, 7, none⟩ (.int .u8 0)).setCell ⟨gb153, 0, none⟩ (.int .u8 3)).setCell ⟨gb153, 1, none⟩ (.int .u8 0)).setCell ⟨gb153, 2, none⟩ (.int .u8 0)).setCell ⟨gb153, 3, none⟩ (.int .u8 0)).setCell ⟨gb153, 4, none⟩ (.int .u8 0)).setCell ⟨gb153, 5, none⟩ (.int .u8 0)).setCell ⟨gb153, 6, none⟩ (.int .u8 0)).setCell ⟨gb153, 7, none⟩ (.int .u8 0)) = w15 at n0_ n1_ n2_ n3_ ⊢
  have BK151 := n0_
  have BK152 := n1_
  have BK153 := n2_
  have HB := n3_
  clear n0_ n1_ n2_ n3_
  have n0_ := Aside0.mk (blk_drew BK151.out)
  have n1_ := Aside0.mk (blk_drew BK152.out)
  have n2_ := Aside0.mk (blk_drew BK153.out)
  have n3_ := Aside0.mk (below_drew1 HB.out)
  clear BK151
  clear BK152
  clear BK153
  clear HB
  have BK151 := n0_
  have BK152 := n1_
  have BK153 := n2_
  have HB := n3_
  clear n0_ n1_ n2_ n3_
  refine start_ (n := 16) (S := fun w' => True) (ds := []) #[false, false, false, false, false, false, false, false, false, false, false, false, false, false, false, false] (by kernel_rfl) rfl rfl trivial (fun hHeld => ?_); refine with_tabW standbylaw45_awake.tab2 standbylaw45_awake.bits2 (fun HT_ HW_ => ?_)
  generalize w15.drew = w16 at BK151 BK152 BK153 HB hHeld ⊢
  refine inv_at [0, 1, 2, 3, 4, 5, 6, 7, 8, 9, 10, 11, 12, 13, 14, 15] (fun a0_ b a w' => ∃ (v155 : Value) (v158 : Value) (v161 : Value) (v164 : Value) (m14_ : Value) (m15_ : Value), a = putSel a0_ b [(0, 18, .agg #[.int .u8 1, .int .u8 0, .int .u8 0, .int .u8 0, .int .u8 0, .int .u8 0, .int .u8 0, .int .u8 0]), (1, 19, .agg #[.int .u8 2, .int .u8 0, .int .u8 0, .int .u8 0, .int .u8 0, .int .u8 0, .int .u8 0, .int .u8 0]), (2, 20, .agg #[.int .u8 0, .int .u8 0, .int .u8 0, .int .u8 0, .int .u8 0, .int .u8 0, .int .u8 0, .int .u8 0]), (3, 21, .agg #[.int .u8 0, .int .u8 0, .int .u8 0, .int .u8 0, .int .u8 0, .int .u8 0, .int .u8 0, .int .u8 0]), (4, 22, .agg #[.int .u8 3, .int .u8 0, .int .u8 0, .int .u8 0, .int .u8 0, .int .u8 0, .int .u8 0, .int .u8 0]), (5, 23, v155), (6, 24, v158), (7, 25, .agg #[.int .u8 0, .int .u8 0, .int .u8 0, .int .u8 0, .int .u8 0, .int .u8 0, .int .u8 0, .int .u8 0]), (8, 26, .agg #[.int .u8 2, .int .u8 0, .int .u8 0, .int .u8 0, .int .u8 0, .int .u8 0, .int .u8 0, .int .u8 0]), (9, 27, .agg #[.int .u8 0, .int .u8 0, .int .u8 0, .int .u8 0, .int .u8 0, .int .u8 0, .int .u8 0, .int .u8 0]), (10, 28, .agg #[.int .u8 0, .int .u8 0, .int .u8 0, .int .u8 0, .int .u8 0, .int .u8 0, .int .u8 0, .int .u8 0]), (11, 29, .agg #[.int .u8 0, .int .u8 0, .int .u8 0, .int .u8 0, .int .u8 0, .int .u8 0, .int .u8 0, .int .u8 0]), (12, 30, v161), (13, 31, v164), (14, 4, m14_), (15, 5, m15_)] ∧ (w'.heap[gb151]? = some (.cells #[.int .u8 1, .int .u8 0, .int .u8 0, .int .u8 0, .int .u8 0, .int .u8 0, .int .u8 0, .int .u8 0] 52 (0, 0))) ∧ (w'.heap[gb152]? = some (.cells #[.int .u8 2, .int .u8 0, .int .u8 0, .int .u8 0, .int .u8 0, .int .u8 0, .int .u8 0, .int .u8 0] 52 (0, 0))) ∧ (w'.heap[gb153]? = some (.cells #[.int .u8 3, .int .u8 0, .int .u8 0, .int .u8 0, .int .u8 0, .int .u8 0, .int .u8 0, .int .u8 0] 52 (0, 0))) ∧ (Below w.heap.size w w') ∧ (b 5 = true → b 6 = false → Kd.R k52 52 w' w.heap.size (fun k_ => k_ ≠ gb151 ∧ k_ ≠ gb152 ∧ k_ ≠ gb153) v155 y154) ∧ (b 6 = true → Kd.N (Kd.slice 52 k52) 49 w' w.heap.size (fun k_ => k_ ≠ gb151 ∧ k_ ≠ gb152 ∧ k_ ≠ gb153) v158 y157) ∧ (b 12 = true → b 13 = false → Kd.R k52 52 w' w.heap.size (fun k_ => k_ ≠ gb151 ∧ k_ ≠ gb152 ∧ k_ ≠ gb153) v161 y160) ∧ (b 13 = true → Kd.N (Kd.slice 52 k52) 49 w' w.heap.size (fun k_ => k_ ≠ gb151 ∧ k_ ≠ gb152 ∧ k_ ≠ gb153) v164 y163) ∧ (b 14 = true → (m14_ : Value) = v158) ∧ (b 15 = true → (m15_ : Value) = v164)) HT_.out HW_.out (by kernel_rfl) (by kernel_rfl) ?_ ?_ ?_
  · exact ⟨.bool false, .bool false, .bool false, .bool false, .bool false, .bool false, by simp only [putSel, Bool.false_eq_true, if_false], BK151.out, BK152.out, BK153.out, HB.out, fun h_ => absurd h_ (by decide), fun h_ => absurd h_ (by decide), fun h_ => absurd h_ (by decide), fun h_ => absurd h_ (by decide), fun h_ => absurd h_ (by decide), fun h_ => absurd h_ (by decide)⟩
  · skip
    clear BK151 BK152 BK153 HB
    refine steps_cons ?_ ?_
    · rintro b a w' ⟨v155, v158, v161, v164, m14_, m15_, ha, Q_BK151, Q_BK152, Q_BK153, Q_HB, Q_HO156, Q_HO159, Q_HO162, Q_HO165, Q_X14_, Q_X15_⟩ hb_ hon hoff
      refine ⟨_, rfl, fun K hK => ?_⟩
      have e1 : a.tmps[1]? = some (.pointer (some ⟨gb151, 0, none⟩)) := by rw [ha]; exact (putSel_off rfl).trans rfl
      replace ha := Aside0.mk ha
      have BK151 := Aside0.mk Q_BK151
      have BK152 := Aside0.mk Q_BK152
      have BK153 := Aside0.mk Q_BK153
      have HB := Aside0.mk Q_HB
      have hc0_ : w'.cell? ⟨gb151, 0, none⟩ = some (.int .u8 1) := (blk_cell BK151.out 0).trans rfl
      have hc1_ : w'.cell? ⟨gb151, 1, none⟩ = some (.int .u8 0) := (blk_cell BK151.out 1).trans rfl
      have hc2_ : w'.cell? ⟨gb151, 2, none⟩ = some (.int .u8 0) := (blk_cell BK151.out 2).trans rfl
      have hc3_ : w'.cell? ⟨gb151, 3, none⟩ = some (.int .u8 0) := (blk_cell BK151.out 3).trans rfl
      have hc4_ : w'.cell? ⟨gb151, 4, none⟩ = some (.int .u8 0) := (blk_cell BK151.out 4).trans rfl
      have hc5_ : w'.cell? ⟨gb151, 5, none⟩ = some (.int .u8 0) := (blk_cell BK151.out 5).trans rfl
      have hc6_ : w'.cell? ⟨gb151, 6, none⟩ = some (.int .u8 0) := (blk_cell BK151.out 6).trans rfl
      have hc7_ : w'.cell? ⟨gb151, 7, none⟩ = some (.int .u8 0) := (blk_cell BK151.out 7).trans rfl
      refine value_ (w1 := w') (v := .agg #[.int .u8 1, .int .u8 0, .int .u8 0, .int .u8 0, .int .u8 0, .int .u8 0, .int .u8 0, .int .u8 0]) (by rfl) rfl ?_ ?_
      · go_simp
        (try simp only [i64_w])
        try rfl
      refine hK.out _ _ ⟨v155, v158, v161, v164, m14_, m15_, (by rw [ha.out]; exact putSel_upk 0 hb_ rfl rfl rfl), Q_BK151, Q_BK152, Q_BK153, Q_HB, fun h0_ _ => absurd ((hoff 5 (by kernel_rfl)).symm.trans h0_) (by decide), fun h0_ => absurd ((hoff 6 (by kernel_rfl)).symm.trans h0_) (by decide), Q_HO162, Q_HO165, fun h0_ => absurd ((hoff 14 (by kernel_rfl)).symm.trans h0_) (by decide), fun h0_ => absurd ((hoff 15 (by kernel_rfl)).symm.trans h0_) (by decide)⟩
    refine steps_cons ?_ ?_
    · rintro b a w' ⟨v155, v158, v161, v164, m14_, m15_, ha, Q_BK151, Q_BK152, Q_BK153, Q_HB, Q_HO156, Q_HO159, Q_HO162, Q_HO165, Q_X14_, Q_X15_⟩ hb_ hon hoff
      refine ⟨_, rfl, fun K hK => ?_⟩
      have e2 : a.tmps[2]? = some (.pointer (some ⟨gb152, 0, none⟩)) := by rw [ha]; exact (putSel_off rfl).trans rfl
      replace ha := Aside0.mk ha
      have BK151 := Aside0.mk Q_BK151
      have BK152 := Aside0.mk Q_BK152
      have BK153 := Aside0.mk Q_BK153
      have HB := Aside0.mk Q_HB
      have hc0_ : w'.cell? ⟨gb152, 0, none⟩ = some (.int .u8 2) := (blk_cell BK152.out 0).trans rfl
      have hc1_ : w'.cell? ⟨gb152, 1, none⟩ = some (.int .u8 0) := (blk_cell BK152.out 1).trans rfl
      have hc2_ : w'.cell? ⟨gb152, 2, none⟩ = some (.int .u8 0) := (blk_cell BK152.out 2).trans rfl
      have hc3_ : w'.cell? ⟨gb152, 3, none⟩ = some (.int .u8 0) := (blk_cell BK152.out 3).trans rfl
      have hc4_ : w'.cell? ⟨gb152, 4, none⟩ = some (.int .u8 0) := (blk_cell BK152.out 4).trans rfl
      have hc5_ : w'.cell? ⟨gb152, 5, none⟩ = some (.int .u8 0) := (blk_cell BK152.out 5).trans rfl
      have hc6_ : w'.cell? ⟨gb152, 6, none⟩ = some (.int .u8 0) := (blk_cell BK152.out 6).trans rfl
      have hc7_ : w'.cell? ⟨gb152, 7, none⟩ = some (.int .u8 0) := (blk_cell BK152.out 7).trans rfl
      refine value_ (w1 := w') (v := .agg #[.int .u8 2, .int .u8 0, .int .u8 0, .int .u8 0, .int .u8 0, .int .u8 0, .int .u8 0, .int .u8 0]) (by rfl) rfl ?_ ?_
      · go_simp
        (try simp only [i64_w])
        try rfl
      refine hK.out _ _ ⟨v155, v158, v161, v164, m14_, m15_, (by rw [ha.out]; exact putSel_upk 1 hb_ rfl rfl rfl), Q_BK151, Q_BK152, Q_BK153, Q_HB, fun h0_ _ => absurd ((hoff 5 (by kernel_rfl)).symm.trans h0_) (by decide), fun h0_ => absurd ((hoff 6 (by kernel_rfl)).symm.trans h0_) (by decide), Q_HO162, Q_HO165, fun h0_ => absurd ((hoff 14 (by kernel_rfl)).symm.trans h0_) (by decide), fun h0_ => absurd ((hoff 15 (by kernel_rfl)).symm.trans h0_) (by decide)⟩
    refine steps_cons ?_ ?_
    · rintro b a w' ⟨v155, v158, v161, v164, m14_, m15_, ha, Q_BK151, Q_BK152, Q_BK153, Q_HB, Q_HO156, Q_HO159, Q_HO162, Q_HO165, Q_X14_, Q_X15_⟩ hb_ hon hoff
      refine ⟨_, rfl, fun K hK => ?_⟩
      replace ha := Aside0.mk ha
      have BK151 := Aside0.mk Q_BK151
      have BK152 := Aside0.mk Q_BK152
      have BK153 := Aside0.mk Q_BK153
      have HB := Aside0.mk Q_HB
      refine value_ (w1 := w') (v := .agg #[.int .u8 0, .int .u8 0, .int .u8 0, .int .u8 0, .int .u8 0, .int .u8 0, .int .u8 0, .int .u8 0]) (by rfl) rfl ?_ ?_
      · go_simp
        (try simp only [i64_w])
        try rfl
      refine hK.out _ _ ⟨v155, v158, v161, v164, m14_, m15_, (by rw [ha.out]; exact putSel_upk 2 hb_ rfl rfl rfl), Q_BK151, Q_BK152, Q_BK153, Q_HB, fun h0_ _ => absurd ((hoff 5 (by kernel_rfl)).symm.trans h0_) (by decide), fun h0_ => absurd ((hoff 6 (by kernel_rfl)).symm.trans h0_) (by decide), Q_HO162, Q_HO165, fun h0_ => absurd ((hoff 14 (by kernel_rfl)).symm.trans h0_) (by decide), fun h0_ => absurd ((hoff 15 (by kernel_rfl)).symm.trans h0_) (by decide)⟩
    refine steps_cons ?_ ?_
    · rintro b a w' ⟨v155, v158, v161, v164, m14_, m15_, ha, Q_BK151, Q_BK152, Q_BK153, Q_HB, Q_HO156, Q_HO159, Q_HO162, Q_HO165, Q_X14_, Q_X15_⟩ hb_ hon hoff
      refine ⟨_, rfl, fun K hK => ?_⟩
      replace ha := Aside0.mk ha
      have BK151 := Aside0.mk Q_BK151
      have BK152 := Aside0.mk Q_BK152
      have BK153 := Aside0.mk Q_BK153
      have HB := Aside0.mk Q_HB
      refine value_ (w1 := w') (v := .agg #[.int .u8 0, .int .u8 0, .int .u8 0, .int .u8 0, .int .u8 0, .int .u8 0, .int .u8 0, .int .u8 0]) (by rfl) rfl ?_ ?_
      · go_simp
        (try simp only [i64_w])
        try rfl
      refine hK.out _ _ ⟨v155, v158, v161, v164, m14_, m15_, (by rw [ha.out]; exact putSel_upk 3 hb_ rfl rfl rfl), Q_BK151, Q_BK152, Q_BK153, Q_HB, fun h0_ _ => absurd ((hoff 5 (by kernel_rfl)).symm.trans h0_) (by decide), fun h0_ => absurd ((hoff 6 (by kernel_rfl)).symm.trans h0_) (by decide), Q_HO162, Q_HO165, fun h0_ => absurd ((hoff 14 (by kernel_rfl)).symm.trans h0_) (by decide), fun h0_ => absurd ((hoff 15 (by kernel_rfl)).symm.trans h0_) (by decide)⟩
    refine steps_cons ?_ ?_
    · rintro b a w' ⟨v155, v158, v161, v164, m14_, m15_, ha, Q_BK151, Q_BK152, Q_BK153, Q_HB, Q_HO156, Q_HO159, Q_HO162, Q_HO165, Q_X14_, Q_X15_⟩ hb_ hon hoff
      refine ⟨_, rfl, fun K hK => ?_⟩
      have e3 : a.tmps[3]? = some (.pointer (some ⟨gb153, 0, none⟩)) := by rw [ha]; exact (putSel_off rfl).trans rfl
      replace ha := Aside0.mk ha
      have BK151 := Aside0.mk Q_BK151
      have BK152 := Aside0.mk Q_BK152
      have BK153 := Aside0.mk Q_BK153
      have HB := Aside0.mk Q_HB
      have hc0_ : w'.cell? ⟨gb153, 0, none⟩ = some (.int .u8 3) := (blk_cell BK153.out 0).trans rfl
      have hc1_ : w'.cell? ⟨gb153, 1, none⟩ = some (.int .u8 0) := (blk_cell BK153.out 1).trans rfl
      have hc2_ : w'.cell? ⟨gb153, 2, none⟩ = some (.int .u8 0) := (blk_cell BK153.out 2).trans rfl
      have hc3_ : w'.cell? ⟨gb153, 3, none⟩ = some (.int .u8 0) := (blk_cell BK153.out 3).trans rfl
      have hc4_ : w'.cell? ⟨gb153, 4, none⟩ = some (.int .u8 0) := (blk_cell BK153.out 4).trans rfl
      have hc5_ : w'.cell? ⟨gb153, 5, none⟩ = some (.int .u8 0) := (blk_cell BK153.out 5).trans rfl
      have hc6_ : w'.cell? ⟨gb153, 6, none⟩ = some (.int .u8 0) := (blk_cell BK153.out 6).trans rfl
      have hc7_ : w'.cell? ⟨gb153, 7, none⟩ = some (.int .u8 0) := (blk_cell BK153.out 7).trans rfl
      refine value_ (w1 := w') (v := .agg #[.int .u8 3, .int .u8 0, .int .u8 0, .int .u8 0, .int .u8 0, .int .u8 0, .int .u8 0, .int .u8 0]) (by rfl) rfl ?_ ?_
      · go_simp
        (try simp only [i64_w])
        try rfl
      refine hK.out _ _ ⟨v155, v158, v161, v164, m14_, m15_, (by rw [ha.out]; exact putSel_upk 4 hb_ rfl rfl rfl), Q_BK151, Q_BK152, Q_BK153, Q_HB, fun h0_ _ => absurd ((hoff 5 (by kernel_rfl)).symm.trans h0_) (by decide), fun h0_ => absurd ((hoff 6 (by kernel_rfl)).symm.trans h0_) (by decide), Q_HO162, Q_HO165, fun h0_ => absurd ((hoff 14 (by kernel_rfl)).symm.trans h0_) (by decide), fun h0_ => absurd ((hoff 15 (by kernel_rfl)).symm.trans h0_) (by decide)⟩
    refine steps_cons ?_ ?_
    · rintro b a w' ⟨v155, v158, v161, v164, m14_, m15_, ha, Q_BK151, Q_BK152, Q_BK153, Q_HB, Q_HO156, Q_HO159, Q_HO162, Q_HO165, Q_X14_, Q_X15_⟩ hb_ hon hoff
      refine ⟨_, rfl, fun K hK => ?_⟩
      have e18 : a.tmps[18]? = some (.agg #[.int .u8 1, .int .u8 0, .int .u8 0, .int .u8 0, .int .u8 0, .int .u8 0, .int .u8 0, .int .u8 0]) := by rw [ha]; exact putSel_on (e := (0, 18, .agg #[.int .u8 1, .int .u8 0, .int .u8 0, .int .u8 0, .int .u8 0, .int .u8 0, .int .u8 0, .int .u8 0])) 0 rfl rfl (hon 0 (by kernel_rfl)) rfl
      have e19 : a.tmps[19]? = some (.agg #[.int .u8 2, .int .u8 0, .int .u8 0, .int .u8 0, .int .u8 0, .int .u8 0, .int .u8 0, .int .u8 0]) := by rw [ha]; exact putSel_on (e := (1, 19, .agg #[.int .u8 2, .int .u8 0, .int .u8 0, .int .u8 0, .int .u8 0, .int .u8 0, .int .u8 0, .int .u8 0])) 1 rfl rfl (hon 1 (by kernel_rfl)) rfl
      have e20 : a.tmps[20]? = some (.agg #[.int .u8 0, .int .u8 0, .int .u8 0, .int .u8 0, .int .u8 0, .int .u8 0, .int .u8 0, .int .u8 0]) := by rw [ha]; exact putSel_on (e := (2, 20, .agg #[.int .u8 0, .int .u8 0, .int .u8 0, .int .u8 0, .int .u8 0, .int .u8 0, .int .u8 0, .int .u8 0])) 2 rfl rfl (hon 2 (by kernel_rfl)) rfl
      have e21 : a.tmps[21]? = some (.agg #[.int .u8 0, .int .u8 0, .int .u8 0, .int .u8 0, .int .u8 0, .int .u8 0, .int .u8 0, .int .u8 0]) := by rw [ha]; exact putSel_on (e := (3, 21, .agg #[.int .u8 0, .int .u8 0, .int .u8 0, .int .u8 0, .int .u8 0, .int .u8 0, .int .u8 0, .int .u8 0])) 3 rfl rfl (hon 3 (by kernel_rfl)) rfl
      have e22 : a.tmps[22]? = some (.agg #[.int .u8 3, .int .u8 0, .int .u8 0, .int .u8 0, .int .u8 0, .int .u8 0, .int .u8 0, .int .u8 0]) := by rw [ha]; exact putSel_on (e := (4, 22, .agg #[.int .u8 3, .int .u8 0, .int .u8 0, .int .u8 0, .int .u8 0, .int .u8 0, .int .u8 0, .int .u8 0])) 4 rfl rfl (hon 4 (by kernel_rfl)) rfl
      replace ha := Aside0.mk ha
      have BK151 := Aside0.mk Q_BK151
      have BK152 := Aside0.mk Q_BK152
      have BK153 := Aside0.mk Q_BK153
      have HB := Aside0.mk Q_HB
      refine Kd.R_lit_step k52 _ 52 ?hg (N := 23) ?hd (xs := ([(⟨1, 0, 0, 0, 0, 0, 0, 0⟩ : S52), (⟨2, 0, 0, 0, 0, 0, 0, 0⟩ : S52), (⟨0, 0, 0, 0, 0, 0, 0, 0⟩ : S52), (⟨0, 0, 0, 0, 0, 0, 0, 0⟩ : S52), (⟨3, 0, 0, 0, 0, 0, 0, 0⟩ : S52)] : List (S52))) (inner := [.int .u8 1, .int .u8 0, .int .u8 0, .int .u8 0, .int .u8 0, .int .u8 0, .int .u8 0, .int .u8 0, .int .u8 2, .int .u8 0, .int .u8 0, .int .u8 0, .int .u8 0, .int .u8 0, .int .u8 0, .int .u8 0, .int .u8 0, .int .u8 0, .int .u8 0, .int .u8 0, .int .u8 0, .int .u8 0, .int .u8 0, .int .u8 0, .int .u8 0, .int .u8 0, .int .u8 0, .int .u8 0, .int .u8 0, .int .u8 0, .int .u8 0, .int .u8 0, .int .u8 3, .int .u8 0, .int .u8 0, .int .u8 0, .int .u8 0, .int .u8 0, .int .u8 0, .int .u8 0]) (ok := fun _ => True) (okp := fun _ => True) ?hr ?hp (fun _ hk => hk) trivial (Below.refl _ _) (Nat.le_refl _) (by simp) ?_; (case hd => rfl); (case hg => rfl); (case hr => first | (go_simp; done) | (go_simp; rfl)); (case hp => exact (Reps.c8 (show Kd.M k52 _ _ _ (⟨1, 0, 0, 0, 0, 0, 0, 0⟩ : S52) [.int .u8 1, .int .u8 0, .int .u8 0, .int .u8 0, .int .u8 0, .int .u8 0, .int .u8 0, .int .u8 0] from (k52_mkM _ _ _ (⟨1, 0, 0, 0, 0, 0, 0, 0⟩ : S52) )) (Reps.c8 (show Kd.M k52 _ _ _ (⟨2, 0, 0, 0, 0, 0, 0, 0⟩ : S52) [.int .u8 2, .int .u8 0, .int .u8 0, .int .u8 0, .int .u8 0, .int .u8 0, .int .u8 0, .int .u8 0] from (k52_mkM _ _ _ (⟨2, 0, 0, 0, 0, 0, 0, 0⟩ : S52) )) (Reps.c8 (show Kd.M k52 _ _ _ (⟨0, 0, 0, 0, 0, 0, 0, 0⟩ : S52) [.int .u8 0, .int .u8 0, .int .u8 0, .int .u8 0, .int .u8 0, .int .u8 0, .int .u8 0, .int .u8 0] from (k52_mkM _ _ _ (⟨0, 0, 0, 0, 0, 0, 0, 0⟩ : S52) )) (Reps.c8 (show Kd.M k52 _ _ _ (⟨0, 0, 0, 0, 0, 0, 0, 0⟩ : S52) [.int .u8 0, .int .u8 0, .int .u8 0, .int .u8 0, .int .u8 0, .int .u8 0, .int .u8 0, .int .u8 0] from (k52_mkM _ _ _ (⟨0, 0, 0, 0, 0, 0, 0, 0⟩ : S52) )) (Reps.c8 (show Kd.M k52 _ _ _ (⟨3, 0, 0, 0, 0, 0, 0, 0⟩ : S52) [.int .u8 3, .int .u8 0, .int .u8 0, .int .u8 0, .int .u8 0, .int .u8 0, .int .u8 0, .int .u8 0] from (k52_mkM _ _ _ (⟨3, 0, 0, 0, 0, 0, 0, 0⟩ : S52) )) (Reps.none _ _)))))))
      intro v155 w17 ho18 hb hg_ hnew_
      clear hg_ hnew_
      (first | rw [← Ny154.out] at ho18 | (simp only [Int.reduceToNat] at ho18; rw [← Ny154.out] at ho18))
      have n0_ := Aside0.mk (Kd.R_lower (Kd.R_newB (Kd.R_newB (Kd.R_newB ho18 (g := gb151) (o := .cells #[.int .u8 1, .int .u8 0, .int .u8 0, .int .u8 0, .int .u8 0, .int .u8 0, .int .u8 0, .int .u8 0] 52 (0, 0)) (by (with_reducible repeat (first | refine blk_drewN ?_ _ | refine blk_drew ?_ | refine blk_alloc ?_ _)); exact BK151.out)) (g := gb152) (o := .cells #[.int .u8 2, .int .u8 0, .int .u8 0, .int .u8 0, .int .u8 0, .int .u8 0, .int .u8 0, .int .u8 0] 52 (0, 0)) (by (with_reducible repeat (first | refine blk_drewN ?_ _ | refine blk_drew ?_ | refine blk_alloc ?_ _)); exact BK152.out)) (g := gb153) (o := .cells #[.int .u8 3, .int .u8 0, .int .u8 0, .int .u8 0, .int .u8 0, .int .u8 0, .int .u8 0, .int .u8 0] 52 (0, 0)) (by (with_reducible repeat (first | refine blk_drewN ?_ _ | refine blk_drew ?_ | refine blk_alloc ?_ _)); exact BK153.out)) (below_size (by repeat (first | (with_reducible first | exact HB.out | apply below_alloc | apply pw_below_drewN | apply below_drew1 | refine below_set ?_ GE151.out | refine below_set ?_ GE152.out | refine below_set ?_ GE153.out) | exact HB.out))))
      have n1_ := Aside0.mk (blk_below (g := gb151) (o := .cells #[.int .u8 1, .int .u8 0, .int .u8 0, .int .u8 0, .int .u8 0, .int .u8 0, .int .u8 0, .int .u8 0] 52 (0, 0)) (by (with_reducible repeat (first | refine blk_drewN ?_ _ | refine blk_drew ?_ | refine blk_alloc ?_ _)); exact BK151.out) hb)
      have n2_ := Aside0.mk (blk_below (g := gb152) (o := .cells #[.int .u8 2, .int .u8 0, .int .u8 0, .int .u8 0, .int .u8 0, .int .u8 0, .int .u8 0, .int .u8 0] 52 (0, 0)) (by (with_reducible repeat (first | refine blk_drewN ?_ _ | refine blk_drew ?_ | refine blk_alloc ?_ _)); exact BK152.out) hb)
      have n3_ := Aside0.mk (blk_below (g := gb153) (o := .cells #[.int .u8 3, .int .u8 0, .int .u8 0, .int .u8 0, .int .u8 0, .int .u8 0, .int .u8 0, .int .u8 0] 52 (0, 0)) (by (with_reducible repeat (first | refine blk_drewN ?_ _ | refine blk_drew ?_ | refine blk_alloc ?_ _)); exact BK153.out) hb)
      have n4_ := Aside0.mk (below_step (by repeat (first | (with_reducible first | exact HB.out | apply below_alloc | apply pw_below_drewN | apply below_drew1 | refine below_set ?_ GE151.out | refine below_set ?_ GE152.out | refine below_set ?_ GE153.out) | exact HB.out)) hb)
      have z_HO162 := fun (h0_ : b 12 = true) (h1_ : b 13 = false) => (show Kd.R k52 52 w17 w.heap.size (fun k_ => k_ ≠ gb151 ∧ k_ ≠ gb152 ∧ k_ ≠ gb153) v161 y160 from by first | exact (Kd.R_elder' (by (with_reducible repeat (first | apply Kd.R_alloc | apply Kd.R_drewN | apply Kd.R_drew)); exact (Q_HO162 h0_ h1_)) (Kd.R_base ho18) hb) | exact Kd.R_mono (Kd.R_elder' (by (with_reducible repeat (first | apply Kd.R_alloc | apply Kd.R_drewN | apply Kd.R_drew)); exact (Q_HO162 h0_ h1_)) (Kd.R_base ho18) hb) (fun _ h_ => by first | trivial | exact h_ | exact h_.1))
      have z_HO165 := fun (h0_ : b 13 = true) => (show Kd.N (Kd.slice 52 k52) 49 w17 w.heap.size (fun k_ => k_ ≠ gb151 ∧ k_ ≠ gb152 ∧ k_ ≠ gb153) v164 y163 from by first | exact (Kd.N_elder' (by (with_reducible repeat (first | apply Kd.N_alloc | apply Kd.N_drewN | apply Kd.N_drew)); exact (Q_HO165 h0_)) (Kd.R_base ho18) hb) | exact Kd.N_mono (Kd.N_elder' (by (with_reducible repeat (first | apply Kd.N_alloc | apply Kd.N_drewN | apply Kd.N_drew)); exact (Q_HO165 h0_)) (Kd.R_base ho18) hb) (fun _ h_ => by first | trivial | exact h_ | exact h_.1))
      clear BK151
      clear BK152
      clear BK153
      clear HB
      have HO156 := n0_
      have BK151 := n1_
      have BK152 := n2_
      have BK153 := n3_
      have HB := n4_
      clear n0_ n1_ n2_ n3_ n4_
      clear hb ho18
      refine hK.out _ _ ⟨v155, v158, v161, v164, m14_, m15_, (by rw [ha.out]; exact putSel_upk 5 hb_ rfl rfl rfl), (by (with_reducible repeat (first | refine blk_drewN ?_ _ | refine blk_drew ?_ | refine blk_alloc ?_ _)); exact BK151.out), (by (with_reducible repeat (first | refine blk_drewN ?_ _ | refine blk_drew ?_ | refine blk_alloc ?_ _)); exact BK152.out), (by (with_reducible repeat (first | refine blk_drewN ?_ _ | refine blk_drew ?_ | refine blk_alloc ?_ _)); exact BK153.out), (by repeat (first | (with_reducible first | exact HB.out | apply below_alloc | apply pw_below_drewN | apply below_drew1 | refine below_set ?_ GE151.out | refine below_set ?_ GE152.out | refine below_set ?_ GE153.out) | exact HB.out)), fun _ _ => (by (with_reducible repeat (first | apply Kd.R_alloc | apply Kd.R_drewN | apply Kd.R_drew)); exact Kd.R_mono HO156.out (fun _ hk => ⟨hk.1.1.2, ⟨hk.1.2, hk.2⟩⟩)), fun h0_ => absurd ((hoff 6 (by kernel_rfl)).symm.trans h0_) (by decide), z_HO162, z_HO165, fun h0_ => absurd ((hoff 14 (by kernel_rfl)).symm.trans h0_) (by decide), fun h0_ => absurd ((hoff 15 (by kernel_rfl)).symm.trans h0_) (by decide)⟩
    refine steps_cons ?_ ?_
    · rintro b a w' ⟨v155, v158, v161, v164, m14_, m15_, ha, Q_BK151, Q_BK152, Q_BK153, Q_HB, Q_HO156, Q_HO159, Q_HO162, Q_HO165, Q_X14_, Q_X15_⟩ hb_ hon hoff
      refine ⟨_, rfl, fun K hK => ?_⟩
      have e23 : a.tmps[23]? = some (v155) := by rw [ha]; exact putSel_on (e := (5, 23, v155)) 5 rfl rfl (hon 5 (by kernel_rfl)) rfl
      replace ha := Aside0.mk ha
      have BK151 := Aside0.mk Q_BK151
      have BK152 := Aside0.mk Q_BK152
      have BK153 := Aside0.mk Q_BK153
      have HB := Aside0.mk Q_HB
      have HO156 := Aside0.mk (Q_HO156 (hon 5 (by kernel_rfl)) hb_)
      obtain ⟨Ao20, co20, eo20⟩ := Kd.R_slice HO156.out
      (first | subst eo20 | (injection eo20 with f1_ f2_ f3_; have f4_ := f1_.symm; have f5_ := f3_.symm; clear f1_ f2_ f3_; subst f4_; subst f5_))
      refine Kd.N_lit_step (Kd.slice 52 k52) _ 49 ?hg (N' := 24) ?hd (xs := ([y154] : List (List (S52)))) (inner := [.slice Ao20 y154.length co20]) (ok := (fun k_ => k_ ≠ gb151 ∧ k_ ≠ gb152 ∧ k_ ≠ gb153)) (okp := (fun k_ => k_ ≠ gb151 ∧ k_ ≠ gb152 ∧ k_ ≠ gb153)) ?hr ?hp (fun _ hk => hk) ((show ∀ k_, w'.heap.size ≤ k_ → (fun k_ => k_ ≠ gb151 ∧ k_ ≠ gb152 ∧ k_ ≠ gb153) k_ from fun k_ hk => ⟨Kd.freshB (g := gb151) (o := .cells #[.int .u8 1, .int .u8 0, .int .u8 0, .int .u8 0, .int .u8 0, .int .u8 0, .int .u8 0, .int .u8 0] 52 (0, 0)) (by (with_reducible repeat (first | refine blk_drewN ?_ _ | refine blk_drew ?_ | refine blk_alloc ?_ _)); exact BK151.out) k_ hk, Kd.freshB (g := gb152) (o := .cells #[.int .u8 2, .int .u8 0, .int .u8 0, .int .u8 0, .int .u8 0, .int .u8 0, .int .u8 0, .int .u8 0] 52 (0, 0)) (by (with_reducible repeat (first | refine blk_drewN ?_ _ | refine blk_drew ?_ | refine blk_alloc ?_ _)); exact BK152.out) k_ hk, Kd.freshB (g := gb153) (o := .cells #[.int .u8 3, .int .u8 0, .int .u8 0, .int .u8 0, .int .u8 0, .int .u8 0, .int .u8 0, .int .u8 0] 52 (0, 0)) (by (with_reducible repeat (first | refine blk_drewN ?_ _ | refine blk_drew ?_ | refine blk_alloc ?_ _)); exact BK153.out) k_ hk⟩) _ (Nat.le_refl _)) (Below.refl _ _) (Nat.le_refl _) (by simp) ?_; (case hd => rfl); (case hg => rfl); (case hr => first | (go_simp; done) | (go_simp; rfl)); (case hp => exact (Reps.one (show Kd.FK (Kd.slice 52 k52) _ _ y154 [.slice Ao20 y154.length co20] from (Kd.FK_slice_mk (Kd.R_reads' (Kd.R_mono (ok' := (fun k_ => k_ ≠ gb151 ∧ k_ ≠ gb152 ∧ k_ ≠ gb153)) (HO156.out) (fun k_ hk => ⟨hk.1, ⟨hk.2.1, hk.2.2⟩⟩))).2.1 (Kd.R_F (Kd.R_mono (ok' := (fun k_ => k_ ≠ gb151 ∧ k_ ≠ gb152 ∧ k_ ≠ gb153)) (HO156.out) (fun k_ hk => ⟨hk.1, ⟨hk.2.1, hk.2.2⟩⟩))))) (Reps.none _ _)))
      intro v158 w21 ho22 hb hg_ hnew_
      clear hg_ hnew_
      (first | rw [← Ny157.out] at ho22 | (simp only [Int.reduceToNat] at ho22; rw [← Ny157.out] at ho22))
      have n0_ := Aside0.mk (Kd.N_lower ho22 (below_size (by repeat (first | (with_reducible first | exact HB.out | apply below_alloc | apply pw_below_drewN | apply below_drew1 | refine below_set ?_ GE151.out | refine below_set ?_ GE152.out | refine below_set ?_ GE153.out) | exact HB.out))))
      have n1_ := Aside0.mk (blk_below (g := gb151) (o := .cells #[.int .u8 1, .int .u8 0, .int .u8 0, .int .u8 0, .int .u8 0, .int .u8 0, .int .u8 0, .int .u8 0] 52 (0, 0)) (by (with_reducible repeat (first | refine blk_drewN ?_ _ | refine blk_drew ?_ | refine blk_alloc ?_ _)); exact BK151.out) hb)
      have n2_ := Aside0.mk (blk_below (g := gb152) (o := .cells #[.int .u8 2, .int .u8 0, .int .u8 0, .int .u8 0, .int .u8 0, .int .u8 0, .int .u8 0, .int .u8 0] 52 (0, 0)) (by (with_reducible repeat (first | refine blk_drewN ?_ _ | refine blk_drew ?_ | refine blk_alloc ?_ _)); exact BK152.out) hb)
      have n3_ := Aside0.mk (blk_below (g := gb153) (o := .cells #[.int .u8 3, .int .u8 0, .int .u8 0, .int .u8 0, .int .u8 0, .int .u8 0, .int .u8 0, .int .u8 0] 52 (0, 0)) (by (with_reducible repeat (first | refine blk_drewN ?_ _ | refine blk_drew ?_ | refine blk_alloc ?_ _)); exact BK153.out) hb)
      have n4_ := Aside0.mk (below_step (by repeat (first | (with_reducible first | exact HB.out | apply below_alloc | apply pw_below_drewN | apply below_drew1 | refine below_set ?_ GE151.out | refine below_set ?_ GE152.out | refine below_set ?_ GE153.out) | exact HB.out)) hb)
      have z_HO162 := fun (h0_ : b 12 = true) (h1_ : b 13 = false) => (show Kd.R k52 52 w21 w.heap.size (fun k_ => k_ ≠ gb151 ∧ k_ ≠ gb152 ∧ k_ ≠ gb153) v161 y160 from by first | exact (Kd.R_below (by (with_reducible repeat (first | apply Kd.R_alloc | apply Kd.R_drewN | apply Kd.R_drew)); exact (Q_HO162 h0_ h1_)) hb) | exact Kd.R_mono (Kd.R_below (by (with_reducible repeat (first | apply Kd.R_alloc | apply Kd.R_drewN | apply Kd.R_drew)); exact (Q_HO162 h0_ h1_)) hb) (fun _ h_ => by first | trivial | exact h_ | exact h_.1))
      have z_HO165 := fun (h0_ : b 13 = true) => (show Kd.N (Kd.slice 52 k52) 49 w21 w.heap.size (fun k_ => k_ ≠ gb151 ∧ k_ ≠ gb152 ∧ k_ ≠ gb153) v164 y163 from by first | exact (Kd.N_elder' (by (with_reducible repeat (first | apply Kd.N_alloc | apply Kd.N_drewN | apply Kd.N_drew)); exact (Q_HO165 h0_)) (Kd.N_base ho22) hb) | exact Kd.N_mono (Kd.N_elder' (by (with_reducible repeat (first | apply Kd.N_alloc | apply Kd.N_drewN | apply Kd.N_drew)); exact (Q_HO165 h0_)) (Kd.N_base ho22) hb) (fun _ h_ => by first | trivial | exact h_ | exact h_.1))
      clear BK151
      clear BK152
      clear BK153
      clear HB
      clear HO156
      have HO159 := n0_
      have BK151 := n1_
      have BK152 := n2_
      have BK153 := n3_
      have HB := n4_
      clear n0_ n1_ n2_ n3_ n4_
      clear hb ho22
      refine hK.out _ _ ⟨.slice Ao20 y154.length co20, v158, v161, v164, m14_, m15_, (by rw [ha.out]; exact putSel_upk 6 hb_ rfl rfl rfl), (by (with_reducible repeat (first | refine blk_drewN ?_ _ | refine blk_drew ?_ | refine blk_alloc ?_ _)); exact BK151.out), (by (with_reducible repeat (first | refine blk_drewN ?_ _ | refine blk_drew ?_ | refine blk_alloc ?_ _)); exact BK152.out), (by (with_reducible repeat (first | refine blk_drewN ?_ _ | refine blk_drew ?_ | refine blk_alloc ?_ _)); exact BK153.out), (by repeat (first | (with_reducible first | exact HB.out | apply below_alloc | apply pw_below_drewN | apply below_drew1 | refine below_set ?_ GE151.out | refine below_set ?_ GE152.out | refine below_set ?_ GE153.out) | exact HB.out)), fun _ h1_ => absurd ((up_self b 6).symm.trans h1_) (by decide), fun _ => (by (with_reducible repeat (first | apply Kd.N_alloc | apply Kd.N_drewN | apply Kd.N_drew)); exact HO159.out), z_HO162, z_HO165, fun h0_ => absurd ((hoff 14 (by kernel_rfl)).symm.trans h0_) (by decide), fun h0_ => absurd ((hoff 15 (by kernel_rfl)).symm.trans h0_) (by decide)⟩
    refine steps_cons ?_ ?_
    · rintro b a w' ⟨v155, v158, v161, v164, m14_, m15_, ha, Q_BK151, Q_BK152, Q_BK153, Q_HB, Q_HO156, Q_HO159, Q_HO162, Q_HO165, Q_X14_, Q_X15_⟩ hb_ hon hoff
      refine ⟨_, rfl, fun K hK => ?_⟩
      replace ha := Aside0.mk ha
      have BK151 := Aside0.mk Q_BK151
      have BK152 := Aside0.mk Q_BK152
      have BK153 := Aside0.mk Q_BK153
      have HB := Aside0.mk Q_HB
      refine value_ (w1 := w') (v := .agg #[.int .u8 0, .int .u8 0, .int .u8 0, .int .u8 0, .int .u8 0, .int .u8 0, .int .u8 0, .int .u8 0]) (by rfl) rfl ?_ ?_
      · go_simp
        (try simp only [i64_w])
        try rfl
      refine hK.out _ _ ⟨v155, v158, v161, v164, m14_, m15_, (by rw [ha.out]; exact putSel_upk 7 hb_ rfl rfl rfl), Q_BK151, Q_BK152, Q_BK153, Q_HB, Q_HO156, Q_HO159, fun h0_ _ => absurd ((hoff 12 (by kernel_rfl)).symm.trans h0_) (by decide), fun h0_ => absurd ((hoff 13 (by kernel_rfl)).symm.trans h0_) (by decide), Q_X14_, fun h0_ => absurd ((hoff 15 (by kernel_rfl)).symm.trans h0_) (by decide)⟩
    refine steps_cons ?_ ?_
    · rintro b a w' ⟨v155, v158, v161, v164, m14_, m15_, ha, Q_BK151, Q_BK152, Q_BK153, Q_HB, Q_HO156, Q_HO159, Q_HO162, Q_HO165, Q_X14_, Q_X15_⟩ hb_ hon hoff
      refine ⟨_, rfl, fun K hK => ?_⟩
      have e2 : a.tmps[2]? = some (.pointer (some ⟨gb152, 0, none⟩)) := by rw [ha]; exact (putSel_off rfl).trans rfl
      replace ha := Aside0.mk ha
      have BK151 := Aside0.mk Q_BK151
      have BK152 := Aside0.mk Q_BK152
      have BK153 := Aside0.mk Q_BK153
      have HB := Aside0.mk Q_HB
      have hc0_ : w'.cell? ⟨gb152, 0, none⟩ = some (.int .u8 2) := (blk_cell BK152.out 0).trans rfl
      have hc1_ : w'.cell? ⟨gb152, 1, none⟩ = some (.int .u8 0) := (blk_cell BK152.out 1).trans rfl
      have hc2_ : w'.cell? ⟨gb152, 2, none⟩ = some (.int .u8 0) := (blk_cell BK152.out 2).trans rfl
      have hc3_ : w'.cell? ⟨gb152, 3, none⟩ = some (.int .u8 0) := (blk_cell BK152.out 3).trans rfl
      have hc4_ : w'.cell? ⟨gb152, 4, none⟩ = some (.int .u8 0) := (blk_cell BK152.out 4).trans rfl
      have hc5_ : w'.cell? ⟨gb152, 5, none⟩ = some (.int .u8 0) := (blk_cell BK152.out 5).trans rfl
      have hc6_ : w'.cell? ⟨gb152, 6, none⟩ = some (.int .u8 0) := (blk_cell BK152.out 6).trans rfl
      have hc7_ : w'.cell? ⟨gb152, 7, none⟩ = some (.int .u8 0) := (blk_cell BK152.out 7).trans rfl
      refine value_ (w1 := w') (v := .agg #[.int .u8 2, .int .u8 0, .int .u8 0, .int .u8 0, .int .u8 0, .int .u8 0, .int .u8 0, .int .u8 0]) (by rfl) rfl ?_ ?_
      · go_simp
        (try simp only [i64_w])
        try rfl
      refine hK.out _ _ ⟨v155, v158, v161, v164, m14_, m15_, (by rw [ha.out]; exact putSel_upk 8 hb_ rfl rfl rfl), Q_BK151, Q_BK152, Q_BK153, Q_HB, Q_HO156, Q_HO159, fun h0_ _ => absurd ((hoff 12 (by kernel_rfl)).symm.trans h0_) (by decide), fun h0_ => absurd ((hoff 13 (by kernel_rfl)).symm.trans h0_) (by decide), Q_X14_, fun h0_ => absurd ((hoff 15 (by kernel_rfl)).symm.trans h0_) (by decide)⟩
    refine steps_cons ?_ ?_
    · rintro b a w' ⟨v155, v158, v161, v164, m14_, m15_, ha, Q_BK151, Q_BK152, Q_BK153, Q_HB, Q_HO156, Q_HO159, Q_HO162, Q_HO165, Q_X14_, Q_X15_⟩ hb_ hon hoff
      refine ⟨_, rfl, fun K hK => ?_⟩
      replace ha := Aside0.mk ha
      have BK151 := Aside0.mk Q_BK151
      have BK152 := Aside0.mk Q_BK152
      have BK153 := Aside0.mk Q_BK153
      have HB := Aside0.mk Q_HB
      refine value_ (w1 := w') (v := .agg #[.int .u8 0, .int .u8 0, .int .u8 0, .int .u8 0, .int .u8 0, .int .u8 0, .int .u8 0, .int .u8 0]) (by rfl) rfl ?_ ?_
      · go_simp
        (try simp only [i64_w])
        try rfl
      refine hK.out _ _ ⟨v155, v158, v161, v164, m14_, m15_, (by rw [ha.out]; exact putSel_upk 9 hb_ rfl rfl rfl), Q_BK151, Q_BK152, Q_BK153, Q_HB, Q_HO156, Q_HO159, fun h0_ _ => absurd ((hoff 12 (by kernel_rfl)).symm.trans h0_) (by decide), fun h0_ => absurd ((hoff 13 (by kernel_rfl)).symm.trans h0_) (by decide), Q_X14_, fun h0_ => absurd ((hoff 15 (by kernel_rfl)).symm.trans h0_) (by decide)⟩
    refine steps_cons ?_ ?_
    · rintro b a w' ⟨v155, v158, v161, v164, m14_, m15_, ha, Q_BK151, Q_BK152, Q_BK153, Q_HB, Q_HO156, Q_HO159, Q_HO162, Q_HO165, Q_X14_, Q_X15_⟩ hb_ hon hoff
      refine ⟨_, rfl, fun K hK => ?_⟩
      replace ha := Aside0.mk ha
      have BK151 := Aside0.mk Q_BK151
      have BK152 := Aside0.mk Q_BK152
      have BK153 := Aside0.mk Q_BK153
      have HB := Aside0.mk Q_HB
      refine value_ (w1 := w') (v := .agg #[.int .u8 0, .int .u8 0, .int .u8 0, .int .u8 0, .int .u8 0, .int .u8 0, .int .u8 0, .int .u8 0]) (by rfl) rfl ?_ ?_
      · go_simp
        (try simp only [i64_w])
        try rfl
      refine hK.out _ _ ⟨v155, v158, v161, v164, m14_, m15_, (by rw [ha.out]; exact putSel_upk 10 hb_ rfl rfl rfl), Q_BK151, Q_BK152, Q_BK153, Q_HB, Q_HO156, Q_HO159, fun h0_ _ => absurd ((hoff 12 (by kernel_rfl)).symm.trans h0_) (by decide), fun h0_ => absurd ((hoff 13 (by kernel_rfl)).symm.trans h0_) (by decide), Q_X14_, fun h0_ => absurd ((hoff 15 (by kernel_rfl)).symm.trans h0_) (by decide)⟩
    refine steps_cons ?_ ?_
    · rintro b a w' ⟨v155, v158, v161, v164, m14_, m15_, ha, Q_BK151, Q_BK152, Q_BK153, Q_HB, Q_HO156, Q_HO159, Q_HO162, Q_HO165, Q_X14_, Q_X15_⟩ hb_ hon hoff
      refine ⟨_, rfl, fun K hK => ?_⟩
      replace ha := Aside0.mk ha
      have BK151 := Aside0.mk Q_BK151
      have BK152 := Aside0.mk Q_BK152
      have BK153 := Aside0.mk Q_BK153
      have HB := Aside0.mk Q_HB
      refine value_ (w1 := w') (v := .agg #[.int .u8 0, .int .u8 0, .int .u8 0, .int .u8 0, .int .u8 0, .int .u8 0, .int .u8 0, .int .u8 0]) (by rfl) rfl ?_ ?_
      · go_simp
        (try simp only [i64_w])
        try rfl
      refine hK.out _ _ ⟨v155, v158, v161, v164, m14_, m15_, (by rw [ha.out]; exact putSel_upk 11 hb_ rfl rfl rfl), Q_BK151, Q_BK152, Q_BK153, Q_HB, Q_HO156, Q_HO159, fun h0_ _ => absurd ((hoff 12 (by kernel_rfl)).symm.trans h0_) (by decide), fun h0_ => absurd ((hoff 13 (by kernel_rfl)).symm.trans h0_) (by decide), Q_X14_, fun h0_ => absurd ((hoff 15 (by kernel_rfl)).symm.trans h0_) (by decide)⟩
    refine steps_cons ?_ ?_
    · rintro b a w' ⟨v155, v158, v161, v164, m14_, m15_, ha, Q_BK151, Q_BK152, Q_BK153, Q_HB, Q_HO156, Q_HO159, Q_HO162, Q_HO165, Q_X14_, Q_X15_⟩ hb_ hon hoff
      refine ⟨_, rfl, fun K hK => ?_⟩
      have e25 : a.tmps[25]? = some (.agg #[.int .u8 0, .int .u8 0, .int .u8 0, .int .u8 0, .int .u8 0, .int .u8 0, .int .u8 0, .int .u8 0]) := by rw [ha]; exact putSel_on (e := (7, 25, .agg #[.int .u8 0, .int .u8 0, .int .u8 0, .int .u8 0, .int .u8 0, .int .u8 0, .int .u8 0, .int .u8 0])) 7 rfl rfl (hon 7 (by kernel_rfl)) rfl
      have e26 : a.tmps[26]? = some (.agg #[.int .u8 2, .int .u8 0, .int .u8 0, .int .u8 0, .int .u8 0, .int .u8 0, .int .u8 0, .int .u8 0]) := by rw [ha]; exact putSel_on (e := (8, 26, .agg #[.int .u8 2, .int .u8 0, .int .u8 0, .int .u8 0, .int .u8 0, .int .u8 0, .int .u8 0, .int .u8 0])) 8 rfl rfl (hon 8 (by kernel_rfl)) rfl
      have e27 : a.tmps[27]? = some (.agg #[.int .u8 0, .int .u8 0, .int .u8 0, .int .u8 0, .int .u8 0, .int .u8 0, .int .u8 0, .int .u8 0]) := by rw [ha]; exact putSel_on (e := (9, 27, .agg #[.int .u8 0, .int .u8 0, .int .u8 0, .int .u8 0, .int .u8 0, .int .u8 0, .int .u8 0, .int .u8 0])) 9 rfl rfl (hon 9 (by kernel_rfl)) rfl
      have e28 : a.tmps[28]? = some (.agg #[.int .u8 0, .int .u8 0, .int .u8 0, .int .u8 0, .int .u8 0, .int .u8 0, .int .u8 0, .int .u8 0]) := by rw [ha]; exact putSel_on (e := (10, 28, .agg #[.int .u8 0, .int .u8 0, .int .u8 0, .int .u8 0, .int .u8 0, .int .u8 0, .int .u8 0, .int .u8 0])) 10 rfl rfl (hon 10 (by kernel_rfl)) rfl
      have e29 : a.tmps[29]? = some (.agg #[.int .u8 0, .int .u8 0, .int .u8 0, .int .u8 0, .int .u8 0, .int .u8 0, .int .u8 0, .int .u8 0]) := by rw [ha]; exact putSel_on (e := (11, 29, .agg #[.int .u8 0, .int .u8 0, .int .u8 0, .int .u8 0, .int .u8 0, .int .u8 0, .int .u8 0, .int .u8 0])) 11 rfl rfl (hon 11 (by kernel_rfl)) rfl
      replace ha := Aside0.mk ha
      have BK151 := Aside0.mk Q_BK151
      have BK152 := Aside0.mk Q_BK152
      have BK153 := Aside0.mk Q_BK153
      have HB := Aside0.mk Q_HB
      refine Kd.R_lit_step k52 _ 52 ?hg (N := 30) ?hd (xs := ([(⟨0, 0, 0, 0, 0, 0, 0, 0⟩ : S52), (⟨2, 0, 0, 0, 0, 0, 0, 0⟩ : S52), (⟨0, 0, 0, 0, 0, 0, 0, 0⟩ : S52), (⟨0, 0, 0, 0, 0, 0, 0, 0⟩ : S52), (⟨0, 0, 0, 0, 0, 0, 0, 0⟩ : S52)] : List (S52))) (inner := [.int .u8 0, .int .u8 0, .int .u8 0, .int .u8 0, .int .u8 0, .int .u8 0, .int .u8 0, .int .u8 0, .int .u8 2, .int .u8 0, .int .u8 0, .int .u8 0, .int .u8 0, .int .u8 0, .int .u8 0, .int .u8 0, .int .u8 0, .int .u8 0, .int .u8 0, .int .u8 0, .int .u8 0, .int .u8 0, .int .u8 0, .int .u8 0, .int .u8 0, .int .u8 0, .int .u8 0, .int .u8 0, .int .u8 0, .int .u8 0, .int .u8 0, .int .u8 0, .int .u8 0, .int .u8 0, .int .u8 0, .int .u8 0, .int .u8 0, .int .u8 0, .int .u8 0, .int .u8 0]) (ok := fun _ => True) (okp := fun _ => True) ?hr ?hp (fun _ hk => hk) trivial (Below.refl _ _) (Nat.le_refl _) (by simp) ?_; (case hd => rfl); (case hg => rfl); (case hr => first | (go_simp; done) | (go_simp; rfl)); (case hp => exact (Reps.c8 (show Kd.M k52 _ _ _ (⟨0, 0, 0, 0, 0, 0, 0, 0⟩ : S52) [.int .u8 0, .int .u8 0, .int .u8 0, .int .u8 0, .int .u8 0, .int .u8 0, .int .u8 0, .int .u8 0] from (k52_mkM _ _ _ (⟨0, 0, 0, 0, 0, 0, 0, 0⟩ : S52) )) (Reps.c8 (show Kd.M k52 _ _ _ (⟨2, 0, 0, 0, 0, 0, 0, 0⟩ : S52) [.int .u8 2, .int .u8 0, .int .u8 0, .int .u8 0, .int .u8 0, .int .u8 0, .int .u8 0, .int .u8 0] from (k52_mkM _ _ _ (⟨2, 0, 0, 0, 0, 0, 0, 0⟩ : S52) )) (Reps.c8 (show Kd.M k52 _ _ _ (⟨0, 0, 0, 0, 0, 0, 0, 0⟩ : S52) [.int .u8 0, .int .u8 0, .int .u8 0, .int .u8 0, .int .u8 0, .int .u8 0, .int .u8 0, .int .u8 0] from (k52_mkM _ _ _ (⟨0, 0, 0, 0, 0, 0, 0, 0⟩ : S52) )) (Reps.c8 (show Kd.M k52 _ _ _ (⟨0, 0, 0, 0, 0, 0, 0, 0⟩ : S52) [.int .u8 0, .int .u8 0, .int .u8 0, .int .u8 0, .int .u8 0, .int .u8 0, .int .u8 0, .int .u8 0] from (k52_mkM _ _ _ (⟨0, 0, 0, 0, 0, 0, 0, 0⟩ : S52) )) (Reps.c8 (show Kd.M k52 _ _ _ (⟨0, 0, 0, 0, 0, 0, 0, 0⟩ : S52) [.int .u8 0, .int .u8 0, .int .u8 0, .int .u8 0, .int .u8 0, .int .u8 0, .int .u8 0, .int .u8 0] from (k52_mkM _ _ _ (⟨0, 0, 0, 0, 0, 0, 0, 0⟩ : S52) )) (Reps.none _ _)))))))
      intro v161 w17 ho18 hb hg_ hnew_
      clear hg_ hnew_
      (first | rw [← Ny160.out] at ho18 | (simp only [Int.reduceToNat] at ho18; rw [← Ny160.out] at ho18))
      have n0_ := Aside0.mk (Kd.R_lower (Kd.R_newB (Kd.R_newB (Kd.R_newB ho18 (g := gb151) (o := .cells #[.int .u8 1, .int .u8 0, .int .u8 0, .int .u8 0, .int .u8 0, .int .u8 0, .int .u8 0, .int .u8 0] 52 (0, 0)) (by (with_reducible repeat (first | refine blk_drewN ?_ _ | refine blk_drew ?_ | refine blk_alloc ?_ _)); exact BK151.out)) (g := gb152) (o := .cells #[.int .u8 2, .int .u8 0, .int .u8 0, .int .u8 0, .int .u8 0, .int .u8 0, .int .u8 0, .int .u8 0] 52 (0, 0)) (by (with_reducible repeat (first | refine blk_drewN ?_ _ | refine blk_drew ?_ | refine blk_alloc ?_ _)); exact BK152.out)) (g := gb153) (o := .cells #[.int .u8 3, .int .u8 0, .int .u8 0, .int .u8 0, .int .u8 0, .int .u8 0, .int .u8 0, .int .u8 0] 52 (0, 0)) (by (with_reducible repeat (first | refine blk_drewN ?_ _ | refine blk_drew ?_ | refine blk_alloc ?_ _)); exact BK153.out)) (below_size (by repeat (first | (with_reducible first | exact HB.out | apply below_alloc | apply pw_below_drewN | apply below_drew1 | refine below_set ?_ GE151.out | refine below_set ?_ GE152.out | refine below_set ?_ GE153.out) | exact HB.out))))
      have n1_ := Aside0.mk (blk_below (g := gb151) (o := .cells #[.int .u8 1, .int .u8 0, .int .u8 0, .int .u8 0, .int .u8 0, .int .u8 0, .int .u8 0, .int .u8 0] 52 (0, 0)) (by (with_reducible repeat (first | refine blk_drewN ?_ _ | refine blk_drew ?_ | refine blk_alloc ?_ _)); exact BK151.out) hb)
      have n2_ := Aside0.mk (blk_below (g := gb152) (o := .cells #[.int .u8 2, .int .u8 0, .int .u8 0, .int .u8 0, .int .u8 0, .int .u8 0, .int .u8 0, .int .u8 0] 52 (0, 0)) (by (with_reducible repeat (first | refine blk_drewN ?_ _ | refine blk_drew ?_ | refine blk_alloc ?_ _)); exact BK152.out) hb)
      have n3_ := Aside0.mk (blk_below (g := gb153) (o := .cells #[.int .u8 3, .int .u8 0, .int .u8 0, .int .u8 0, .int .u8 0, .int .u8 0, .int .u8 0, .int .u8 0] 52 (0, 0)) (by (with_reducible repeat (first | refine blk_drewN ?_ _ | refine blk_drew ?_ | refine blk_alloc ?_ _)); exact BK153.out) hb)
      have n4_ := Aside0.mk (below_step (by repeat (first | (with_reducible first | exact HB.out | apply below_alloc | apply pw_below_drewN | apply below_drew1 | refine below_set ?_ GE151.out | refine below_set ?_ GE152.out | refine below_set ?_ GE153.out) | exact HB.out)) hb)
      have z_HO156 := fun (h0_ : b 5 = true) (h1_ : b 6 = false) => (show Kd.R k52 52 w17 w.heap.size (fun k_ => k_ ≠ gb151 ∧ k_ ≠ gb152 ∧ k_ ≠ gb153) v155 y154 from by first | exact (Kd.R_elder' (by (with_reducible repeat (first | apply Kd.R_alloc | apply Kd.R_drewN | apply Kd.R_drew)); exact (Q_HO156 h0_ h1_)) (Kd.R_base ho18) hb) | exact Kd.R_mono (Kd.R_elder' (by (with_reducible repeat (first | apply Kd.R_alloc | apply Kd.R_drewN | apply Kd.R_drew)); exact (Q_HO156 h0_ h1_)) (Kd.R_base ho18) hb) (fun _ h_ => by first | trivial | exact h_ | exact h_.1))
      have z_HO159 := fun (h0_ : b 6 = true) => (show Kd.N (Kd.slice 52 k52) 49 w17 w.heap.size (fun k_ => k_ ≠ gb151 ∧ k_ ≠ gb152 ∧ k_ ≠ gb153) v158 y157 from by first | exact (Kd.N_elder' (by (with_reducible repeat (first | apply Kd.N_alloc | apply Kd.N_drewN | apply Kd.N_drew)); exact (Q_HO159 h0_)) (Kd.R_base ho18) hb) | exact Kd.N_mono (Kd.N_elder' (by (with_reducible repeat (first | apply Kd.N_alloc | apply Kd.N_drewN | apply Kd.N_drew)); exact (Q_HO159 h0_)) (Kd.R_base ho18) hb) (fun _ h_ => by first | trivial | exact h_ | exact h_.1))
      clear BK151
      clear BK152
      clear BK153
      clear HB
      have HO162 := n0_
      have BK151 := n1_
      have BK152 := n2_
      have BK153 := n3_
      have HB := n4_
      clear n0_ n1_ n2_ n3_ n4_
      clear hb ho18
      refine hK.out _ _ ⟨v155, v158, v161, v164, m14_, m15_, (by rw [ha.out]; exact putSel_upk 12 hb_ rfl rfl rfl), (by (with_reducible repeat (first | refine blk_drewN ?_ _ | refine blk_drew ?_ | refine blk_alloc ?_ _)); exact BK151.out), (by (with_reducible repeat (first | refine blk_drewN ?_ _ | refine blk_drew ?_ | refine blk_alloc ?_ _)); exact BK152.out), (by (with_reducible repeat (first | refine blk_drewN ?_ _ | refine blk_drew ?_ | refine blk_alloc ?_ _)); exact BK153.out), (by repeat (first | (with_reducible first | exact HB.out | apply below_alloc | apply pw_below_drewN | apply below_drew1 | refine below_set ?_ GE151.out | refine below_set ?_ GE152.out | refine below_set ?_ GE153.out) | exact HB.out)), z_HO156, z_HO159, fun _ _ => (by (with_reducible repeat (first | apply Kd.R_alloc | apply Kd.R_drewN | apply Kd.R_drew)); exact Kd.R_mono HO162.out (fun _ hk => ⟨hk.1.1.2, ⟨hk.1.2, hk.2⟩⟩)), fun h0_ => absurd ((hoff 13 (by kernel_rfl)).symm.trans h0_) (by decide), Q_X14_, fun h0_ => absurd ((hoff 15 (by kernel_rfl)).symm.trans h0_) (by decide)⟩
    refine steps_cons ?_ ?_
    · rintro b a w' ⟨v155, v158, v161, v164, m14_, m15_, ha, Q_BK151, Q_BK152, Q_BK153, Q_HB, Q_HO156, Q_HO159, Q_HO162, Q_HO165, Q_X14_, Q_X15_⟩ hb_ hon hoff
      refine ⟨_, rfl, fun K hK => ?_⟩
      have e30 : a.tmps[30]? = some (v161) := by rw [ha]; exact putSel_on (e := (12, 30, v161)) 12 rfl rfl (hon 12 (by kernel_rfl)) rfl
      replace ha := Aside0.mk ha
      have BK151 := Aside0.mk Q_BK151
      have BK152 := Aside0.mk Q_BK152
      have BK153 := Aside0.mk Q_BK153
      have HB := Aside0.mk Q_HB
      have HO162 := Aside0.mk (Q_HO162 (hon 12 (by kernel_rfl)) hb_)
      obtain ⟨Ao20, co20, eo20⟩ := Kd.R_slice HO162.out
      (first | subst eo20 | (injection eo20 with f1_ f2_ f3_; have f4_ := f1_.symm; have f5_ := f3_.symm; clear f1_ f2_ f3_; subst f4_; subst f5_))
      refine Kd.N_lit_step (Kd.slice 52 k52) _ 49 ?hg (N' := 31) ?hd (xs := ([y160] : List (List (S52)))) (inner := [.slice Ao20 y160.length co20]) (ok := (fun k_ => k_ ≠ gb151 ∧ k_ ≠ gb152 ∧ k_ ≠ gb153)) (okp := (fun k_ => k_ ≠ gb151 ∧ k_ ≠ gb152 ∧ k_ ≠ gb153)) ?hr ?hp (fun _ hk => hk) ((show ∀ k_, w'.heap.size ≤ k_ → (fun k_ => k_ ≠ gb151 ∧ k_ ≠ gb152 ∧ k_ ≠ gb153) k_ from fun k_ hk => ⟨Kd.freshB (g := gb151) (o := .cells #[.int .u8 1, .int .u8 0, .int .u8 0, .int .u8 0, .int .u8 0, .int .u8 0, .int .u8 0, .int .u8 0] 52 (0, 0)) (by (with_reducible repeat (first | refine blk_drewN ?_ _ | refine blk_drew ?_ | refine blk_alloc ?_ _)); exact BK151.out) k_ hk, Kd.freshB (g := gb152) (o := .cells #[.int .u8 2, .int .u8 0, .int .u8 0, .int .u8 0, .int .u8 0, .int .u8 0, .int .u8 0, .int .u8 0] 52 (0, 0)) (by (with_reducible repeat (first | refine blk_drewN ?_ _ | refine blk_drew ?_ | refine blk_alloc ?_ _)); exact BK152.out) k_ hk, Kd.freshB (g := gb153) (o := .cells #[.int .u8 3, .int .u8 0, .int .u8 0, .int .u8 0, .int .u8 0, .int .u8 0, .int .u8 0, .int .u8 0] 52 (0, 0)) (by (with_reducible repeat (first | refine blk_drewN ?_ _ | refine blk_drew ?_ | refine blk_alloc ?_ _)); exact BK153.out) k_ hk⟩) _ (Nat.le_refl _)) (Below.refl _ _) (Nat.le_refl _) (by simp) ?_; (case hd => rfl); (case hg => rfl); (case hr => first | (go_simp; done) | (go_simp; rfl)); (case hp => exact (Reps.one (show Kd.FK (Kd.slice 52 k52) _ _ y160 [.slice Ao20 y160.length co20] from (Kd.FK_slice_mk (Kd.R_reads' (Kd.R_mono (ok' := (fun k_ => k_ ≠ gb151 ∧ k_ ≠ gb152 ∧ k_ ≠ gb153)) (HO162.out) (fun k_ hk => ⟨hk.1, ⟨hk.2.1, hk.2.2⟩⟩))).2.1 (Kd.R_F (Kd.R_mono (ok' := (fun k_ => k_ ≠ gb151 ∧ k_ ≠ gb152 ∧ k_ ≠ gb153)) (HO162.out) (fun k_ hk => ⟨hk.1, ⟨hk.2.1, hk.2.2⟩⟩))))) (Reps.none _ _)))
      intro v164 w21 ho22 hb hg_ hnew_
      clear hg_ hnew_
      (first | rw [← Ny163.out] at ho22 | (simp only [Int.reduceToNat] at ho22; rw [← Ny163.out] at ho22))
      have n0_ := Aside0.mk (Kd.N_lower ho22 (below_size (by repeat (first | (with_reducible first | exact HB.out | apply below_alloc | apply pw_below_drewN | apply below_drew1 | refine below_set ?_ GE151.out | refine below_set ?_ GE152.out | refine below_set ?_ GE153.out) | exact HB.out))))
      have n1_ := Aside0.mk (blk_below (g := gb151) (o := .cells #[.int .u8 1, .int .u8 0, .int .u8 0, .int .u8 0, .int .u8 0, .int .u8 0, .int .u8 0, .int .u8 0] 52 (0, 0)) (by (with_reducible repeat (first | refine blk_drewN ?_ _ | refine blk_drew ?_ | refine blk_alloc ?_ _)); exact BK151.out) hb)
      have n2_ := Aside0.mk (blk_below (g := gb152) (o := .cells #[.int .u8 2, .int .u8 0, .int .u8 0, .int .u8 0, .int .u8 0, .int .u8 0, .int .u8 0, .int .u8 0] 52 (0, 0)) (by (with_reducible repeat (first | refine blk_drewN ?_ _ | refine blk_drew ?_ | refine blk_alloc ?_ _)); exact BK152.out) hb)
      have n3_ := Aside0.mk (blk_below (g := gb153) (o := .cells #[.int .u8 3, .int .u8 0, .int .u8 0, .int .u8 0, .int .u8 0, .int .u8 0, .int .u8 0, .int .u8 0] 52 (0, 0)) (by (with_reducible repeat (first | refine blk_drewN ?_ _ | refine blk_drew ?_ | refine blk_alloc ?_ _)); exact BK153.out) hb)
      have n4_ := Aside0.mk (below_step (by repeat (first | (with_reducible first | exact HB.out | apply below_alloc | apply pw_below_drewN | apply below_drew1 | refine below_set ?_ GE151.out | refine below_set ?_ GE152.out | refine below_set ?_ GE153.out) | exact HB.out)) hb)
      have z_HO156 := fun (h0_ : b 5 = true) (h1_ : b 6 = false) => (show Kd.R k52 52 w21 w.heap.size (fun k_ => k_ ≠ gb151 ∧ k_ ≠ gb152 ∧ k_ ≠ gb153) v155 y154 from by first | exact (Kd.R_below (by (with_reducible repeat (first | apply Kd.R_alloc | apply Kd.R_drewN | apply Kd.R_drew)); exact (Q_HO156 h0_ h1_)) hb) | exact Kd.R_mono (Kd.R_below (by (with_reducible repeat (first | apply Kd.R_alloc | apply Kd.R_drewN | apply Kd.R_drew)); exact (Q_HO156 h0_ h1_)) hb) (fun _ h_ => by first | trivial | exact h_ | exact h_.1))
      have z_HO159 := fun (h0_ : b 6 = true) => (show Kd.N (Kd.slice 52 k52) 49 w21 w.heap.size (fun k_ => k_ ≠ gb151 ∧ k_ ≠ gb152 ∧ k_ ≠ gb153) v158 y157 from by first | exact (Kd.N_elder' (by (with_reducible repeat (first | apply Kd.N_alloc | apply Kd.N_drewN | apply Kd.N_drew)); exact (Q_HO159 h0_)) (Kd.N_base ho22) hb) | exact Kd.N_mono (Kd.N_elder' (by (with_reducible repeat (first | apply Kd.N_alloc | apply Kd.N_drewN | apply Kd.N_drew)); exact (Q_HO159 h0_)) (Kd.N_base ho22) hb) (fun _ h_ => by first | trivial | exact h_ | exact h_.1))
      clear BK151
      clear BK152
      clear BK153
      clear HB
      clear HO162
      have HO165 := n0_
      have BK151 := n1_
      have BK152 := n2_
      have BK153 := n3_
      have HB := n4_
      clear n0_ n1_ n2_ n3_ n4_
      clear hb ho22
      refine hK.out _ _ ⟨v155, v158, .slice Ao20 y160.length co20, v164, m14_, m15_, (by rw [ha.out]; exact putSel_upk 13 hb_ rfl rfl rfl), (by (with_reducible repeat (first | refine blk_drewN ?_ _ | refine blk_drew ?_ | refine blk_alloc ?_ _)); exact BK151.out), (by (with_reducible repeat (first | refine blk_drewN ?_ _ | refine blk_drew ?_ | refine blk_alloc ?_ _)); exact BK152.out), (by (with_reducible repeat (first | refine blk_drewN ?_ _ | refine blk_drew ?_ | refine blk_alloc ?_ _)); exact BK153.out), (by repeat (first | (with_reducible first | exact HB.out | apply below_alloc | apply pw_below_drewN | apply below_drew1 | refine below_set ?_ GE151.out | refine below_set ?_ GE152.out | refine below_set ?_ GE153.out) | exact HB.out)), z_HO156, z_HO159, fun _ h1_ => absurd ((up_self b 13).symm.trans h1_) (by decide), fun _ => (by (with_reducible repeat (first | apply Kd.N_alloc | apply Kd.N_drewN | apply Kd.N_drew)); exact HO165.out), Q_X14_, fun h0_ => absurd ((hoff 15 (by kernel_rfl)).symm.trans h0_) (by decide)⟩
    refine steps_cons ?_ ?_
    · rintro b a w' ⟨v155, v158, v161, v164, m14_, m15_, ha, Q_BK151, Q_BK152, Q_BK153, Q_HB, Q_HO156, Q_HO159, Q_HO162, Q_HO165, Q_X14_, Q_X15_⟩ hb_ hon hoff
      refine ⟨_, rfl, fun K hK => ?_⟩
      have e24 : a.tmps[24]? = some (v158) := by rw [ha]; exact putSel_on (e := (6, 24, v158)) 6 rfl rfl (hon 6 (by kernel_rfl)) rfl
      replace ha := Aside0.mk ha
      have BK151 := Aside0.mk Q_BK151
      have BK152 := Aside0.mk Q_BK152
      have BK153 := Aside0.mk Q_BK153
      have HB := Aside0.mk Q_HB
      have HO159 := Aside0.mk (Q_HO159 (hon 6 (by kernel_rfl)))
      refine value_ (w1 := w') (v := v158) (by rfl) rfl ?_ ?_
      · go_simp
        (try simp only [i64_w])
        try rfl
      refine hK.out _ _ ⟨v155, v158, v161, v164, (v158), m15_, (by rw [ha.out]; exact putSel_upk 14 hb_ rfl rfl rfl), Q_BK151, Q_BK152, Q_BK153, Q_HB, fun _ h1_ => absurd ((hon 6 (by kernel_rfl)).symm.trans h1_) (by decide), Q_HO159, Q_HO162, Q_HO165, fun _ => rfl, fun h0_ => absurd ((hoff 15 (by kernel_rfl)).symm.trans h0_) (by decide)⟩
    refine steps_cons ?_ ?_
    · rintro b a w' ⟨v155, v158, v161, v164, m14_, m15_, ha, Q_BK151, Q_BK152, Q_BK153, Q_HB, Q_HO156, Q_HO159, Q_HO162, Q_HO165, Q_X14_, Q_X15_⟩ hb_ hon hoff
      refine ⟨_, rfl, fun K hK => ?_⟩
      have e31 : a.tmps[31]? = some (v164) := by rw [ha]; exact putSel_on (e := (13, 31, v164)) 13 rfl rfl (hon 13 (by kernel_rfl)) rfl
      replace ha := Aside0.mk ha
      have BK151 := Aside0.mk Q_BK151
      have BK152 := Aside0.mk Q_BK152
      have BK153 := Aside0.mk Q_BK153
      have HB := Aside0.mk Q_HB
      have HO159 := Aside0.mk (Q_HO159 (hon 6 (by kernel_rfl)))
      have HO165 := Aside0.mk (Q_HO165 (hon 13 (by kernel_rfl)))
      refine value_ (w1 := w') (v := v164) (by rfl) rfl ?_ ?_
      · go_simp
        (try simp only [i64_w])
        try rfl
      refine hK.out _ _ ⟨v155, v158, v161, v164, m14_, (v164), (by rw [ha.out]; exact putSel_upk 15 hb_ rfl rfl rfl), Q_BK151, Q_BK152, Q_BK153, Q_HB, fun _ h1_ => absurd ((hon 6 (by kernel_rfl)).symm.trans h1_) (by decide), Q_HO159, fun _ h1_ => absurd ((hon 13 (by kernel_rfl)).symm.trans h1_) (by decide), Q_HO165, Q_X14_, fun _ => rfl⟩
    exact steps_nil
  rintro b a w27 hall ⟨v155, v158, v161, v164, m14_, m15_, ha, Q_BK151, Q_BK152, Q_BK153, Q_HB, Q_HO156, Q_HO159, Q_HO162, Q_HO165, Q_X14_, Q_X15_⟩
  clear BK151 BK152 BK153 HB
  have hb0_ := hall 0 (by kernel_rfl)
  have hb1_ := hall 1 (by kernel_rfl)
  have hb2_ := hall 2 (by kernel_rfl)
  have hb3_ := hall 3 (by kernel_rfl)
  have hb4_ := hall 4 (by kernel_rfl)
  have hb5_ := hall 5 (by kernel_rfl)
  have hb6_ := hall 6 (by kernel_rfl)
  have hb7_ := hall 7 (by kernel_rfl)
  have hb8_ := hall 8 (by kernel_rfl)
  have hb9_ := hall 9 (by kernel_rfl)
  have hb10_ := hall 10 (by kernel_rfl)
  have hb11_ := hall 11 (by kernel_rfl)
  have hb12_ := hall 12 (by kernel_rfl)
  have hb13_ := hall 13 (by kernel_rfl)
  have hb14_ := hall 14 (by kernel_rfl)
  have hb15_ := hall 15 (by kernel_rfl)
  subst ha
  obtain rfl := (Q_X14_ hb14_).symm
  obtain rfl := (Q_X15_ hb15_).symm
  simp only [putSel, hb0_, hb1_, hb2_, hb3_, hb4_, hb5_, hb6_, hb7_, hb8_, hb9_, hb10_, hb11_, hb12_, hb13_, hb14_, hb15_, if_true, Act.put, List.setIfInBounds_toArray, List.set_cons_zero, List.set_cons_succ]
  have BK151 := Aside0.mk Q_BK151
  clear Q_BK151
  have BK152 := Aside0.mk Q_BK152
  clear Q_BK152
  have BK153 := Aside0.mk Q_BK153
  clear Q_BK153
  have HB := Aside0.mk Q_HB
  clear Q_HB
  clear Q_HO156
  have HO159 := Aside0.mk (Q_HO159 hb6_)
  clear Q_HO159
  clear Q_HO162
  have HO165 := Aside0.mk (Q_HO165 hb13_)
  clear Q_HO165
  clear hall hb0_ hb1_ hb2_ hb3_ hb4_ hb5_ hb6_ hb7_ hb8_ hb9_ hb10_ hb11_ hb12_ hb13_ hb14_ hb15_
  go_upto_region 8 with (first | ((with_reducible refine gate_dst (N := 34) rfl ?_); (try (refine gate_guard (by rfl) ?_; dsimp only)); refine Kd.R_lit k54 _ 54 ?hg (N := 34) ?hd (xs := ([(⟨0, 2⟩ : S54), (⟨4, 1⟩ : S54)] : List (S54))) (inner := [.int .i64 0, .int .i64 2, .int .i64 4, .int .i64 1]) (ok := fun _ => True) (okp := fun _ => True) ?hr ?hp (fun _ hk => hk) trivial (Below.refl _ _) (Nat.le_refl _) (by simp) ?_; (case hd => rfl); (case hg => rfl); (case hr => first | (go_simp; done) | (go_simp; rfl)); (case hp => exact (Reps.c2 (show Kd.M k54 _ _ _ (⟨0, 2⟩ : S54) [.int .i64 0, .int .i64 2] from (k54_mkM _ _ _ (⟨0, 2⟩ : S54) )) (Reps.c2 (show Kd.M k54 _ _ _ (⟨4, 1⟩ : S54) [.int .i64 4, .int .i64 1] from (k54_mkM _ _ _ (⟨4, 1⟩ : S54) )) (Reps.none _ _)))); intro v167 w28 ho29 hb hg_ hnew_; clear hg_ hnew_; (first | rw [← Ny166.out] at ho29 | (simp only [Int.reduceToNat] at ho29; rw [← Ny166.out] at ho29)); have n0_ := Aside0.mk (Kd.N_elder' (by (with_reducible repeat (first | apply Kd.N_alloc | apply Kd.N_drewN | apply Kd.N_drew)); exact HO159.out) (Kd.R_base ho29) hb); have n1_ := Aside0.mk (Kd.N_elder' (by (with_reducible repeat (first | apply Kd.N_alloc | apply Kd.N_drewN | apply Kd.N_drew)); exact HO165.out) (Kd.R_base ho29) hb); have n2_ := Aside0.mk (Kd.R_lower ho29 (below_size (by repeat (first | (with_reducible first | exact HB.out | apply below_alloc | apply pw_below_drewN | apply below_drew1 | refine below_set ?_ GE151.out | refine below_set ?_ GE152.out | refine below_set ?_ GE153.out) | exact HB.out)))); have n3_ := Aside0.mk (blk_below (g := gb151) (o := .cells #[.int .u8 1, .int .u8 0, .int .u8 0, .int .u8 0, .int .u8 0, .int .u8 0, .int .u8 0, .int .u8 0] 52 (0, 0)) (by (with_reducible repeat (first | refine blk_drewN ?_ _ | refine blk_drew ?_ | refine blk_alloc ?_ _)); exact BK151.out) hb); have n4_ := Aside0.mk (blk_below (g := gb152) (o := .cells #[.int .u8 2, .int .u8 0, .int .u8 0, .int .u8 0, .int .u8 0, .int .u8 0, .int .u8 0, .int .u8 0] 52 (0, 0)) (by (with_reducible repeat (first | refine blk_drewN ?_ _ | refine blk_drew ?_ | refine blk_alloc ?_ _)); exact BK152.out) hb); have n5_ := Aside0.mk (blk_below (g := gb153) (o := .cells #[.int .u8 3, .int .u8 0, .int .u8 0, .int .u8 0, .int .u8 0, .int .u8 0, .int .u8 0, .int .u8 0] 52 (0, 0)) (by (with_reducible repeat (first | refine blk_drewN ?_ _ | refine blk_drew ?_ | refine blk_alloc ?_ _)); exact BK153.out) hb); have n6_ := Aside0.mk (below_step (by repeat (first | (with_reducible first | exact HB.out | apply below_alloc | apply pw_below_drewN | apply below_drew1 | refine below_set ?_ GE151.out | refine below_set ?_ GE152.out | refine below_set ?_ GE153.out) | exact HB.out)) hb); clear HO159; clear HO165; clear BK151; clear BK152; clear BK153; clear HB; have HO159 := n0_; have HO165 := n1_; have HO168 := n2_; have BK151 := n3_; have BK152 := n4_; have BK153 := n5_; have HB := n6_; clear n0_ n1_ n2_ n3_ n4_ n5_ n6_; clear hb ho29; obtain ⟨Ao30, co30, eo30⟩ := Kd.R_slice HO168.out; subst eo30) | ((with_reducible refine gate_dst (N := 35) rfl ?_); (try (refine gate_guard (by rfl) ?_; dsimp only)); refine Kd.N_lit (Kd.slice 54 k54) _ 50 ?hg (N' := 35) ?hd (xs := ([y166] : List (List (S54)))) (inner := [.slice Ao30 y166.length co30]) (ok := (fun k_ => some k_ ≠ (v158 : Value).ownBlock ∧ some k_ ≠ (v164 : Value).ownBlock ∧ k_ ≠ gb151 ∧ k_ ≠ gb152 ∧ k_ ≠ gb153)) (okp := (fun k_ => some k_ ≠ (v158 : Value).ownBlock ∧ some k_ ≠ (v164 : Value).ownBlock ∧ k_ ≠ gb151 ∧ k_ ≠ gb152 ∧ k_ ≠ gb153)) ?hr ?hp (fun _ hk => hk) ((show ∀ k_, w28.heap.size ≤ k_ → (fun k_ => some k_ ≠ (v158 : Value).ownBlock ∧ some k_ ≠ (v164 : Value).ownBlock ∧ k_ ≠ gb151 ∧ k_ ≠ gb152 ∧ k_ ≠ gb153) k_ from fun k_ hk => ⟨Kd.fresh' (Kd.N_lt (by (with_reducible repeat (first | apply Kd.N_alloc | apply Kd.N_drewN | apply Kd.N_drew)); exact HO159.out)) k_ hk, Kd.fresh' (Kd.N_lt (by (with_reducible repeat (first | apply Kd.N_alloc | apply Kd.N_drewN | apply Kd.N_drew)); exact HO165.out)) k_ hk, Kd.freshB (g := gb151) (o := .cells #[.int .u8 1, .int .u8 0, .int .u8 0, .int .u8 0, .int .u8 0, .int .u8 0, .int .u8 0, .int .u8 0] 52 (0, 0)) (by (with_reducible repeat (first | refine blk_drewN ?_ _ | refine blk_drew ?_ | refine blk_alloc ?_ _)); exact BK151.out) k_ hk, Kd.freshB (g := gb152) (o := .cells #[.int .u8 2, .int .u8 0, .int .u8 0, .int .u8 0, .int .u8 0, .int .u8 0, .int .u8 0, .int .u8 0] 52 (0, 0)) (by (with_reducible repeat (first | refine blk_drewN ?_ _ | refine blk_drew ?_ | refine blk_alloc ?_ _)); exact BK152.out) k_ hk, Kd.freshB (g := gb153) (o := .cells #[.int .u8 3, .int .u8 0, .int .u8 0, .int .u8 0, .int .u8 0, .int .u8 0, .int .u8 0, .int .u8 0] 52 (0, 0)) (by (with_reducible repeat (first | refine blk_drewN ?_ _ | refine blk_drew ?_ | refine blk_alloc ?_ _)); exact BK153.out) k_ hk⟩) _ (Nat.le_refl _)) (Below.refl _ _) (Nat.le_refl _) (by simp) ?_; (case hd => rfl); (case hg => rfl); (case hr => first | (go_simp; done) | (go_simp; rfl)); (case hp => exact (Reps.one (show Kd.FK (Kd.slice 54 k54) _ _ y166 [.slice Ao30 y166.length co30] from (Kd.FK_slice_mk (Kd.R_reads' (Kd.R_mono (ok' := (fun k_ => some k_ ≠ (v158 : Value).ownBlock ∧ some k_ ≠ (v164 : Value).ownBlock ∧ k_ ≠ gb151 ∧ k_ ≠ gb152 ∧ k_ ≠ gb153)) (Kd.R_types (Kd.R_types (Kd.R_types (Kd.R_apart' (Kd.R_apart' (HO168.out) (Kd.N_typed HO159.out) (by decide)) (Kd.N_typed HO165.out) (by decide)) BK151.out (by decide)) BK152.out (by decide)) BK153.out (by decide)) (fun k_ hk => ⟨hk.1.1.1.1.2, ⟨hk.1.1.1.2, ⟨hk.1.1.2, ⟨hk.1.2, hk.2⟩⟩⟩⟩))).2.1 (Kd.R_F (Kd.R_mono (ok' := (fun k_ => some k_ ≠ (v158 : Value).ownBlock ∧ some k_ ≠ (v164 : Value).ownBlock ∧ k_ ≠ gb151 ∧ k_ ≠ gb152 ∧ k_ ≠ gb153)) (Kd.R_types (Kd.R_types (Kd.R_types (Kd.R_apart' (Kd.R_apart' (HO168.out) (Kd.N_typed HO159.out) (by decide)) (Kd.N_typed HO165.out) (by decide)) BK151.out (by decide)) BK152.out (by decide)) BK153.out (by decide)) (fun k_ hk => ⟨hk.1.1.1.1.2, ⟨hk.1.1.1.2, ⟨hk.1.1.2, ⟨hk.1.2, hk.2⟩⟩⟩⟩))))) (Reps.none _ _))); intro v170 w31 ho32 hb hg_ hnew_; clear hg_ hnew_; (first | rw [← Ny169.out] at ho32 | (simp only [Int.reduceToNat] at ho32; rw [← Ny169.out] at ho32)); have n0_ := Aside0.mk (Kd.N_elder' (by (with_reducible repeat (first | apply Kd.N_alloc | apply Kd.N_drewN | apply Kd.N_drew)); exact HO159.out) (Kd.N_base ho32) hb); have n1_ := Aside0.mk (Kd.N_elder' (by (with_reducible repeat (first | apply Kd.N_alloc | apply Kd.N_drewN | apply Kd.N_drew)); exact HO165.out) (Kd.N_base ho32) hb); have n2_ := Aside0.mk (Kd.N_lower ho32 (below_size (by repeat (first | (with_reducible first | exact HB.out | apply below_alloc | apply pw_below_drewN | apply below_drew1 | refine below_set ?_ GE151.out | refine below_set ?_ GE152.out | refine below_set ?_ GE153.out) | exact HB.out)))); have n3_ := Aside0.mk (blk_below (g := gb151) (o := .cells #[.int .u8 1, .int .u8 0, .int .u8 0, .int .u8 0, .int .u8 0, .int .u8 0, .int .u8 0, .int .u8 0] 52 (0, 0)) (by (with_reducible repeat (first | refine blk_drewN ?_ _ | refine blk_drew ?_ | refine blk_alloc ?_ _)); exact BK151.out) hb); have n4_ := Aside0.mk (blk_below (g := gb152) (o := .cells #[.int .u8 2, .int .u8 0, .int .u8 0, .int .u8 0, .int .u8 0, .int .u8 0, .int .u8 0, .int .u8 0] 52 (0, 0)) (by (with_reducible repeat (first | refine blk_drewN ?_ _ | refine blk_drew ?_ | refine blk_alloc ?_ _)); exact BK152.out) hb); have n5_ := Aside0.mk (blk_below (g := gb153) (o := .cells #[.int .u8 3, .int .u8 0, .int .u8 0, .int .u8 0, .int .u8 0, .int .u8 0, .int .u8 0, .int .u8 0] 52 (0, 0)) (by (with_reducible repeat (first | refine blk_drewN ?_ _ | refine blk_drew ?_ | refine blk_alloc ?_ _)); exact BK153.out) hb); have n6_ := Aside0.mk (below_step (by repeat (first | (with_reducible first | exact HB.out | apply below_alloc | apply pw_below_drewN | apply below_drew1 | refine below_set ?_ GE151.out | refine below_set ?_ GE152.out | refine below_set ?_ GE153.out) | exact HB.out)) hb); clear HO159; clear HO165; clear BK151; clear BK152; clear BK153; clear HB; clear HO168; have HO159 := n0_; have HO165 := n1_; have HO171 := n2_; have BK151 := n3_; have BK152 := n4_; have BK153 := n5_; have HB := n6_; clear n0_ n1_ n2_ n3_ n4_ n5_ n6_; clear hb ho32; obtain ⟨Ao33, co33, eo33⟩ := Kd.N_slice HO159.out; subst eo33; obtain ⟨Ao34, co34, eo34⟩ := Kd.N_slice HO171.out; subst eo34) | ((with_reducible refine gate_callee (f := 16) rfl ?_); refine goesL_ (some 39) rfl rfl Try.func16 (by kernel_rfl) rfl #[.slice Ao33 y157.length co33, .slice Ao34 y169.length co34] rfl (by (try simp only [List.map_toArray, List.map_cons, List.map_nil]); first | done | rfl | (simp only [List.length_drop, List.length_take]; rfl)) ?_; (with_reducible refine (resync_Writes.calls _ _ y157 _ _ y169 t172 t173 _ ?side1 ?side2 ?side3 ?side4 A1.out).mono ?_); (case side1 => repeat (first | exact (Kd.N_reads' HO159.out).2.2 | (with_reducible refine Kd.C_alloc ?_ _) | (with_reducible refine Kd.C_drewN ?_ _) | (with_reducible refine Kd.C_drew ?_))); (case side2 => exact (Kd.N_reads' HO159.out).2.1); (case side3 => repeat (first | exact (Kd.N_reads' HO171.out).2.2 | (with_reducible refine Kd.C_alloc ?_ _) | (with_reducible refine Kd.C_drewN ?_ _) | (with_reducible refine Kd.C_drew ?_))); (case side4 => exact (Kd.N_reads' HO171.out).2.1); rintro e w35 ⟨v174, rfl, ho0, hb⟩; refine ⟨_, rfl, ?_⟩; have n0_ := Aside0.mk (Kd.N_elder' (by (with_reducible repeat (first | apply Kd.N_alloc | apply Kd.N_drewN | apply Kd.N_drew)); exact HO159.out) (Kd.N_base (Kd.S_N ho0)) hb); have n1_ := Aside0.mk (Kd.N_elder' (by (with_reducible repeat (first | apply Kd.N_alloc | apply Kd.N_drewN | apply Kd.N_drew)); exact HO165.out) (Kd.N_base (Kd.S_N ho0)) hb); have n2_ := Aside0.mk (Kd.N_elder' (by (with_reducible repeat (first | apply Kd.N_alloc | apply Kd.N_drewN | apply Kd.N_drew)); exact HO171.out) (Kd.N_base (Kd.S_N ho0)) hb); have n3_ := Aside0.mk (Kd.N_lower (Kd.N_mono (ok' := fun k_ => some k_ ≠ (.slice Ao33 y157.length co33 : Value).ownBlock ∧ some k_ ≠ (v164 : Value).ownBlock ∧ some k_ ≠ (.slice Ao34 y169.length co34 : Value).ownBlock ∧ k_ ≠ gb151 ∧ k_ ≠ gb152 ∧ k_ ≠ gb153) (Kd.S_N (Kd.S_bound ho0)) (fun k_ hk_ => ⟨(Kd.fresh' (Kd.N_lt (by (with_reducible repeat (first | apply Kd.N_alloc | apply Kd.N_drewN | apply Kd.N_drew)); exact HO159.out)) k_ hk_.2.1), (Kd.fresh' (Kd.N_lt (by (with_reducible repeat (first | apply Kd.N_alloc | apply Kd.N_drewN | apply Kd.N_drew)); exact HO165.out)) k_ hk_.2.1), (Kd.fresh' (Kd.N_lt (by (with_reducible repeat (first | apply Kd.N_alloc | apply Kd.N_drewN | apply Kd.N_drew)); exact HO171.out)) k_ hk_.2.1), (Kd.freshB (g := gb151) (o := .cells #[.int .u8 1, .int .u8 0, .int .u8 0, .int .u8 0, .int .u8 0, .int .u8 0, .int .u8 0, .int .u8 0] 52 (0, 0)) (by (with_reducible repeat (first | refine blk_drewN ?_ _ | refine blk_drew ?_ | refine blk_alloc ?_ _)); exact BK151.out) k_ hk_.2.1), (Kd.freshB (g := gb152) (o := .cells #[.int .u8 2, .int .u8 0, .int .u8 0, .int .u8 0, .int .u8 0, .int .u8 0, .int .u8 0, .int .u8 0] 52 (0, 0)) (by (with_reducible repeat (first | refine blk_drewN ?_ _ | refine blk_drew ?_ | refine blk_alloc ?_ _)); exact BK152.out) k_ hk_.2.1), (Kd.freshB (g := gb153) (o := .cells #[.int .u8 3, .int .u8 0, .int .u8 0, .int .u8 0, .int .u8 0, .int .u8 0, .int .u8 0, .int .u8 0] 52 (0, 0)) (by (with_reducible repeat (first | refine blk_drewN ?_ _ | refine blk_drew ?_ | refine blk_alloc ?_ _)); exact BK153.out) k_ hk_.2.1)⟩)) (below_size (by repeat (first | (with_reducible first | exact HB.out | apply below_alloc | apply pw_below_drewN | apply below_drew1 | refine below_set ?_ GE151.out | refine below_set ?_ GE152.out | refine below_set ?_ GE153.out) | exact HB.out)))); have n4_ := Aside0.mk (blk_below (g := gb151) (o := .cells #[.int .u8 1, .int .u8 0, .int .u8 0, .int .u8 0, .int .u8 0, .int .u8 0, .int .u8 0, .int .u8 0] 52 (0, 0)) (by (with_reducible repeat (first | refine blk_drewN ?_ _ | refine blk_drew ?_ | refine blk_alloc ?_ _)); exact BK151.out) hb); have n5_ := Aside0.mk (blk_below (g := gb152) (o := .cells #[.int .u8 2, .int .u8 0, .int .u8 0, .int .u8 0, .int .u8 0, .int .u8 0, .int .u8 0, .int .u8 0] 52 (0, 0)) (by (with_reducible repeat (first | refine blk_drewN ?_ _ | refine blk_drew ?_ | refine blk_alloc ?_ _)); exact BK152.out) hb); have n6_ := Aside0.mk (blk_below (g := gb153) (o := .cells #[.int .u8 3, .int .u8 0, .int .u8 0, .int .u8 0, .int .u8 0, .int .u8 0, .int .u8 0, .int .u8 0] 52 (0, 0)) (by (with_reducible repeat (first | refine blk_drewN ?_ _ | refine blk_drew ?_ | refine blk_alloc ?_ _)); exact BK153.out) hb); have n7_ := Aside0.mk (below_step (by repeat (first | (with_reducible first | exact HB.out | apply below_alloc | apply pw_below_drewN | apply below_drew1 | refine below_set ?_ GE151.out | refine below_set ?_ GE152.out | refine below_set ?_ GE153.out) | exact HB.out)) hb); clear HO159; clear HO165; clear HO171; clear BK151; clear BK152; clear BK153; clear HB; have HO159 := n0_; have HO165 := n1_; have HO171 := n2_; have HO175 := n3_; have BK151 := n4_; have BK152 := n5_; have BK153 := n6_; have HB := n7_; clear n0_ n1_ n2_ n3_ n4_ n5_ n6_ n7_; (try clear hb); (try clear hb2); (try clear hk); (try clear hi); (try clear ho0); obtain ⟨Ao36, co36, eo36⟩ := Kd.N_slice HO165.out; subst eo36) | ((with_reducible refine gate_callee (f := 9) rfl ?_); refine goesL_ (some 46) rfl rfl Try.func9 (by kernel_rfl) rfl #[.slice Ao33 y157.length co33, .slice Ao36 y163.length co36, .slice Ao34 y169.length co34] rfl (by (try simp only [List.map_toArray, List.map_cons, List.map_nil]); first | done | rfl | (simp only [List.length_drop, List.length_take]; rfl)) ?_; (with_reducible refine (resync_Needed.calls _ _ y157 _ _ y163 _ _ y169 t176 t177 _ ?side1 ?side2 ?side3 ?side4 ?side5 ?side6 A2.out).mono ?_); (case side1 => repeat (first | exact (Kd.N_reads' HO159.out).2.2 | (with_reducible refine Kd.C_alloc ?_ _) | (with_reducible refine Kd.C_drewN ?_ _) | (with_reducible refine Kd.C_drew ?_))); (case side2 => exact (Kd.N_reads' HO159.out).2.1); (case side3 => repeat (first | exact (Kd.N_reads' HO165.out).2.2 | (with_reducible refine Kd.C_alloc ?_ _) | (with_reducible refine Kd.C_drewN ?_ _) | (with_reducible refine Kd.C_drew ?_))); (case side4 => exact (Kd.N_reads' HO165.out).2.1); (case side5 => repeat (first | exact (Kd.N_reads' HO171.out).2.2 | (with_reducible refine Kd.C_alloc ?_ _) | (with_reducible refine Kd.C_drewN ?_ _) | (with_reducible refine Kd.C_drew ?_))); (case side6 => exact (Kd.N_reads' HO171.out).2.1); rintro e w37 ⟨v178, rfl, ho0, hb⟩; refine ⟨_, rfl, ?_⟩; have n0_ := Aside0.mk (Kd.N_elder' (by (with_reducible repeat (first | apply Kd.N_alloc | apply Kd.N_drewN | apply Kd.N_drew)); exact HO159.out) (Kd.N_base (Kd.S_N ho0)) hb); have n1_ := Aside0.mk (Kd.N_elder' (by (with_reducible repeat (first | apply Kd.N_alloc | apply Kd.N_drewN | apply Kd.N_drew)); exact HO165.out) (Kd.N_base (Kd.S_N ho0)) hb); have n2_ := Aside0.mk (Kd.N_elder' (by (with_reducible repeat (first | apply Kd.N_alloc | apply Kd.N_drewN | apply Kd.N_drew)); exact HO171.out) (Kd.N_base (Kd.S_N ho0)) hb); have n3_ := Aside0.mk (Kd.N_elder' (by (with_reducible repeat (first | apply Kd.N_alloc | apply Kd.N_drewN | apply Kd.N_drew)); exact HO175.out) (Kd.N_base (Kd.S_N ho0)) hb); have n4_ := Aside0.mk (Kd.N_lower (Kd.N_mono (ok' := fun k_ => some k_ ≠ (.slice Ao33 y157.length co33 : Value).ownBlock ∧ some k_ ≠ (.slice Ao36 y163.length co36 : Value).ownBlock ∧ some k_ ≠ (.slice Ao34 y169.length co34 : Value).ownBlock ∧ some k_ ≠ (v174 : Value).ownBlock ∧ k_ ≠ gb151 ∧ k_ ≠ gb152 ∧ k_ ≠ gb153) (Kd.S_N (Kd.S_bound ho0)) (fun k_ hk_ => ⟨(Kd.fresh' (Kd.N_lt (by (with_reducible repeat (first | apply Kd.N_alloc | apply Kd.N_drewN | apply Kd.N_drew)); exact HO159.out)) k_ hk_.2.1), (Kd.fresh' (Kd.N_lt (by (with_reducible repeat (first | apply Kd.N_alloc | apply Kd.N_drewN | apply Kd.N_drew)); exact HO165.out)) k_ hk_.2.1), (Kd.fresh' (Kd.N_lt (by (with_reducible repeat (first | apply Kd.N_alloc | apply Kd.N_drewN | apply Kd.N_drew)); exact HO171.out)) k_ hk_.2.1), (Kd.fresh' (Kd.N_lt (by (with_reducible repeat (first | apply Kd.N_alloc | apply Kd.N_drewN | apply Kd.N_drew)); exact HO175.out)) k_ hk_.2.1), (Kd.freshB (g := gb151) (o := .cells #[.int .u8 1, .int .u8 0, .int .u8 0, .int .u8 0, .int .u8 0, .int .u8 0, .int .u8 0, .int .u8 0] 52 (0, 0)) (by (with_reducible repeat (first | refine blk_drewN ?_ _ | refine blk_drew ?_ | refine blk_alloc ?_ _)); exact BK151.out) k_ hk_.2.1), (Kd.freshB (g := gb152) (o := .cells #[.int .u8 2, .int .u8 0, .int .u8 0, .int .u8 0, .int .u8 0, .int .u8 0, .int .u8 0, .int .u8 0] 52 (0, 0)) (by (with_reducible repeat (first | refine blk_drewN ?_ _ | refine blk_drew ?_ | refine blk_alloc ?_ _)); exact BK152.out) k_ hk_.2.1), (Kd.freshB (g := gb153) (o := .cells #[.int .u8 3, .int .u8 0, .int .u8 0, .int .u8 0, .int .u8 0, .int .u8 0, .int .u8 0, .int .u8 0] 52 (0, 0)) (by (with_reducible repeat (first | refine blk_drewN ?_ _ | refine blk_drew ?_ | refine blk_alloc ?_ _)); exact BK153.out) k_ hk_.2.1)⟩)) (below_size (by repeat (first | (with_reducible first | exact HB.out | apply below_alloc | apply pw_below_drewN | apply below_drew1 | refine below_set ?_ GE151.out | refine below_set ?_ GE152.out | refine below_set ?_ GE153.out) | exact HB.out)))); have n5_ := Aside0.mk (blk_below (g := gb151) (o := .cells #[.int .u8 1, .int .u8 0, .int .u8 0, .int .u8 0, .int .u8 0, .int .u8 0, .int .u8 0, .int .u8 0] 52 (0, 0)) (by (with_reducible repeat (first | refine blk_drewN ?_ _ | refine blk_drew ?_ | refine blk_alloc ?_ _)); exact BK151.out) hb); have n6_ := Aside0.mk (blk_below (g := gb152) (o := .cells #[.int .u8 2, .int .u8 0, .int .u8 0, .int .u8 0, .int .u8 0, .int .u8 0, .int .u8 0, .int .u8 0] 52 (0, 0)) (by (with_reducible repeat (first | refine blk_drewN ?_ _ | refine blk_drew ?_ | refine blk_alloc ?_ _)); exact BK152.out) hb); have n7_ := Aside0.mk (blk_below (g := gb153) (o := .cells #[.int .u8 3, .int .u8 0, .int .u8 0, .int .u8 0, .int .u8 0, .int .u8 0, .int .u8 0, .int .u8 0] 52 (0, 0)) (by (with_reducible repeat (first | refine blk_drewN ?_ _ | refine blk_drew ?_ | refine blk_alloc ?_ _)); exact BK153.out) hb); have n8_ := Aside0.mk (below_step (by repeat (first | (with_reducible first | exact HB.out | apply below_alloc | apply pw_below_drewN | apply below_drew1 | refine below_set ?_ GE151.out | refine below_set ?_ GE152.out | refine below_set ?_ GE153.out) | exact HB.out)) hb); clear HO159; clear HO165; clear HO171; clear HO175; clear BK151; clear BK152; clear BK153; clear HB; have HO159 := n0_; have HO165 := n1_; have HO171 := n2_; have HO175 := n3_; have HO179 := n4_; have BK151 := n5_; have BK152 := n6_; have BK153 := n7_; have HB := n8_; clear n0_ n1_ n2_ n3_ n4_ n5_ n6_ n7_ n8_; (try clear hb); (try clear hb2); (try clear hk); (try clear hi); (try clear ho0); obtain ⟨Ao38, co38, eo38⟩ := Kd.N_slice HO179.out; subst eo38) | ((with_reducible refine gate_callee (f := 11) rfl ?_); refine goesL_ (some 53) rfl rfl Try.func11 (by kernel_rfl) rfl #[.slice Ao33 y157.length co33, .slice Ao36 y163.length co36, .slice Ao38 t176.length co38] rfl (by (try simp only [List.map_toArray, List.map_cons, List.map_nil]); first | done | rfl | (simp only [List.length_drop, List.length_take]; rfl)) ?_; (with_reducible refine (resync_Exact.calls _ _ y157 _ _ y163 _ _ t176 t180 t181 _ ?side1 ?side2 ?side3 ?side4 ?side5 ?side6 A3.out).mono ?_); (case side1 => repeat (first | exact (Kd.N_reads' HO159.out).2.2 | (with_reducible refine Kd.C_alloc ?_ _) | (with_reducible refine Kd.C_drewN ?_ _) | (with_reducible refine Kd.C_drew ?_))); (case side2 => exact (Kd.N_reads' HO159.out).2.1); (case side3 => repeat (first | exact (Kd.N_reads' HO165.out).2.2 | (with_reducible refine Kd.C_alloc ?_ _) | (with_reducible refine Kd.C_drewN ?_ _) | (with_reducible refine Kd.C_drew ?_))); (case side4 => exact (Kd.N_reads' HO165.out).2.1); (case side5 => repeat (first | exact (Kd.N_reads' HO179.out).2.2 | (with_reducible refine Kd.C_alloc ?_ _) | (with_reducible refine Kd.C_drewN ?_ _) | (with_reducible refine Kd.C_drew ?_))); (case side6 => exact (Kd.N_reads' HO179.out).2.1); rintro e w39 ⟨rfl, hb⟩; refine ⟨_, rfl, ?_⟩; have n0_ := Aside0.mk (Kd.N_below (by (with_reducible repeat (first | apply Kd.N_alloc | apply Kd.N_drewN | apply Kd.N_drew)); exact HO159.out) hb); have n1_ := Aside0.mk (Kd.N_below (by (with_reducible repeat (first | apply Kd.N_alloc | apply Kd.N_drewN | apply Kd.N_drew)); exact HO165.out) hb); have n2_ := Aside0.mk (Kd.N_below (by (with_reducible repeat (first | apply Kd.N_alloc | apply Kd.N_drewN | apply Kd.N_drew)); exact HO171.out) hb); have n3_ := Aside0.mk (Kd.N_below (by (with_reducible repeat (first | apply Kd.N_alloc | apply Kd.N_drewN | apply Kd.N_drew)); exact HO175.out) hb); have n4_ := Aside0.mk (Kd.N_below (by (with_reducible repeat (first | apply Kd.N_alloc | apply Kd.N_drewN | apply Kd.N_drew)); exact HO179.out) hb); have n5_ := Aside0.mk (blk_below (g := gb151) (o := .cells #[.int .u8 1, .int .u8 0, .int .u8 0, .int .u8 0, .int .u8 0, .int .u8 0, .int .u8 0, .int .u8 0] 52 (0, 0)) (by (with_reducible repeat (first | refine blk_drewN ?_ _ | refine blk_drew ?_ | refine blk_alloc ?_ _)); exact BK151.out) hb); have n6_ := Aside0.mk (blk_below (g := gb152) (o := .cells #[.int .u8 2, .int .u8 0, .int .u8 0, .int .u8 0, .int .u8 0, .int .u8 0, .int .u8 0, .int .u8 0] 52 (0, 0)) (by (with_reducible repeat (first | refine blk_drewN ?_ _ | refine blk_drew ?_ | refine blk_alloc ?_ _)); exact BK152.out) hb); have n7_ := Aside0.mk (blk_below (g := gb153) (o := .cells #[.int .u8 3, .int .u8 0, .int .u8 0, .int .u8 0, .int .u8 0, .int .u8 0, .int .u8 0, .int .u8 0] 52 (0, 0)) (by (with_reducible repeat (first | refine blk_drewN ?_ _ | refine blk_drew ?_ | refine blk_alloc ?_ _)); exact BK153.out) hb); have n8_ := Aside0.mk (below_step (by repeat (first | (with_reducible first | exact HB.out | apply below_alloc | apply pw_below_drewN | apply below_drew1 | refine below_set ?_ GE151.out | refine below_set ?_ GE152.out | refine below_set ?_ GE153.out) | exact HB.out)) hb); clear HO159; clear HO165; clear HO171; clear HO175; clear HO179; clear BK151; clear BK152; clear BK153; clear HB; have HO159 := n0_; have HO165 := n1_; have HO171 := n2_; have HO175 := n3_; have HO179 := n4_; have BK151 := n5_; have BK152 := n6_; have BK153 := n7_; have HB := n8_; clear n0_ n1_ n2_ n3_ n4_ n5_ n6_ n7_ n8_; (try clear hb); (try clear hb2); (try clear hk); (try clear hi)) | ((with_reducible refine gate_callee (f := 11) rfl ?_); refine goesL_ (some 60) rfl rfl Try.func11 (by kernel_rfl) rfl #[.slice Ao33 y157.length co33, .slice Ao36 y163.length co36, .slice Ao34 y169.length co34] rfl (by (try simp only [List.map_toArray, List.map_cons, List.map_nil]); first | done | rfl | (simp only [List.length_drop, List.length_take]; rfl)) ?_; (with_reducible refine (resync_Exact.calls _ _ y157 _ _ y163 _ _ y169 t182 t183 _ ?side1 ?side2 ?side3 ?side4 ?side5 ?side6 A4.out).mono ?_); (case side1 => repeat (first | exact (Kd.N_reads' HO159.out).2.2 | (with_reducible refine Kd.C_alloc ?_ _) | (with_reducible refine Kd.C_drewN ?_ _) | (with_reducible refine Kd.C_drew ?_))); (case side2 => exact (Kd.N_reads' HO159.out).2.1); (case side3 => repeat (first | exact (Kd.N_reads' HO165.out).2.2 | (with_reducible refine Kd.C_alloc ?_ _) | (with_reducible refine Kd.C_drewN ?_ _) | (with_reducible refine Kd.C_drew ?_))); (case side4 => exact (Kd.N_reads' HO165.out).2.1); (case side5 => repeat (first | exact (Kd.N_reads' HO171.out).2.2 | (with_reducible refine Kd.C_alloc ?_ _) | (with_reducible refine Kd.C_drewN ?_ _) | (with_reducible refine Kd.C_drew ?_))); (case side6 => exact (Kd.N_reads' HO171.out).2.1); rintro e w40 ⟨rfl, hb⟩; refine ⟨_, rfl, ?_⟩; have n0_ := Aside0.mk (Kd.N_below (by (with_reducible repeat (first | apply Kd.N_alloc | apply Kd.N_drewN | apply Kd.N_drew)); exact HO159.out) hb); have n1_ := Aside0.mk (Kd.N_below (by (with_reducible repeat (first | apply Kd.N_alloc | apply Kd.N_drewN | apply Kd.N_drew)); exact HO165.out) hb); have n2_ := Aside0.mk (Kd.N_below (by (with_reducible repeat (first | apply Kd.N_alloc | apply Kd.N_drewN | apply Kd.N_drew)); exact HO171.out) hb); have n3_ := Aside0.mk (Kd.N_below (by (with_reducible repeat (first | apply Kd.N_alloc | apply Kd.N_drewN | apply Kd.N_drew)); exact HO175.out) hb); have n4_ := Aside0.mk (Kd.N_below (by (with_reducible repeat (first | apply Kd.N_alloc | apply Kd.N_drewN | apply Kd.N_drew)); exact HO179.out) hb); have n5_ := Aside0.mk (blk_below (g := gb151) (o := .cells #[.int .u8 1, .int .u8 0, .int .u8 0, .int .u8 0, .int .u8 0, .int .u8 0, .int .u8 0, .int .u8 0] 52 (0, 0)) (by (with_reducible repeat (first | refine blk_drewN ?_ _ | refine blk_drew ?_ | refine blk_alloc ?_ _)); exact BK151.out) hb); have n6_ := Aside0.mk (blk_below (g := gb152) (o := .cells #[.int .u8 2, .int .u8 0, .int .u8 0, .int .u8 0, .int .u8 0, .int .u8 0, .int .u8 0, .int .u8 0] 52 (0, 0)) (by (with_reducible repeat (first | refine blk_drewN ?_ _ | refine blk_drew ?_ | refine blk_alloc ?_ _)); exact BK152.out) hb); have n7_ := Aside0.mk (blk_below (g := gb153) (o := .cells #[.int .u8 3, .int .u8 0, .int .u8 0, .int .u8 0, .int .u8 0, .int .u8 0, .int .u8 0, .int .u8 0] 52 (0, 0)) (by (with_reducible repeat (first | refine blk_drewN ?_ _ | refine blk_drew ?_ | refine blk_alloc ?_ _)); exact BK153.out) hb); have n8_ := Aside0.mk (below_step (by repeat (first | (with_reducible first | exact HB.out | apply below_alloc | apply pw_below_drewN | apply below_drew1 | refine below_set ?_ GE151.out | refine below_set ?_ GE152.out | refine below_set ?_ GE153.out) | exact HB.out)) hb); clear HO159; clear HO165; clear HO171; clear HO175; clear HO179; clear BK151; clear BK152; clear BK153; clear HB; have HO159 := n0_; have HO165 := n1_; have HO171 := n2_; have HO175 := n3_; have HO179 := n4_; have BK151 := n5_; have BK152 := n6_; have BK153 := n7_; have HB := n8_; clear n0_ n1_ n2_ n3_ n4_ n5_ n6_ n7_ n8_; (try clear hb); (try clear hb2); (try clear hk); (try clear hi)))
  (try simp only [Act.put, List.setIfInBounds_toArray, List.set_cons_zero, List.set_cons_succ])
  go_cut [83] (fun v83 wc => ∃ (kq : Nat) (x83_4 : Bool), v83 = .bool x83_4 ∧ Aside0 (standbylaw45_awake.j0 kq y169 t176 t180 t182 x83_4 = some r) ∧ Aside0 (kq ≤ k) ∧ Aside0 (Kd.N (Kd.slice 54 k54) 50 wc w.heap.size (fun k_ => some k_ ≠ ((.slice Ao38 t176.length co38) : Value).ownBlock ∧ k_ ≠ gb151 ∧ k_ ≠ gb152 ∧ k_ ≠ gb153) (.slice Ao34 y169.length co34) y169) ∧ Aside0 (Kd.N (Kd.slice 54 k54) 50 wc w.heap.size (fun k_ => some k_ ≠ ((.slice Ao34 y169.length co34) : Value).ownBlock ∧ k_ ≠ gb151 ∧ k_ ≠ gb152 ∧ k_ ≠ gb153) (.slice Ao38 t176.length co38) t176) ∧ Aside0 (wc.heap[gb151]? = some (.cells #[.int .u8 1, .int .u8 0, .int .u8 0, .int .u8 0, .int .u8 0, .int .u8 0, .int .u8 0, .int .u8 0] 52 (0, 0))) ∧ Aside0 (wc.heap[gb152]? = some (.cells #[.int .u8 2, .int .u8 0, .int .u8 0, .int .u8 0, .int .u8 0, .int .u8 0, .int .u8 0, .int .u8 0] 52 (0, 0))) ∧ Aside0 (wc.heap[gb153]? = some (.cells #[.int .u8 3, .int .u8 0, .int .u8 0, .int .u8 0, .int .u8 0, .int .u8 0, .int .u8 0, .int .u8 0] 52 (0, 0))) ∧ Aside0 (Below w.heap.size w wc))
  case first =>
    have H := HC5.out
    clear HC5
    by_cases c41 : (wrap64 ((wrap64 ((wrap64 (t173 + t177)) + t181)) + t183)) = 0
    · rw [if_pos c41] at H
      have c41b0 : ((wrap64 ((wrap64 ((wrap64 (t173 + t177)) + t181)) + t183)) == 0) = true := beq_iff_eq.mpr c41
      have c41b1 : ((wrap64 ((wrap64 ((wrap64 (t173 + t177)) + t181)) + t183)) != 0) = false := bne_eq_false_iff_eq.mpr c41
      clear c41
      (first | rw [c41b0] | (simp only [i64_w, i32_w]; rw [c41b0]) | skip)
      obtain ⟨y184, hy184⟩ : ∃ y_ : List (S52), y_ = (([(⟨1, 0, 0, 0, 0, 0, 0, 0⟩ : S52), (⟨2, 0, 0, 0, 0, 0, 0, 0⟩ : S52)] : List (S52))) := ⟨_, rfl⟩
      replace H : ((standbyref22_Same.f k t172 (([(⟨0, 0, y184⟩ : S57), (⟨0, 4, (([(⟨3, 0, 0, 0, 0, 0, 0, 0⟩ : S52)] : List (S52)))⟩ : S57)] : List (S57)))).bind fun t193 => (standbylaw45_awake.j0 k y169 t176 t180 t182 (!t193))) = some r := by first | (rw [hy184]; with_reducible exact H) | (have H2_ := (Option.bind_some _ _).symm.trans H; rw [hy184]; with_reducible exact H2_) | (have H2_ := (Option.bind_some _ _).symm.trans H; with_reducible exact H2_) | with_reducible exact H | (rw [hy184]; exact H) | exact H
      have Ny184 := Aside0.mk hy184
      clear hy184
      obtain ⟨y187, hy187⟩ : ∃ y_ : List (S52), y_ = (([(⟨3, 0, 0, 0, 0, 0, 0, 0⟩ : S52)] : List (S52))) := ⟨_, rfl⟩
      replace H : ((standbyref22_Same.f k t172 (([(⟨0, 0, y184⟩ : S57), (⟨0, 4, y187⟩ : S57)] : List (S57)))).bind fun t193 => (standbylaw45_awake.j0 k y169 t176 t180 t182 (!t193))) = some r := by first | (rw [hy187]; with_reducible exact H) | (have H2_ := (Option.bind_some _ _).symm.trans H; rw [hy187]; with_reducible exact H2_) | (have H2_ := (Option.bind_some _ _).symm.trans H; with_reducible exact H2_) | with_reducible exact H | (rw [hy187]; exact H) | exact H
      have Ny187 := Aside0.mk hy187
      clear hy187
      obtain ⟨y190, hy190⟩ : ∃ y_ : List (S57), y_ = (([(⟨0, 0, y184⟩ : S57), (⟨0, 4, y187⟩ : S57)] : List (S57))) := ⟨_, rfl⟩
      replace H : ((standbyref22_Same.f k t172 y190).bind fun t193 => (standbylaw45_awake.j0 k y169 t176 t180 t182 (!t193))) = some r := by first | (rw [hy190]; with_reducible exact H) | (have H2_ := (Option.bind_some _ _).symm.trans H; rw [hy190]; with_reducible exact H2_) | (have H2_ := (Option.bind_some _ _).symm.trans H; with_reducible exact H2_) | with_reducible exact H | (rw [hy190]; exact H) | exact H
      have Ny190 := Aside0.mk hy190
      clear hy190
      replace H := Option.bind_eq_some_iff.mp H
      obtain ⟨t193, A420, H⟩ := H
      replace H : (standbylaw45_awake.j0 k y169 t176 t180 t182 (!t193)) = some r := H
      have A42 := Aside0.mk A420
      clear A420
      have H' := Aside0.mk H
      clear H
      have hnb43 := NB151_152.out
      have hnc43 := NB152_151.out
      have hnb44 := NB151_153.out
      have hnc44 := NB153_151.out
      have hcz45_0 : w40.cell? ⟨gb151, 0, none⟩ = some (.int .u8 1) := (blk_cell BK151.out 0).trans rfl
      have hcz45_1 : w40.cell? ⟨gb151, 1, none⟩ = some (.int .u8 0) := (blk_cell BK151.out 1).trans rfl
      have hcz45_2 : w40.cell? ⟨gb151, 2, none⟩ = some (.int .u8 0) := (blk_cell BK151.out 2).trans rfl
      have hcz45_3 : w40.cell? ⟨gb151, 3, none⟩ = some (.int .u8 0) := (blk_cell BK151.out 3).trans rfl
      have hcz45_4 : w40.cell? ⟨gb151, 4, none⟩ = some (.int .u8 0) := (blk_cell BK151.out 4).trans rfl
      have hcz45_5 : w40.cell? ⟨gb151, 5, none⟩ = some (.int .u8 0) := (blk_cell BK151.out 5).trans rfl
      have hcz45_6 : w40.cell? ⟨gb151, 6, none⟩ = some (.int .u8 0) := (blk_cell BK151.out 6).trans rfl
      have hcz45_7 : w40.cell? ⟨gb151, 7, none⟩ = some (.int .u8 0) := (blk_cell BK151.out 7).trans rfl
      have hfz45_0 := blk_frozen BK151.out 0
      have hfz45_1 := blk_frozen BK151.out 1
      have hfz45_2 := blk_frozen BK151.out 2
      have hfz45_3 := blk_frozen BK151.out 3
      have hfz45_4 := blk_frozen BK151.out 4
      have hfz45_5 := blk_frozen BK151.out 5
      have hfz45_6 := blk_frozen BK151.out 6
      have hfz45_7 := blk_frozen BK151.out 7
      have hnb46 := NB152_153.out
      have hnc46 := NB153_152.out
      have hcz47_0 : w40.cell? ⟨gb152, 0, none⟩ = some (.int .u8 2) := (blk_cell BK152.out 0).trans rfl
      have hcz47_1 : w40.cell? ⟨gb152, 1, none⟩ = some (.int .u8 0) := (blk_cell BK152.out 1).trans rfl
      have hcz47_2 : w40.cell? ⟨gb152, 2, none⟩ = some (.int .u8 0) := (blk_cell BK152.out 2).trans rfl
      have hcz47_3 : w40.cell? ⟨gb152, 3, none⟩ = some (.int .u8 0) := (blk_cell BK152.out 3).trans rfl
      have hcz47_4 : w40.cell? ⟨gb152, 4, none⟩ = some (.int .u8 0) := (blk_cell BK152.out 4).trans rfl
      have hcz47_5 : w40.cell? ⟨gb152, 5, none⟩ = some (.int .u8 0) := (blk_cell BK152.out 5).trans rfl
      have hcz47_6 : w40.cell? ⟨gb152, 6, none⟩ = some (.int .u8 0) := (blk_cell BK152.out 6).trans rfl
      have hcz47_7 : w40.cell? ⟨gb152, 7, none⟩ = some (.int .u8 0) := (blk_cell BK152.out 7).trans rfl
      have hfz47_0 := blk_frozen BK152.out 0
      have hfz47_1 := blk_frozen BK152.out 1
      have hfz47_2 := blk_frozen BK152.out 2
      have hfz47_3 := blk_frozen BK152.out 3
      have hfz47_4 := blk_frozen BK152.out 4
      have hfz47_5 := blk_frozen BK152.out 5
      have hfz47_6 := blk_frozen BK152.out 6
      have hfz47_7 := blk_frozen BK152.out 7
      go_wp2_with (first | ((with_reducible refine gate_dst (N := 75) rfl ?_); (try (refine gate_guard (by rfl) ?_; dsimp only)); refine Kd.R_lit k52 _ 52 ?hg (N := 75) ?hd (xs := ([(⟨1, 0, 0, 0, 0, 0, 0, 0⟩ : S52), (⟨2, 0, 0, 0, 0, 0, 0, 0⟩ : S52)] : List (S52))) (inner := [.int .u8 1, .int .u8 0, .int .u8 0, .int .u8 0, .int .u8 0, .int .u8 0, .int .u8 0, .int .u8 0, .int .u8 2, .int .u8 0, .int .u8 0, .int .u8 0, .int .u8 0, .int .u8 0, .int .u8 0, .int .u8 0]) (ok := fun _ => True) (okp := fun _ => True) ?hr ?hp (fun _ hk => hk) trivial (Below.refl _ _) (Nat.le_refl _) (by simp) ?_; (case hd => rfl); (case hg => rfl); (case hr => first | (go_simp; done) | (go_simp; rfl)); (case hp => exact (Reps.c8 (show Kd.M k52 _ _ _ (⟨1, 0, 0, 0, 0, 0, 0, 0⟩ : S52) [.int .u8 1, .int .u8 0, .int .u8 0, .int .u8 0, .int .u8 0, .int .u8 0, .int .u8 0, .int .u8 0] from (k52_mkM _ _ _ (⟨1, 0, 0, 0, 0, 0, 0, 0⟩ : S52) )) (Reps.c8 (show Kd.M k52 _ _ _ (⟨2, 0, 0, 0, 0, 0, 0, 0⟩ : S52) [.int .u8 2, .int .u8 0, .int .u8 0, .int .u8 0, .int .u8 0, .int .u8 0, .int .u8 0, .int .u8 0] from (k52_mkM _ _ _ (⟨2, 0, 0, 0, 0, 0, 0, 0⟩ : S52) )) (Reps.none _ _)))); intro v185 w48 ho49 hb hg_ hnew_; clear hg_ hnew_; (first | rw [← Ny184.out] at ho49 | (simp only [Int.reduceToNat] at ho49; rw [← Ny184.out] at ho49)); have n0_ := Aside0.mk (Kd.N_elder' (by (with_reducible repeat (first | apply Kd.N_alloc | apply Kd.N_drewN | apply Kd.N_drew)); exact HO159.out) (Kd.R_base ho49) hb); have n1_ := Aside0.mk (Kd.N_elder' (by (with_reducible repeat (first | apply Kd.N_alloc | apply Kd.N_drewN | apply Kd.N_drew)); exact HO165.out) (Kd.R_base ho49) hb); have n2_ := Aside0.mk (Kd.N_elder' (by (with_reducible repeat (first | apply Kd.N_alloc | apply Kd.N_drewN | apply Kd.N_drew)); exact HO171.out) (Kd.R_base ho49) hb); have n3_ := Aside0.mk (Kd.N_elder' (by (with_reducible repeat (first | apply Kd.N_alloc | apply Kd.N_drewN | apply Kd.N_drew)); exact HO175.out) (Kd.R_base ho49) hb); have n4_ := Aside0.mk (Kd.N_elder' (by (with_reducible repeat (first | apply Kd.N_alloc | apply Kd.N_drewN | apply Kd.N_drew)); exact HO179.out) (Kd.R_base ho49) hb); have n5_ := Aside0.mk (Kd.R_lower (Kd.R_newB (Kd.R_newB (Kd.R_newB ho49 (g := gb151) (o := .cells #[.int .u8 1, .int .u8 0, .int .u8 0, .int .u8 0, .int .u8 0, .int .u8 0, .int .u8 0, .int .u8 0] 52 (0, 0)) (by (with_reducible repeat (first | refine blk_drewN ?_ _ | refine blk_drew ?_ | refine blk_alloc ?_ _)); exact BK151.out)) (g := gb152) (o := .cells #[.int .u8 2, .int .u8 0, .int .u8 0, .int .u8 0, .int .u8 0, .int .u8 0, .int .u8 0, .int .u8 0] 52 (0, 0)) (by (with_reducible repeat (first | refine blk_drewN ?_ _ | refine blk_drew ?_ | refine blk_alloc ?_ _)); exact BK152.out)) (g := gb153) (o := .cells #[.int .u8 3, .int .u8 0, .int .u8 0, .int .u8 0, .int .u8 0, .int .u8 0, .int .u8 0, .int .u8 0] 52 (0, 0)) (by (with_reducible repeat (first | refine blk_drewN ?_ _ | refine blk_drew ?_ | refine blk_alloc ?_ _)); exact BK153.out)) (below_size (by repeat (first | (with_reducible first | exact HB.out | apply below_alloc | apply pw_below_drewN | apply below_drew1 | refine below_set ?_ GE151.out | refine below_set ?_ GE152.out | refine below_set ?_ GE153.out) | exact HB.out)))); have n6_ := Aside0.mk (blk_below (g := gb151) (o := .cells #[.int .u8 1, .int .u8 0, .int .u8 0, .int .u8 0, .int .u8 0, .int .u8 0, .int .u8 0, .int .u8 0] 52 (0, 0)) (by (with_reducible repeat (first | refine blk_drewN ?_ _ | refine blk_drew ?_ | refine blk_alloc ?_ _)); exact BK151.out) hb); have n7_ := Aside0.mk (blk_below (g := gb152) (o := .cells #[.int .u8 2, .int .u8 0, .int .u8 0, .int .u8 0, .int .u8 0, .int .u8 0, .int .u8 0, .int .u8 0] 52 (0, 0)) (by (with_reducible repeat (first | refine blk_drewN ?_ _ | refine blk_drew ?_ | refine blk_alloc ?_ _)); exact BK152.out) hb); have n8_ := Aside0.mk (blk_below (g := gb153) (o := .cells #[.int .u8 3, .int .u8 0, .int .u8 0, .int .u8 0, .int .u8 0, .int .u8 0, .int .u8 0, .int .u8 0] 52 (0, 0)) (by (with_reducible repeat (first | refine blk_drewN ?_ _ | refine blk_drew ?_ | refine blk_alloc ?_ _)); exact BK153.out) hb); have n9_ := Aside0.mk (below_step (by repeat (first | (with_reducible first | exact HB.out | apply below_alloc | apply pw_below_drewN | apply below_drew1 | refine below_set ?_ GE151.out | refine below_set ?_ GE152.out | refine below_set ?_ GE153.out) | exact HB.out)) hb); clear HO159; clear HO165; clear HO171; clear HO175; clear HO179; clear BK151; clear BK152; clear BK153; clear HB; have HO159 := n0_; have HO165 := n1_; have HO171 := n2_; have HO175 := n3_; have HO179 := n4_; have HO186 := n5_; have BK151 := n6_; have BK152 := n7_; have BK153 := n8_; have HB := n9_; clear n0_ n1_ n2_ n3_ n4_ n5_ n6_ n7_ n8_ n9_; clear hb ho49; obtain ⟨Ao50, co50, eo50⟩ := Kd.R_slice HO186.out; subst eo50; have hcz51_0 : w48.cell? ⟨gb153, 0, none⟩ = some (.int .u8 3) := (blk_cell BK153.out 0).trans rfl; have hcz51_1 : w48.cell? ⟨gb153, 1, none⟩ = some (.int .u8 0) := (blk_cell BK153.out 1).trans rfl; have hcz51_2 : w48.cell? ⟨gb153, 2, none⟩ = some (.int .u8 0) := (blk_cell BK153.out 2).trans rfl; have hcz51_3 : w48.cell? ⟨gb153, 3, none⟩ = some (.int .u8 0) := (blk_cell BK153.out 3).trans rfl; have hcz51_4 : w48.cell? ⟨gb153, 4, none⟩ = some (.int .u8 0) := (blk_cell BK153.out 4).trans rfl; have hcz51_5 : w48.cell? ⟨gb153, 5, none⟩ = some (.int .u8 0) := (blk_cell BK153.out 5).trans rfl; have hcz51_6 : w48.cell? ⟨gb153, 6, none⟩ = some (.int .u8 0) := (blk_cell BK153.out 6).trans rfl; have hcz51_7 : w48.cell? ⟨gb153, 7, none⟩ = some (.int .u8 0) := (blk_cell BK153.out 7).trans rfl; have hfz51_0 := blk_frozen BK153.out 0; have hfz51_1 := blk_frozen BK153.out 1; have hfz51_2 := blk_frozen BK153.out 2; have hfz51_3 := blk_frozen BK153.out 3; have hfz51_4 := blk_frozen BK153.out 4; have hfz51_5 := blk_frozen BK153.out 5; have hfz51_6 := blk_frozen BK153.out 6; have hfz51_7 := blk_frozen BK153.out 7) | ((with_reducible refine gate_dst (N := 78) rfl ?_); (try (refine gate_guard (by rfl) ?_; dsimp only)); refine Kd.R_lit k52 _ 52 ?hg (N := 78) ?hd (xs := ([(⟨3, 0, 0, 0, 0, 0, 0, 0⟩ : S52)] : List (S52))) (inner := [.int .u8 3, .int .u8 0, .int .u8 0, .int .u8 0, .int .u8 0, .int .u8 0, .int .u8 0, .int .u8 0]) (ok := fun _ => True) (okp := fun _ => True) ?hr ?hp (fun _ hk => hk) trivial (Below.refl _ _) (Nat.le_refl _) (by simp) ?_; (case hd => rfl); (case hg => rfl); (case hr => first | (go_simp; done) | (go_simp; rfl)); (case hp => exact (Reps.c8 (show Kd.M k52 _ _ _ (⟨3, 0, 0, 0, 0, 0, 0, 0⟩ : S52) [.int .u8 3, .int .u8 0, .int .u8 0, .int .u8 0, .int .u8 0, .int .u8 0, .int .u8 0, .int .u8 0] from (k52_mkM _ _ _ (⟨3, 0, 0, 0, 0, 0, 0, 0⟩ : S52) )) (Reps.none _ _))); intro v188 w52 ho53 hb hg_ hnew_; clear hg_ hnew_; (first | rw [← Ny187.out] at ho53 | (simp only [Int.reduceToNat] at ho53; rw [← Ny187.out] at ho53)); have n0_ := Aside0.mk (Kd.N_elder' (by (with_reducible repeat (first | apply Kd.N_alloc | apply Kd.N_drewN | apply Kd.N_drew)); exact HO159.out) (Kd.R_base ho53) hb); have n1_ := Aside0.mk (Kd.N_elder' (by (with_reducible repeat (first | apply Kd.N_alloc | apply Kd.N_drewN | apply Kd.N_drew)); exact HO165.out) (Kd.R_base ho53) hb); have n2_ := Aside0.mk (Kd.N_elder' (by (with_reducible repeat (first | apply Kd.N_alloc | apply Kd.N_drewN | apply Kd.N_drew)); exact HO171.out) (Kd.R_base ho53) hb); have n3_ := Aside0.mk (Kd.N_elder' (by (with_reducible repeat (first | apply Kd.N_alloc | apply Kd.N_drewN | apply Kd.N_drew)); exact HO175.out) (Kd.R_base ho53) hb); have n4_ := Aside0.mk (Kd.N_elder' (by (with_reducible repeat (first | apply Kd.N_alloc | apply Kd.N_drewN | apply Kd.N_drew)); exact HO179.out) (Kd.R_base ho53) hb); have n5_ := Aside0.mk (Kd.R_elder' (by (with_reducible repeat (first | apply Kd.R_alloc | apply Kd.R_drewN | apply Kd.R_drew)); exact HO186.out) (Kd.R_base ho53) hb); have n6_ := Aside0.mk (Kd.R_lower (Kd.R_newB (Kd.R_newB (Kd.R_newB (Kd.R_new' ho53 (Kd.R_lt (by (with_reducible repeat (first | apply Kd.R_alloc | apply Kd.R_drewN | apply Kd.R_drew)); exact HO186.out))) (g := gb151) (o := .cells #[.int .u8 1, .int .u8 0, .int .u8 0, .int .u8 0, .int .u8 0, .int .u8 0, .int .u8 0, .int .u8 0] 52 (0, 0)) (by (with_reducible repeat (first | refine blk_drewN ?_ _ | refine blk_drew ?_ | refine blk_alloc ?_ _)); exact BK151.out)) (g := gb152) (o := .cells #[.int .u8 2, .int .u8 0, .int .u8 0, .int .u8 0, .int .u8 0, .int .u8 0, .int .u8 0, .int .u8 0] 52 (0, 0)) (by (with_reducible repeat (first | refine blk_drewN ?_ _ | refine blk_drew ?_ | refine blk_alloc ?_ _)); exact BK152.out)) (g := gb153) (o := .cells #[.int .u8 3, .int .u8 0, .int .u8 0, .int .u8 0, .int .u8 0, .int .u8 0, .int .u8 0, .int .u8 0] 52 (0, 0)) (by (with_reducible repeat (first | refine blk_drewN ?_ _ | refine blk_drew ?_ | refine blk_alloc ?_ _)); exact BK153.out)) (below_size (by repeat (first | (with_reducible first | exact HB.out | apply below_alloc | apply pw_below_drewN | apply below_drew1 | refine below_set ?_ GE151.out | refine below_set ?_ GE152.out | refine below_set ?_ GE153.out) | exact HB.out)))); have n7_ := Aside0.mk (blk_below (g := gb151) (o := .cells #[.int .u8 1, .int .u8 0, .int .u8 0, .int .u8 0, .int .u8 0, .int .u8 0, .int .u8 0, .int .u8 0] 52 (0, 0)) (by (with_reducible repeat (first | refine blk_drewN ?_ _ | refine blk_drew ?_ | refine blk_alloc ?_ _)); exact BK151.out) hb); have n8_ := Aside0.mk (blk_below (g := gb152) (o := .cells #[.int .u8 2, .int .u8 0, .int .u8 0, .int .u8 0, .int .u8 0, .int .u8 0, .int .u8 0, .int .u8 0] 52 (0, 0)) (by (with_reducible repeat (first | refine blk_drewN ?_ _ | refine blk_drew ?_ | refine blk_alloc ?_ _)); exact BK152.out) hb); have n9_ := Aside0.mk (blk_below (g := gb153) (o := .cells #[.int .u8 3, .int .u8 0, .int .u8 0, .int .u8 0, .int .u8 0, .int .u8 0, .int .u8 0, .int .u8 0] 52 (0, 0)) (by (with_reducible repeat (first | refine blk_drewN ?_ _ | refine blk_drew ?_ | refine blk_alloc ?_ _)); exact BK153.out) hb); have n10_ := Aside0.mk (below_step (by repeat (first | (with_reducible first | exact HB.out | apply below_alloc | apply pw_below_drewN | apply below_drew1 | refine below_set ?_ GE151.out | refine below_set ?_ GE152.out | refine below_set ?_ GE153.out) | exact HB.out)) hb); clear HO159; clear HO165; clear HO171; clear HO175; clear HO179; clear HO186; clear BK151; clear BK152; clear BK153; clear HB; have HO159 := n0_; have HO165 := n1_; have HO171 := n2_; have HO175 := n3_; have HO179 := n4_; have HO186 := n5_; have HO189 := n6_; have BK151 := n7_; have BK152 := n8_; have BK153 := n9_; have HB := n10_; clear n0_ n1_ n2_ n3_ n4_ n5_ n6_ n7_ n8_ n9_ n10_; clear hb ho53; obtain ⟨Ao54, co54, eo54⟩ := Kd.R_slice HO189.out; subst eo54) | ((with_reducible refine gate_dst (N := 80) rfl ?_); (try (refine gate_guard (by rfl) ?_; dsimp only)); refine Kd.N_lit k57 _ 57 ?hg (N' := 80) ?hd (xs := ([(⟨0, 0, y184⟩ : S57), (⟨0, 4, y187⟩ : S57)] : List (S57))) (inner := [.int .i64 0, .int .i64 0, .slice Ao50 y184.length co50, .int .i64 0, .int .i64 4, .slice Ao54 y187.length co54]) (ok := (fun k_ => some k_ ≠ (.slice Ao33 y157.length co33 : Value).ownBlock ∧ some k_ ≠ (.slice Ao36 y163.length co36 : Value).ownBlock ∧ some k_ ≠ (.slice Ao34 y169.length co34 : Value).ownBlock ∧ some k_ ≠ (v174 : Value).ownBlock ∧ some k_ ≠ (.slice Ao38 t176.length co38 : Value).ownBlock ∧ k_ ≠ gb151 ∧ k_ ≠ gb152 ∧ k_ ≠ gb153)) (okp := (fun k_ => some k_ ≠ (.slice Ao33 y157.length co33 : Value).ownBlock ∧ some k_ ≠ (.slice Ao36 y163.length co36 : Value).ownBlock ∧ some k_ ≠ (.slice Ao34 y169.length co34 : Value).ownBlock ∧ some k_ ≠ (v174 : Value).ownBlock ∧ some k_ ≠ (.slice Ao38 t176.length co38 : Value).ownBlock ∧ k_ ≠ gb151 ∧ k_ ≠ gb152 ∧ k_ ≠ gb153)) ?hr ?hp (fun _ hk => hk) ((show ∀ k_, w52.heap.size ≤ k_ → (fun k_ => some k_ ≠ (.slice Ao33 y157.length co33 : Value).ownBlock ∧ some k_ ≠ (.slice Ao36 y163.length co36 : Value).ownBlock ∧ some k_ ≠ (.slice Ao34 y169.length co34 : Value).ownBlock ∧ some k_ ≠ (v174 : Value).ownBlock ∧ some k_ ≠ (.slice Ao38 t176.length co38 : Value).ownBlock ∧ k_ ≠ gb151 ∧ k_ ≠ gb152 ∧ k_ ≠ gb153) k_ from fun k_ hk => ⟨Kd.fresh' (Kd.N_lt (by (with_reducible repeat (first | apply Kd.N_alloc | apply Kd.N_drewN | apply Kd.N_drew)); exact HO159.out)) k_ hk, Kd.fresh' (Kd.N_lt (by (with_reducible repeat (first | apply Kd.N_alloc | apply Kd.N_drewN | apply Kd.N_drew)); exact HO165.out)) k_ hk, Kd.fresh' (Kd.N_lt (by (with_reducible repeat (first | apply Kd.N_alloc | apply Kd.N_drewN | apply Kd.N_drew)); exact HO171.out)) k_ hk, Kd.fresh' (Kd.N_lt (by (with_reducible repeat (first | apply Kd.N_alloc | apply Kd.N_drewN | apply Kd.N_drew)); exact HO175.out)) k_ hk, Kd.fresh' (Kd.N_lt (by (with_reducible repeat (first | apply Kd.N_alloc | apply Kd.N_drewN | apply Kd.N_drew)); exact HO179.out)) k_ hk, Kd.freshB (g := gb151) (o := .cells #[.int .u8 1, .int .u8 0, .int .u8 0, .int .u8 0, .int .u8 0, .int .u8 0, .int .u8 0, .int .u8 0] 52 (0, 0)) (by (with_reducible repeat (first | refine blk_drewN ?_ _ | refine blk_drew ?_ | refine blk_alloc ?_ _)); exact BK151.out) k_ hk, Kd.freshB (g := gb152) (o := .cells #[.int .u8 2, .int .u8 0, .int .u8 0, .int .u8 0, .int .u8 0, .int .u8 0, .int .u8 0, .int .u8 0] 52 (0, 0)) (by (with_reducible repeat (first | refine blk_drewN ?_ _ | refine blk_drew ?_ | refine blk_alloc ?_ _)); exact BK152.out) k_ hk, Kd.freshB (g := gb153) (o := .cells #[.int .u8 3, .int .u8 0, .int .u8 0, .int .u8 0, .int .u8 0, .int .u8 0, .int .u8 0, .int .u8 0] 52 (0, 0)) (by (with_reducible repeat (first | refine blk_drewN ?_ _ | refine blk_drew ?_ | refine blk_alloc ?_ _)); exact BK153.out) k_ hk⟩) _ (Nat.le_refl _)) (Below.refl _ _) (Nat.le_refl _) (by simp) ?_; (case hd => rfl); (case hg => rfl); (case hr => first | (go_simp; done) | (go_simp; rfl)); (case hp => exact (Reps.c3 (show Kd.FK k57 _ _ (⟨0, 0, y184⟩ : S57) [.int .i64 0, .int .i64 0, .slice Ao50 y184.length co50] from (k57_mkF _ _ (⟨0, 0, y184⟩ : S57) (Kd.R_reads' (Kd.R_mono (ok' := (fun k_ => some k_ ≠ (.slice Ao33 y157.length co33 : Value).ownBlock ∧ some k_ ≠ (.slice Ao36 y163.length co36 : Value).ownBlock ∧ some k_ ≠ (.slice Ao34 y169.length co34 : Value).ownBlock ∧ some k_ ≠ (v174 : Value).ownBlock ∧ some k_ ≠ (.slice Ao38 t176.length co38 : Value).ownBlock ∧ k_ ≠ gb151 ∧ k_ ≠ gb152 ∧ k_ ≠ gb153)) (Kd.R_apart' (Kd.R_apart' (Kd.R_apart' (Kd.R_apart' (Kd.R_apart' (HO186.out) (Kd.N_typed HO159.out) (by decide)) (Kd.N_typed HO165.out) (by decide)) (Kd.N_typed HO171.out) (by decide)) (Kd.N_typed HO175.out) (by decide)) (Kd.N_typed HO179.out) (by decide)) (fun k_ hk => ⟨hk.1.1.1.1.2, ⟨hk.1.1.1.2, ⟨hk.1.1.2, ⟨hk.1.2, ⟨hk.2, ⟨hk.1.1.1.1.1.1.1.1.2, ⟨hk.1.1.1.1.1.1.1.2, hk.1.1.1.1.1.1.2⟩⟩⟩⟩⟩⟩⟩))).2.1 (Kd.R_F (Kd.R_mono (ok' := (fun k_ => some k_ ≠ (.slice Ao33 y157.length co33 : Value).ownBlock ∧ some k_ ≠ (.slice Ao36 y163.length co36 : Value).ownBlock ∧ some k_ ≠ (.slice Ao34 y169.length co34 : Value).ownBlock ∧ some k_ ≠ (v174 : Value).ownBlock ∧ some k_ ≠ (.slice Ao38 t176.length co38 : Value).ownBlock ∧ k_ ≠ gb151 ∧ k_ ≠ gb152 ∧ k_ ≠ gb153)) (Kd.R_apart' (Kd.R_apart' (Kd.R_apart' (Kd.R_apart' (Kd.R_apart' (HO186.out) (Kd.N_typed HO159.out) (by decide)) (Kd.N_typed HO165.out) (by decide)) (Kd.N_typed HO171.out) (by decide)) (Kd.N_typed HO175.out) (by decide)) (Kd.N_typed HO179.out) (by decide)) (fun k_ hk => ⟨hk.1.1.1.1.2, ⟨hk.1.1.1.2, ⟨hk.1.1.2, ⟨hk.1.2, ⟨hk.2, ⟨hk.1.1.1.1.1.1.1.1.2, ⟨hk.1.1.1.1.1.1.1.2, hk.1.1.1.1.1.1.2⟩⟩⟩⟩⟩⟩⟩))))) (Reps.c3 (show Kd.FK k57 _ _ (⟨0, 4, y187⟩ : S57) [.int .i64 0, .int .i64 4, .slice Ao54 y187.length co54] from (k57_mkF _ _ (⟨0, 4, y187⟩ : S57) (Kd.R_reads' (Kd.R_mono (ok' := (fun k_ => some k_ ≠ (.slice Ao33 y157.length co33 : Value).ownBlock ∧ some k_ ≠ (.slice Ao36 y163.length co36 : Value).ownBlock ∧ some k_ ≠ (.slice Ao34 y169.length co34 : Value).ownBlock ∧ some k_ ≠ (v174 : Value).ownBlock ∧ some k_ ≠ (.slice Ao38 t176.length co38 : Value).ownBlock ∧ k_ ≠ gb151 ∧ k_ ≠ gb152 ∧ k_ ≠ gb153)) (Kd.R_apart' (Kd.R_apart' (Kd.R_apart' (Kd.R_apart' (Kd.R_apart' (HO189.out) (Kd.N_typed HO159.out) (by decide)) (Kd.N_typed HO165.out) (by decide)) (Kd.N_typed HO171.out) (by decide)) (Kd.N_typed HO175.out) (by decide)) (Kd.N_typed HO179.out) (by decide)) (fun k_ hk => ⟨hk.1.1.1.1.2, ⟨hk.1.1.1.2, ⟨hk.1.1.2, ⟨hk.1.2, ⟨hk.2, ⟨hk.1.1.1.1.1.1.1.2, ⟨hk.1.1.1.1.1.1.2, hk.1.1.1.1.1.2⟩⟩⟩⟩⟩⟩⟩))).2.1 (Kd.R_F (Kd.R_mono (ok' := (fun k_ => some k_ ≠ (.slice Ao33 y157.length co33 : Value).ownBlock ∧ some k_ ≠ (.slice Ao36 y163.length co36 : Value).ownBlock ∧ some k_ ≠ (.slice Ao34 y169.length co34 : Value).ownBlock ∧ some k_ ≠ (v174 : Value).ownBlock ∧ some k_ ≠ (.slice Ao38 t176.length co38 : Value).ownBlock ∧ k_ ≠ gb151 ∧ k_ ≠ gb152 ∧ k_ ≠ gb153)) (Kd.R_apart' (Kd.R_apart' (Kd.R_apart' (Kd.R_apart' (Kd.R_apart' (HO189.out) (Kd.N_typed HO159.out) (by decide)) (Kd.N_typed HO165.out) (by decide)) (Kd.N_typed HO171.out) (by decide)) (Kd.N_typed HO175.out) (by decide)) (Kd.N_typed HO179.out) (by decide)) (fun k_ hk => ⟨hk.1.1.1.1.2, ⟨hk.1.1.1.2, ⟨hk.1.1.2, ⟨hk.1.2, ⟨hk.2, ⟨hk.1.1.1.1.1.1.1.2, ⟨hk.1.1.1.1.1.1.2, hk.1.1.1.1.1.2⟩⟩⟩⟩⟩⟩⟩))))) (Reps.none _ _)))); intro v191 w55 ho56 hb hg_ hnew_; clear hg_ hnew_; (first | rw [← Ny190.out] at ho56 | (simp only [Int.reduceToNat] at ho56; rw [← Ny190.out] at ho56)); have n0_ := Aside0.mk (Kd.N_elder' (by (with_reducible repeat (first | apply Kd.N_alloc | apply Kd.N_drewN | apply Kd.N_drew)); exact HO159.out) (Kd.N_base ho56) hb); have n1_ := Aside0.mk (Kd.N_elder' (by (with_reducible repeat (first | apply Kd.N_alloc | apply Kd.N_drewN | apply Kd.N_drew)); exact HO165.out) (Kd.N_base ho56) hb); have n2_ := Aside0.mk (Kd.N_elder' (by (with_reducible repeat (first | apply Kd.N_alloc | apply Kd.N_drewN | apply Kd.N_drew)); exact HO171.out) (Kd.N_base ho56) hb); have n3_ := Aside0.mk (Kd.N_elder' (by (with_reducible repeat (first | apply Kd.N_alloc | apply Kd.N_drewN | apply Kd.N_drew)); exact HO175.out) (Kd.N_base ho56) hb); have n4_ := Aside0.mk (Kd.N_elder' (by (with_reducible repeat (first | apply Kd.N_alloc | apply Kd.N_drewN | apply Kd.N_drew)); exact HO179.out) (Kd.N_base ho56) hb); have n5_ := Aside0.mk (Kd.N_lower ho56 (below_size (by repeat (first | (with_reducible first | exact HB.out | apply below_alloc | apply pw_below_drewN | apply below_drew1 | refine below_set ?_ GE151.out | refine below_set ?_ GE152.out | refine below_set ?_ GE153.out) | exact HB.out)))); have n6_ := Aside0.mk (blk_below (g := gb151) (o := .cells #[.int .u8 1, .int .u8 0, .int .u8 0, .int .u8 0, .int .u8 0, .int .u8 0, .int .u8 0, .int .u8 0] 52 (0, 0)) (by (with_reducible repeat (first | refine blk_drewN ?_ _ | refine blk_drew ?_ | refine blk_alloc ?_ _)); exact BK151.out) hb); have n7_ := Aside0.mk (blk_below (g := gb152) (o := .cells #[.int .u8 2, .int .u8 0, .int .u8 0, .int .u8 0, .int .u8 0, .int .u8 0, .int .u8 0, .int .u8 0] 52 (0, 0)) (by (with_reducible repeat (first | refine blk_drewN ?_ _ | refine blk_drew ?_ | refine blk_alloc ?_ _)); exact BK152.out) hb); have n8_ := Aside0.mk (blk_below (g := gb153) (o := .cells #[.int .u8 3, .int .u8 0, .int .u8 0, .int .u8 0, .int .u8 0, .int .u8 0, .int .u8 0, .int .u8 0] 52 (0, 0)) (by (with_reducible repeat (first | refine blk_drewN ?_ _ | refine blk_drew ?_ | refine blk_alloc ?_ _)); exact BK153.out) hb); have n9_ := Aside0.mk (below_step (by repeat (first | (with_reducible first | exact HB.out | apply below_alloc | apply pw_below_drewN | apply below_drew1 | refine below_set ?_ GE151.out | refine below_set ?_ GE152.out | refine below_set ?_ GE153.out) | exact HB.out)) hb); clear HO159; clear HO165; clear HO171; clear HO175; clear HO179; clear BK151; clear BK152; clear BK153; clear HB; clear HO186; clear HO189; have HO159 := n0_; have HO165 := n1_; have HO171 := n2_; have HO175 := n3_; have HO179 := n4_; have HO192 := n5_; have BK151 := n6_; have BK152 := n7_; have BK153 := n8_; have HB := n9_; clear n0_ n1_ n2_ n3_ n4_ n5_ n6_ n7_ n8_ n9_; clear hb ho56; obtain ⟨Ao57, co57, eo57⟩ := Kd.N_slice HO175.out; subst eo57; obtain ⟨Ao58, co58, eo58⟩ := Kd.N_slice HO192.out; subst eo58) | (go_at_call 21; (with_reducible refine (standbyref22_Same.calls k _ _ t172 _ _ y190 t193 _ ?side1 ?side2 ?side3 ?side4 A42.out).mono ?_); (case side1 => repeat (first | exact (Kd.N_reads' HO175.out).2.2 | (with_reducible refine Kd.C_alloc ?_ _) | (with_reducible refine Kd.C_drewN ?_ _) | (with_reducible refine Kd.C_drew ?_))); (case side2 => exact (Kd.N_reads' HO175.out).2.1); (case side3 => repeat (first | exact (Kd.N_reads' HO192.out).2.2 | (with_reducible refine Kd.C_alloc ?_ _) | (with_reducible refine Kd.C_drewN ?_ _) | (with_reducible refine Kd.C_drew ?_))); (case side4 => exact (Kd.N_reads' HO192.out).2.1); rintro e w59 ⟨rfl, hb⟩; have n0_ := Aside0.mk (Kd.N_below (by (with_reducible repeat (first | apply Kd.N_alloc | apply Kd.N_drewN | apply Kd.N_drew)); exact HO159.out) hb); have n1_ := Aside0.mk (Kd.N_below (by (with_reducible repeat (first | apply Kd.N_alloc | apply Kd.N_drewN | apply Kd.N_drew)); exact HO165.out) hb); have n2_ := Aside0.mk (Kd.N_below (by (with_reducible repeat (first | apply Kd.N_alloc | apply Kd.N_drewN | apply Kd.N_drew)); exact HO171.out) hb); have n3_ := Aside0.mk (Kd.N_below (by (with_reducible repeat (first | apply Kd.N_alloc | apply Kd.N_drewN | apply Kd.N_drew)); exact HO175.out) hb); have n4_ := Aside0.mk (Kd.N_below (by (with_reducible repeat (first | apply Kd.N_alloc | apply Kd.N_drewN | apply Kd.N_drew)); exact HO179.out) hb); have n5_ := Aside0.mk (Kd.N_below (by (with_reducible repeat (first | apply Kd.N_alloc | apply Kd.N_drewN | apply Kd.N_drew)); exact HO192.out) hb); have n6_ := Aside0.mk (blk_below (g := gb151) (o := .cells #[.int .u8 1, .int .u8 0, .int .u8 0, .int .u8 0, .int .u8 0, .int .u8 0, .int .u8 0, .int .u8 0] 52 (0, 0)) (by (with_reducible repeat (first | refine blk_drewN ?_ _ | refine blk_drew ?_ | refine blk_alloc ?_ _)); exact BK151.out) hb); have n7_ := Aside0.mk (blk_below (g := gb152) (o := .cells #[.int .u8 2, .int .u8 0, .int .u8 0, .int .u8 0, .int .u8 0, .int .u8 0, .int .u8 0, .int .u8 0] 52 (0, 0)) (by (with_reducible repeat (first | refine blk_drewN ?_ _ | refine blk_drew ?_ | refine blk_alloc ?_ _)); exact BK152.out) hb); have n8_ := Aside0.mk (blk_below (g := gb153) (o := .cells #[.int .u8 3, .int .u8 0, .int .u8 0, .int .u8 0, .int .u8 0, .int .u8 0, .int .u8 0, .int .u8 0] 52 (0, 0)) (by (with_reducible repeat (first | refine blk_drewN ?_ _ | refine blk_drew ?_ | refine blk_alloc ?_ _)); exact BK153.out) hb); have n9_ := Aside0.mk (below_step (by repeat (first | (with_reducible first | exact HB.out | apply below_alloc | apply pw_below_drewN | apply below_drew1 | refine below_set ?_ GE151.out | refine below_set ?_ GE152.out | refine below_set ?_ GE153.out) | exact HB.out)) hb); clear HO159; clear HO165; clear HO171; clear HO175; clear HO179; clear HO192; clear BK151; clear BK152; clear BK153; clear HB; have HO159 := n0_; have HO165 := n1_; have HO171 := n2_; have HO175 := n3_; have HO179 := n4_; have HO192 := n5_; have BK151 := n6_; have BK152 := n7_; have BK153 := n8_; have HB := n9_; clear n0_ n1_ n2_ n3_ n4_ n5_ n6_ n7_ n8_ n9_; (try clear hb); (try clear hb2); (try clear hk); (try clear hi)))
      go_meet
      case rel => exact ⟨_, (!t193), (by first | rfl | (simp; done) | (simp [*]; done)), H', ⟨by first | omega | exact Nat.le_refl _⟩, ⟨by (with_reducible repeat (first | apply Kd.N_alloc | apply Kd.N_drewN | apply Kd.N_drew)); exact Kd.N_mono HO171.out (fun _ hk => ⟨hk.1.1.1.2, ⟨hk.1.1.1.1.1.2.2.1, ⟨hk.1.1.1.1.1.2.2.2.1, hk.1.1.1.1.1.2.2.2.2⟩⟩⟩)⟩, ⟨by (with_reducible repeat (first | apply Kd.N_alloc | apply Kd.N_drewN | apply Kd.N_drew)); exact Kd.N_mono HO179.out (fun _ hk => ⟨hk.1.1.1.2.2.1, ⟨hk.1.1.1.2.2.2.2.1, ⟨hk.1.1.1.2.2.2.2.2.1, hk.1.1.1.2.2.2.2.2.2⟩⟩⟩)⟩, ⟨by (with_reducible repeat (first | refine blk_drewN ?_ _ | refine blk_drew ?_ | refine blk_alloc ?_ _)); exact BK151.out⟩, ⟨by (with_reducible repeat (first | refine blk_drewN ?_ _ | refine blk_drew ?_ | refine blk_alloc ?_ _)); exact BK152.out⟩, ⟨by (with_reducible repeat (first | refine blk_drewN ?_ _ | refine blk_drew ?_ | refine blk_alloc ?_ _)); exact BK153.out⟩, ⟨by repeat (first | (with_reducible first | exact HB.out | apply below_alloc | apply pw_below_drewN | apply below_drew1 | refine below_set ?_ GE151.out | refine below_set ?_ GE152.out | refine below_set ?_ GE153.out) | exact HB.out)⟩⟩
    · rw [if_neg c41] at H
      have c41b0 : ((wrap64 ((wrap64 ((wrap64 (t173 + t177)) + t181)) + t183)) == 0) = false := beq_eq_false_iff_ne.mpr c41
      have c41b1 : ((wrap64 ((wrap64 ((wrap64 (t173 + t177)) + t181)) + t183)) != 0) = true := bne_iff_ne.mpr c41
      (first | rw [c41b0] | (simp only [i64_w, i32_w]; rw [c41b0]) | skip)
      have H' := Aside0.mk H
      clear H
      go_wp2
      go_meet
      case rel => exact ⟨_, (true), (by first | rfl | (simp; done) | (simp [*]; done)), H', ⟨by first | omega | exact Nat.le_refl _⟩, ⟨by (with_reducible repeat (first | apply Kd.N_alloc | apply Kd.N_drewN | apply Kd.N_drew)); exact Kd.N_mono HO171.out (fun _ hk => ⟨hk.2, ⟨hk.1.1.2.2.1, ⟨hk.1.1.2.2.2.1, hk.1.1.2.2.2.2⟩⟩⟩)⟩, ⟨by (with_reducible repeat (first | apply Kd.N_alloc | apply Kd.N_drewN | apply Kd.N_drew)); exact Kd.N_mono HO179.out (fun _ hk => ⟨hk.2.2.1, ⟨hk.2.2.2.2.1, ⟨hk.2.2.2.2.2.1, hk.2.2.2.2.2.2⟩⟩⟩)⟩, ⟨by (with_reducible repeat (first | refine blk_drewN ?_ _ | refine blk_drew ?_ | refine blk_alloc ?_ _)); exact BK151.out⟩, ⟨by (with_reducible repeat (first | refine blk_drewN ?_ _ | refine blk_drew ?_ | refine blk_alloc ?_ _)); exact BK152.out⟩, ⟨by (with_reducible repeat (first | refine blk_drewN ?_ _ | refine blk_drew ?_ | refine blk_alloc ?_ _)); exact BK153.out⟩, ⟨by repeat (first | (with_reducible first | exact HB.out | apply below_alloc | apply pw_below_drewN | apply below_drew1 | refine below_set ?_ GE151.out | refine below_set ?_ GE152.out | refine below_set ?_ GE153.out) | exact HB.out)⟩⟩
  case rest =>
    clear HC5
    try clear c1
    try clear c2
    try clear p2
    try clear c3
    try clear c4
    try clear c5
    try clear c6
    try clear p6
    try clear c7
    try clear c8
    try clear c9
    try clear c10
    try clear c11
    try clear c12
    try clear c16
    try clear c41
    try clear c41b0
    try clear c41b1
    try clear c43
    try clear c44
    try clear c46
    try clear hcz11_0
    try clear hcz11_1
    try clear hcz11_2
    try clear hcz11_3
    try clear hcz11_4
    try clear hcz11_5
    try clear hcz11_6
    try clear hcz11_7
    try clear hcz13_0
    try clear hcz13_1
    try clear hcz13_2
    try clear hcz13_3
    try clear hcz13_4
    try clear hcz13_5
    try clear hcz13_6
    try clear hcz13_7
    try clear hcz14_0
    try clear hcz14_1
    try clear hcz14_2
    try clear hcz14_3
    try clear hcz14_4
    try clear hcz14_5
    try clear hcz14_6
    try clear hcz14_7
    try clear hcz45_0
    try clear hcz45_1
    try clear hcz45_2
    try clear hcz45_3
    try clear hcz45_4
    try clear hcz45_5
    try clear hcz45_6
    try clear hcz45_7
    try clear hcz47_0
    try clear hcz47_1
    try clear hcz47_2
    try clear hcz47_3
    try clear hcz47_4
    try clear hcz47_5
    try clear hcz47_6
    try clear hcz47_7
    try clear hcz51_0
    try clear hcz51_1
    try clear hcz51_2
    try clear hcz51_3
    try clear hcz51_4
    try clear hcz51_5
    try clear hcz51_6
    try clear hcz51_7
    try clear hfz11_0
    try clear hfz11_1
    try clear hfz11_2
    try clear hfz11_3
    try clear hfz11_4
    try clear hfz11_5
    try clear hfz11_6
    try clear hfz11_7
    try clear hfz13_0
    try clear hfz13_1
    try clear hfz13_2
    try clear hfz13_3
    try clear hfz13_4
    try clear hfz13_5
    try clear hfz13_6
    try clear hfz13_7
    try clear hfz14_0
    try clear hfz14_1
    try clear hfz14_2
    try clear hfz14_3
    try clear hfz14_4
    try clear hfz14_5
    try clear hfz14_6
    try clear hfz14_7
    try clear hfz45_0
    try clear hfz45_1
    try clear hfz45_2
    try clear hfz45_3
    try clear hfz45_4
    try clear hfz45_5
    try clear hfz45_6
    try clear hfz45_7
    try clear hfz47_0
    try clear hfz47_1
    try clear hfz47_2
    try clear hfz47_3
    try clear hfz47_4
    try clear hfz47_5
    try clear hfz47_6
    try clear hfz47_7
    try clear hfz51_0
    try clear hfz51_1
    try clear hfz51_2
    try clear hfz51_3
    try clear hfz51_4
    try clear hfz51_5
    try clear hfz51_6
    try clear hfz51_7
    obtain ⟨kq, x83_4, rfl, HA, HJ4, HO_6, HO_9, BK151, BK152, BK153, HB⟩ := hcut
    cases kq with
    | zero => exact absurd HA.out (by simp [standbylaw45_awake.j0])
    | succ kj4 =>
      have H := HA.out
      clear HA
      simp only [standbylaw45_awake.j0] at H
      by_cases c60 : x83_4 = true
      · subst c60
        have H1 : (some false) = some r := by rw [if_pos rfl] at H; exact H
        clear H
        have H := H1
        clear H1
        obtain rfl := Option.some.inj H
        go_wp2
        go_ret
        exact ⟨by first | rfl | (simp [errW_none, errW_some] <;> rfl) | (simp [*, errW_none, errW_some] <;> rfl), by repeat (first | (with_reducible first | exact HB.out | apply below_alloc | apply pw_below_drewN | apply below_drew1 | refine below_set ?_ GE151.out | refine below_set ?_ GE152.out | refine below_set ?_ GE153.out) | exact HB.out)⟩
      · replace c60 := Bool.eq_false_iff.mpr c60
        subst c60
        have H1 : ((standbyref36_SameExtents.f kj4 t176 (([(([(⟨0, 1⟩ : S54), (⟨4, 1⟩ : S54)] : List (S54)))] : List (List (S54))))).bind fun t200 => (if t200 = true then (if t180 = true then (if t182 = true then (some false) else ((resync_Cost.f y169).bind fun t201 => (if t201 = 3 then ((resync_Cost.f t176).bind fun t202 => (some (t202 == 2))) else (some false)))) else (some false)) else (some false))) = some r := by rw [if_neg (show ¬ (false = true) by decide)] at H; exact H
        clear H
        have H := H1
        clear H1
        obtain ⟨y194, hy194⟩ : ∃ y_ : List (S54), y_ = (([(⟨0, 1⟩ : S54), (⟨4, 1⟩ : S54)] : List (S54))) := ⟨_, rfl⟩
        replace H : ((standbyref36_SameExtents.f kj4 t176 (([y194] : List (List (S54))))).bind fun t200 => (if t200 = true then (if t180 = true then (if t182 = true then (some false) else ((resync_Cost.f y169).bind fun t201 => (if t201 = 3 then ((resync_Cost.f t176).bind fun t202 => (some (t202 == 2))) else (some false)))) else (some false)) else (some false))) = some r := by first | (rw [hy194]; with_reducible exact H) | (have H2_ := (Option.bind_some _ _).symm.trans H; rw [hy194]; with_reducible exact H2_) | (have H2_ := (Option.bind_some _ _).symm.trans H; with_reducible exact H2_) | with_reducible exact H | (rw [hy194]; exact H) | exact H
        have Ny194 := Aside0.mk hy194
        clear hy194
        obtain ⟨y197, hy197⟩ : ∃ y_ : List (List (S54)), y_ = (([y194] : List (List (S54)))) := ⟨_, rfl⟩
        replace H : ((standbyref36_SameExtents.f kj4 t176 y197).bind fun t200 => (if t200 = true then (if t180 = true then (if t182 = true then (some false) else ((resync_Cost.f y169).bind fun t201 => (if t201 = 3 then ((resync_Cost.f t176).bind fun t202 => (some (t202 == 2))) else (some false)))) else (some false)) else (some false))) = some r := by first | (rw [hy197]; with_reducible exact H) | (have H2_ := (Option.bind_some _ _).symm.trans H; rw [hy197]; with_reducible exact H2_) | (have H2_ := (Option.bind_some _ _).symm.trans H; with_reducible exact H2_) | with_reducible exact H | (rw [hy197]; exact H) | exact H
        have Ny197 := Aside0.mk hy197
        clear hy197
        replace H := Option.bind_eq_some_iff.mp H
        obtain ⟨t200, A610, H⟩ := H
        replace H : (if t200 = true then (if t180 = true then (if t182 = true then (some false) else ((resync_Cost.f y169).bind fun t201 => (if t201 = 3 then ((resync_Cost.f t176).bind fun t202 => (some (t202 == 2))) else (some false)))) else (some false)) else (some false)) = some r := H
        have A61 := Aside0.mk A610
        clear A610
        by_cases c62 : t200 = true
        · subst c62
          have H1 : (if t180 = true then (if t182 = true then (some false) else ((resync_Cost.f y169).bind fun t201 => (if t201 = 3 then ((resync_Cost.f t176).bind fun t202 => (some (t202 == 2))) else (some false)))) else (some false)) = some r := by rw [if_pos rfl] at H; exact H
          clear H
          have H := H1
          clear H1
          by_cases c63 : t180 = true
          · subst c63
            have H1 : (if t182 = true then (some false) else ((resync_Cost.f y169).bind fun t201 => (if t201 = 3 then ((resync_Cost.f t176).bind fun t202 => (some (t202 == 2))) else (some false)))) = some r := by rw [if_pos rfl] at H; exact H
            clear H
            have H := H1
            clear H1
            by_cases c64 : t182 = true
            · subst c64
              have H1 : (some false) = some r := by rw [if_pos rfl] at H; exact H
              clear H
              have H := H1
              clear H1
              obtain rfl := Option.some.inj H
              go_wp2_with (first | ((with_reducible refine gate_dst (N := 87) rfl ?_); (try (refine gate_guard (by rfl) ?_; dsimp only)); refine Kd.R_lit k54 _ 54 ?hg (N := 87) ?hd (xs := ([(⟨0, 1⟩ : S54), (⟨4, 1⟩ : S54)] : List (S54))) (inner := [.int .i64 0, .int .i64 1, .int .i64 4, .int .i64 1]) (ok := fun _ => True) (okp := fun _ => True) ?hr ?hp (fun _ hk => hk) trivial (Below.refl _ _) (Nat.le_refl _) (by simp) ?_; (case hd => rfl); (case hg => rfl); (case hr => first | (go_simp; done) | (go_simp; rfl)); (case hp => exact (Reps.c2 (show Kd.M k54 _ _ _ (⟨0, 1⟩ : S54) [.int .i64 0, .int .i64 1] from (k54_mkM _ _ _ (⟨0, 1⟩ : S54) )) (Reps.c2 (show Kd.M k54 _ _ _ (⟨4, 1⟩ : S54) [.int .i64 4, .int .i64 1] from (k54_mkM _ _ _ (⟨4, 1⟩ : S54) )) (Reps.none _ _)))); intro v195 w65 ho66 hb hg_ hnew_; clear hg_ hnew_; (first | rw [← Ny194.out] at ho66 | (simp only [Int.reduceToNat] at ho66; rw [← Ny194.out] at ho66)); have n0_ := Aside0.mk (Kd.N_elder' (by (with_reducible repeat (first | apply Kd.N_alloc | apply Kd.N_drewN | apply Kd.N_drew)); exact HO_6.out) (Kd.R_base ho66) hb); have n1_ := Aside0.mk (Kd.N_elder' (by (with_reducible repeat (first | apply Kd.N_alloc | apply Kd.N_drewN | apply Kd.N_drew)); exact HO_9.out) (Kd.R_base ho66) hb); have n2_ := Aside0.mk (Kd.R_lower ho66 (below_size (by repeat (first | (with_reducible first | exact HB.out | apply below_alloc | apply pw_below_drewN | apply below_drew1 | refine below_set ?_ GE151.out | refine below_set ?_ GE152.out | refine below_set ?_ GE153.out) | exact HB.out)))); have n3_ := Aside0.mk (blk_below (g := gb151) (o := .cells #[.int .u8 1, .int .u8 0, .int .u8 0, .int .u8 0, .int .u8 0, .int .u8 0, .int .u8 0, .int .u8 0] 52 (0, 0)) (by (with_reducible repeat (first | refine blk_drewN ?_ _ | refine blk_drew ?_ | refine blk_alloc ?_ _)); exact BK151.out) hb); have n4_ := Aside0.mk (blk_below (g := gb152) (o := .cells #[.int .u8 2, .int .u8 0, .int .u8 0, .int .u8 0, .int .u8 0, .int .u8 0, .int .u8 0, .int .u8 0] 52 (0, 0)) (by (with_reducible repeat (first | refine blk_drewN ?_ _ | refine blk_drew ?_ | refine blk_alloc ?_ _)); exact BK152.out) hb); have n5_ := Aside0.mk (blk_below (g := gb153) (o := .cells #[.int .u8 3, .int .u8 0, .int .u8 0, .int .u8 0, .int .u8 0, .int .u8 0, .int .u8 0, .int .u8 0] 52 (0, 0)) (by (with_reducible repeat (first | refine blk_drewN ?_ _ | refine blk_drew ?_ | refine blk_alloc ?_ _)); exact BK153.out) hb); have n6_ := Aside0.mk (below_step (by repeat (first | (with_reducible first | exact HB.out | apply below_alloc | apply pw_below_drewN | apply below_drew1 | refine below_set ?_ GE151.out | refine below_set ?_ GE152.out | refine below_set ?_ GE153.out) | exact HB.out)) hb); clear HO_6; clear HO_9; clear BK151; clear BK152; clear BK153; clear HB; have HO_6 := n0_; have HO_9 := n1_; have HO196 := n2_; have BK151 := n3_; have BK152 := n4_; have BK153 := n5_; have HB := n6_; clear n0_ n1_ n2_ n3_ n4_ n5_ n6_; clear hb ho66; obtain ⟨Ao67, co67, eo67⟩ := Kd.R_slice HO196.out; subst eo67) | ((with_reducible refine gate_dst (N := 88) rfl ?_); (try (refine gate_guard (by rfl) ?_; dsimp only)); refine Kd.N_lit (Kd.slice 54 k54) _ 50 ?hg (N' := 88) ?hd (xs := ([y194] : List (List (S54)))) (inner := [.slice Ao67 y194.length co67]) (ok := (fun k_ => some k_ ≠ (.slice Ao34 y169.length co34 : Value).ownBlock ∧ some k_ ≠ (.slice Ao38 t176.length co38 : Value).ownBlock ∧ k_ ≠ gb151 ∧ k_ ≠ gb152 ∧ k_ ≠ gb153)) (okp := (fun k_ => some k_ ≠ (.slice Ao34 y169.length co34 : Value).ownBlock ∧ some k_ ≠ (.slice Ao38 t176.length co38 : Value).ownBlock ∧ k_ ≠ gb151 ∧ k_ ≠ gb152 ∧ k_ ≠ gb153)) ?hr ?hp (fun _ hk => hk) ((show ∀ k_, w65.heap.size ≤ k_ → (fun k_ => some k_ ≠ (.slice Ao34 y169.length co34 : Value).ownBlock ∧ some k_ ≠ (.slice Ao38 t176.length co38 : Value).ownBlock ∧ k_ ≠ gb151 ∧ k_ ≠ gb152 ∧ k_ ≠ gb153) k_ from fun k_ hk => ⟨Kd.fresh' (Kd.N_lt (by (with_reducible repeat (first | apply Kd.N_alloc | apply Kd.N_drewN | apply Kd.N_drew)); exact HO_6.out)) k_ hk, Kd.fresh' (Kd.N_lt (by (with_reducible repeat (first | apply Kd.N_alloc | apply Kd.N_drewN | apply Kd.N_drew)); exact HO_9.out)) k_ hk, Kd.freshB (g := gb151) (o := .cells #[.int .u8 1, .int .u8 0, .int .u8 0, .int .u8 0, .int .u8 0, .int .u8 0, .int .u8 0, .int .u8 0] 52 (0, 0)) (by (with_reducible repeat (first | refine blk_drewN ?_ _ | refine blk_drew ?_ | refine blk_alloc ?_ _)); exact BK151.out) k_ hk, Kd.freshB (g := gb152) (o := .cells #[.int .u8 2, .int .u8 0, .int .u8 0, .int .u8 0, .int .u8 0, .int .u8 0, .int .u8 0, .int .u8 0] 52 (0, 0)) (by (with_reducible repeat (first | refine blk_drewN ?_ _ | refine blk_drew ?_ | refine blk_alloc ?_ _)); exact BK152.out) k_ hk, Kd.freshB (g := gb153) (o := .cells #[.int .u8 3, .int .u8 0, .int .u8 0, .int .u8 0, .int .u8 0, .int .u8 0, .int .u8 0, .int .u8 0] 52 (0, 0)) (by (with_reducible repeat (first | refine blk_drewN ?_ _ | refine blk_drew ?_ | refine blk_alloc ?_ _)); exact BK153.out) k_ hk⟩) _ (Nat.le_refl _)) (Below.refl _ _) (Nat.le_refl _) (by simp) ?_; (case hd => rfl); (case hg => rfl); (case hr => first | (go_simp; done) | (go_simp; rfl)); (case hp => exact (Reps.one (show Kd.FK (Kd.slice 54 k54) _ _ y194 [.slice Ao67 y194.length co67] from (Kd.FK_slice_mk (Kd.R_reads' (Kd.R_mono (ok' := (fun k_ => some k_ ≠ (.slice Ao34 y169.length co34 : Value).ownBlock ∧ some k_ ≠ (.slice Ao38 t176.length co38 : Value).ownBlock ∧ k_ ≠ gb151 ∧ k_ ≠ gb152 ∧ k_ ≠ gb153)) (Kd.R_types (Kd.R_types (Kd.R_types (Kd.R_apart' (Kd.R_apart' (HO196.out) (Kd.N_typed HO_6.out) (by decide)) (Kd.N_typed HO_9.out) (by decide)) BK151.out (by decide)) BK152.out (by decide)) BK153.out (by decide)) (fun k_ hk => ⟨hk.1.1.1.1.2, ⟨hk.1.1.1.2, ⟨hk.1.1.2, ⟨hk.1.2, hk.2⟩⟩⟩⟩))).2.1 (Kd.R_F (Kd.R_mono (ok' := (fun k_ => some k_ ≠ (.slice Ao34 y169.length co34 : Value).ownBlock ∧ some k_ ≠ (.slice Ao38 t176.length co38 : Value).ownBlock ∧ k_ ≠ gb151 ∧ k_ ≠ gb152 ∧ k_ ≠ gb153)) (Kd.R_types (Kd.R_types (Kd.R_types (Kd.R_apart' (Kd.R_apart' (HO196.out) (Kd.N_typed HO_6.out) (by decide)) (Kd.N_typed HO_9.out) (by decide)) BK151.out (by decide)) BK152.out (by decide)) BK153.out (by decide)) (fun k_ hk => ⟨hk.1.1.1.1.2, ⟨hk.1.1.1.2, ⟨hk.1.1.2, ⟨hk.1.2, hk.2⟩⟩⟩⟩))))) (Reps.none _ _))); intro v198 w68 ho69 hb hg_ hnew_; clear hg_ hnew_; (first | rw [← Ny197.out] at ho69 | (simp only [Int.reduceToNat] at ho69; rw [← Ny197.out] at ho69)); have n0_ := Aside0.mk (Kd.N_elder' (by (with_reducible repeat (first | apply Kd.N_alloc | apply Kd.N_drewN | apply Kd.N_drew)); exact HO_6.out) (Kd.N_base ho69) hb); have n1_ := Aside0.mk (Kd.N_elder' (by (with_reducible repeat (first | apply Kd.N_alloc | apply Kd.N_drewN | apply Kd.N_drew)); exact HO_9.out) (Kd.N_base ho69) hb); have n2_ := Aside0.mk (Kd.N_lower ho69 (below_size (by repeat (first | (with_reducible first | exact HB.out | apply below_alloc | apply pw_below_drewN | apply below_drew1 | refine below_set ?_ GE151.out | refine below_set ?_ GE152.out | refine below_set ?_ GE153.out) | exact HB.out)))); have n3_ := Aside0.mk (blk_below (g := gb151) (o := .cells #[.int .u8 1, .int .u8 0, .int .u8 0, .int .u8 0, .int .u8 0, .int .u8 0, .int .u8 0, .int .u8 0] 52 (0, 0)) (by (with_reducible repeat (first | refine blk_drewN ?_ _ | refine blk_drew ?_ | refine blk_alloc ?_ _)); exact BK151.out) hb); have n4_ := Aside0.mk (blk_below (g := gb152) (o := .cells #[.int .u8 2, .int .u8 0, .int .u8 0, .int .u8 0, .int .u8 0, .int .u8 0, .int .u8 0, .int .u8 0] 52 (0, 0)) (by (with_reducible repeat (first | refine blk_drewN ?_ _ | refine blk_drew ?_ | refine blk_alloc ?_ _)); exact BK152.out) hb); have n5_ := Aside0.mk (blk_below (g := gb153) (o := .cells #[.int .u8 3, .int .u8 0, .int .u8 0, .int .u8 0, .int .u8 0, .int .u8 0, .int .u8 0, .int .u8 0] 52 (0, 0)) (by (with_reducible repeat (first | refine blk_drewN ?_ _ | refine blk_drew ?_ | refine blk_alloc ?_ _)); exact BK153.out) hb); have n6_ := Aside0.mk (below_step (by repeat (first | (with_reducible first | exact HB.out | apply below_alloc | apply pw_below_drewN | apply below_drew1 | refine below_set ?_ GE151.out | refine below_set ?_ GE152.out | refine below_set ?_ GE153.out) | exact HB.out)) hb); clear HO_6; clear HO_9; clear BK151; clear BK152; clear BK153; clear HB; clear HO196; have HO_6 := n0_; have HO_9 := n1_; have HO199 := n2_; have BK151 := n3_; have BK152 := n4_; have BK153 := n5_; have HB := n6_; clear n0_ n1_ n2_ n3_ n4_ n5_ n6_; clear hb ho69; obtain ⟨Ao70, co70, eo70⟩ := Kd.N_slice HO199.out; subst eo70) | ((with_reducible refine gate_callee (f := 13) rfl ?_); refine goesL_ (some 89) rfl rfl Try.func13 (by kernel_rfl) rfl #[.slice Ao38 t176.length co38, .slice Ao70 y197.length co70] rfl (by (try simp only [List.map_toArray, List.map_cons, List.map_nil]); first | done | rfl | (simp only [List.length_drop, List.length_take]; rfl)) ?_; (with_reducible refine (standbyref36_SameExtents.calls kj4 _ _ t176 _ _ y197 true _ ?side1 ?side2 ?side3 ?side4 A61.out).mono ?_); (case side1 => repeat (first | exact (Kd.N_reads' HO_9.out).2.2 | (with_reducible refine Kd.C_alloc ?_ _) | (with_reducible refine Kd.C_drewN ?_ _) | (with_reducible refine Kd.C_drew ?_))); (case side2 => exact (Kd.N_reads' HO_9.out).2.1); (case side3 => repeat (first | exact (Kd.N_reads' HO199.out).2.2 | (with_reducible refine Kd.C_alloc ?_ _) | (with_reducible refine Kd.C_drewN ?_ _) | (with_reducible refine Kd.C_drew ?_))); (case side4 => exact (Kd.N_reads' HO199.out).2.1); rintro e w' ⟨rfl, ⟨nd, rfl⟩⟩; refine ⟨_, rfl, ?_⟩))
              go_ret
              exact ⟨by first | rfl | (simp [errW_none, errW_some] <;> rfl) | (simp [*, errW_none, errW_some] <;> rfl), by repeat (first | (with_reducible first | exact HB.out | apply below_alloc | apply pw_below_drewN | apply below_drew1 | refine below_set ?_ GE151.out | refine below_set ?_ GE152.out | refine below_set ?_ GE153.out) | exact HB.out)⟩
            · replace c64 := Bool.eq_false_iff.mpr c64
              subst c64
              have H1 : ((resync_Cost.f y169).bind fun t201 => (if t201 = 3 then ((resync_Cost.f t176).bind fun t202 => (some (t202 == 2))) else (some false))) = some r := by rw [if_neg (show ¬ (false = true) by decide)] at H; exact H
              clear H
              have H := H1
              clear H1
              replace H := Option.bind_eq_some_iff.mp H
              obtain ⟨t201, A710, H⟩ := H
              replace H : (if t201 = 3 then ((resync_Cost.f t176).bind fun t202 => (some (t202 == 2))) else (some false)) = some r := H
              have A71 := Aside0.mk A710
              clear A710
              by_cases c72 : t201 = 3
              · rw [if_pos c72] at H
                have c72b0 : (t201 == 3) = true := beq_iff_eq.mpr c72
                have c72b1 : (t201 != 3) = false := bne_eq_false_iff_eq.mpr c72
                clear c72
                replace H := Option.bind_eq_some_iff.mp H
                obtain ⟨t202, A730, H⟩ := H
                replace H : (some (t202 == 2)) = some r := H
                have A73 := Aside0.mk A730
                clear A730
                obtain rfl := Option.some.inj H
                go_wp2_with (first | ((with_reducible refine gate_dst (N := 87) rfl ?_); (try (refine gate_guard (by rfl) ?_; dsimp only)); refine Kd.R_lit k54 _ 54 ?hg (N := 87) ?hd (xs := ([(⟨0, 1⟩ : S54), (⟨4, 1⟩ : S54)] : List (S54))) (inner := [.int .i64 0, .int .i64 1, .int .i64 4, .int .i64 1]) (ok := fun _ => True) (okp := fun _ => True) ?hr ?hp (fun _ hk => hk) trivial (Below.refl _ _) (Nat.le_refl _) (by simp) ?_; (case hd => rfl); (case hg => rfl); (case hr => first | (go_simp; done) | (go_simp; rfl)); (case hp => exact (Reps.c2 (show Kd.M k54 _ _ _ (⟨0, 1⟩ : S54) [.int .i64 0, .int .i64 1] from (k54_mkM _ _ _ (⟨0, 1⟩ : S54) )) (Reps.c2 (show Kd.M k54 _ _ _ (⟨4, 1⟩ : S54) [.int .i64 4, .int .i64 1] from (k54_mkM _ _ _ (⟨4, 1⟩ : S54) )) (Reps.none _ _)))); intro v195 w74 ho75 hb hg_ hnew_; clear hg_ hnew_; (first | rw [← Ny194.out] at ho75 | (simp only [Int.reduceToNat] at ho75; rw [← Ny194.out] at ho75)); have n0_ := Aside0.mk (Kd.N_elder' (by (with_reducible repeat (first | apply Kd.N_alloc | apply Kd.N_drewN | apply Kd.N_drew)); exact HO_6.out) (Kd.R_base ho75) hb); have n1_ := Aside0.mk (Kd.N_elder' (by (with_reducible repeat (first | apply Kd.N_alloc | apply Kd.N_drewN | apply Kd.N_drew)); exact HO_9.out) (Kd.R_base ho75) hb); have n2_ := Aside0.mk (Kd.R_lower ho75 (below_size (by repeat (first | (with_reducible first | exact HB.out | apply below_alloc | apply pw_below_drewN | apply below_drew1 | refine below_set ?_ GE151.out | refine below_set ?_ GE152.out | refine below_set ?_ GE153.out) | exact HB.out)))); have n3_ := Aside0.mk (blk_below (g := gb151) (o := .cells #[.int .u8 1, .int .u8 0, .int .u8 0, .int .u8 0, .int .u8 0, .int .u8 0, .int .u8 0, .int .u8 0] 52 (0, 0)) (by (with_reducible repeat (first | refine blk_drewN ?_ _ | refine blk_drew ?_ | refine blk_alloc ?_ _)); exact BK151.out) hb); have n4_ := Aside0.mk (blk_below (g := gb152) (o := .cells #[.int .u8 2, .int .u8 0, .int .u8 0, .int .u8 0, .int .u8 0, .int .u8 0, .int .u8 0, .int .u8 0] 52 (0, 0)) (by (with_reducible repeat (first | refine blk_drewN ?_ _ | refine blk_drew ?_ | refine blk_alloc ?_ _)); exact BK152.out) hb); have n5_ := Aside0.mk (blk_below (g := gb153) (o := .cells #[.int .u8 3, .int .u8 0, .int .u8 0, .int .u8 0, .int .u8 0, .int .u8 0, .int .u8 0, .int .u8 0] 52 (0, 0)) (by (with_reducible repeat (first | refine blk_drewN ?_ _ | refine blk_drew ?_ | refine blk_alloc ?_ _)); exact BK153.out) hb); have n6_ := Aside0.mk (below_step (by repeat (first | (with_reducible first | exact HB.out | apply below_alloc | apply pw_below_drewN | apply below_drew1 | refine below_set ?_ GE151.out | refine below_set ?_ GE152.out | refine below_set ?_ GE153.out) | exact HB.out)) hb); clear HO_6; clear HO_9; clear BK151; clear BK152; clear BK153; clear HB; have HO_6 := n0_; have HO_9 := n1_; have HO196 := n2_; have BK151 := n3_; have BK152 := n4_; have BK153 := n5_; have HB := n6_; clear n0_ n1_ n2_ n3_ n4_ n5_ n6_; clear hb ho75; obtain ⟨Ao76, co76, eo76⟩ := Kd.R_slice HO196.out; subst eo76) | ((with_reducible refine gate_dst (N := 88) rfl ?_); (try (refine gate_guard (by rfl) ?_; dsimp only)); refine Kd.N_lit (Kd.slice 54 k54) _ 50 ?hg (N' := 88) ?hd (xs := ([y194] : List (List (S54)))) (inner := [.slice Ao76 y194.length co76]) (ok := (fun k_ => some k_ ≠ (.slice Ao34 y169.length co34 : Value).ownBlock ∧ some k_ ≠ (.slice Ao38 t176.length co38 : Value).ownBlock ∧ k_ ≠ gb151 ∧ k_ ≠ gb152 ∧ k_ ≠ gb153)) (okp := (fun k_ => some k_ ≠ (.slice Ao34 y169.length co34 : Value).ownBlock ∧ some k_ ≠ (.slice Ao38 t176.length co38 : Value).ownBlock ∧ k_ ≠ gb151 ∧ k_ ≠ gb152 ∧ k_ ≠ gb153)) ?hr ?hp (fun _ hk => hk) ((show ∀ k_, w74.heap.size ≤ k_ → (fun k_ => some k_ ≠ (.slice Ao34 y169.length co34 : Value).ownBlock ∧ some k_ ≠ (.slice Ao38 t176.length co38 : Value).ownBlock ∧ k_ ≠ gb151 ∧ k_ ≠ gb152 ∧ k_ ≠ gb153) k_ from fun k_ hk => ⟨Kd.fresh' (Kd.N_lt (by (with_reducible repeat (first | apply Kd.N_alloc | apply Kd.N_drewN | apply Kd.N_drew)); exact HO_6.out)) k_ hk, Kd.fresh' (Kd.N_lt (by (with_reducible repeat (first | apply Kd.N_alloc | apply Kd.N_drewN | apply Kd.N_drew)); exact HO_9.out)) k_ hk, Kd.freshB (g := gb151) (o := .cells #[.int .u8 1, .int .u8 0, .int .u8 0, .int .u8 0, .int .u8 0, .int .u8 0, .int .u8 0, .int .u8 0] 52 (0, 0)) (by (with_reducible repeat (first | refine blk_drewN ?_ _ | refine blk_drew ?_ | refine blk_alloc ?_ _)); exact BK151.out) k_ hk, Kd.freshB (g := gb152) (o := .cells #[.int .u8 2, .int .u8 0, .int .u8 0, .int .u8 0, .int .u8 0, .int .u8 0, .int .u8 0, .int .u8 0] 52 (0, 0)) (by (with_reducible repeat (first | refine blk_drewN ?_ _ | refine blk_drew ?_ | refine blk_alloc ?_ _)); exact BK152.out) k_ hk, Kd.freshB (g := gb153) (o := .cells #[.int .u8 3, .int .u8 0, .int .u8 0, .int .u8 0, .int .u8 0, .int .u8 0, .int .u8 0, .int .u8 0] 52 (0, 0)) (by (with_reducible repeat (first | refine blk_drewN ?_ _ | refine blk_drew ?_ | refine blk_alloc ?_ _)); exact BK153.out) k_ hk⟩) _ (Nat.le_refl _)) (Below.refl _ _) (Nat.le_refl _) (by simp) ?_; (case hd => rfl); (case hg => rfl); (case hr => first | (go_simp; done) | (go_simp; rfl)); (case hp => exact (Reps.one (show Kd.FK (Kd.slice 54 k54) _ _ y194 [.slice Ao76 y194.length co76] from (Kd.FK_slice_mk (Kd.R_reads' (Kd.R_mono (ok' := (fun k_ => some k_ ≠ (.slice Ao34 y169.length co34 : Value).ownBlock ∧ some k_ ≠ (.slice Ao38 t176.length co38 : Value).ownBlock ∧ k_ ≠ gb151 ∧ k_ ≠ gb152 ∧ k_ ≠ gb153)) (Kd.R_types (Kd.R_types (Kd.R_types (Kd.R_apart' (Kd.R_apart' (HO196.out) (Kd.N_typed HO_6.out) (by decide)) (Kd.N_typed HO_9.out) (by decide)) BK151.out (by decide)) BK152.out (by decide)) BK153.out (by decide)) (fun k_ hk => ⟨hk.1.1.1.1.2, ⟨hk.1.1.1.2, ⟨hk.1.1.2, ⟨hk.1.2, hk.2⟩⟩⟩⟩))).2.1 (Kd.R_F (Kd.R_mono (ok' := (fun k_ => some k_ ≠ (.slice Ao34 y169.length co34 : Value).ownBlock ∧ some k_ ≠ (.slice Ao38 t176.length co38 : Value).ownBlock ∧ k_ ≠ gb151 ∧ k_ ≠ gb152 ∧ k_ ≠ gb153)) (Kd.R_types (Kd.R_types (Kd.R_types (Kd.R_apart' (Kd.R_apart' (HO196.out) (Kd.N_typed HO_6.out) (by decide)) (Kd.N_typed HO_9.out) (by decide)) BK151.out (by decide)) BK152.out (by decide)) BK153.out (by decide)) (fun k_ hk => ⟨hk.1.1.1.1.2, ⟨hk.1.1.1.2, ⟨hk.1.1.2, ⟨hk.1.2, hk.2⟩⟩⟩⟩))))) (Reps.none _ _))); intro v198 w77 ho78 hb hg_ hnew_; clear hg_ hnew_; (first | rw [← Ny197.out] at ho78 | (simp only [Int.reduceToNat] at ho78; rw [← Ny197.out] at ho78)); have n0_ := Aside0.mk (Kd.N_elder' (by (with_reducible repeat (first | apply Kd.N_alloc | apply Kd.N_drewN | apply Kd.N_drew)); exact HO_6.out) (Kd.N_base ho78) hb); have n1_ := Aside0.mk (Kd.N_elder' (by (with_reducible repeat (first | apply Kd.N_alloc | apply Kd.N_drewN | apply Kd.N_drew)); exact HO_9.out) (Kd.N_base ho78) hb); have n2_ := Aside0.mk (Kd.N_lower ho78 (below_size (by repeat (first | (with_reducible first | exact HB.out | apply below_alloc | apply pw_below_drewN | apply below_drew1 | refine below_set ?_ GE151.out | refine below_set ?_ GE152.out | refine below_set ?_ GE153.out) | exact HB.out)))); have n3_ := Aside0.mk (blk_below (g := gb151) (o := .cells #[.int .u8 1, .int .u8 0, .int .u8 0, .int .u8 0, .int .u8 0, .int .u8 0, .int .u8 0, .int .u8 0] 52 (0, 0)) (by (with_reducible repeat (first | refine blk_drewN ?_ _ | refine blk_drew ?_ | refine blk_alloc ?_ _)); exact BK151.out) hb); have n4_ := Aside0.mk (blk_below (g := gb152) (o := .cells #[.int .u8 2, .int .u8 0, .int .u8 0, .int .u8 0, .int .u8 0, .int .u8 0, .int .u8 0, .int .u8 0] 52 (0, 0)) (by (with_reducible repeat (first | refine blk_drewN ?_ _ | refine blk_drew ?_ | refine blk_alloc ?_ _)); exact BK152.out) hb); have n5_ := Aside0.mk (blk_below (g := gb153) (o := .cells #[.int .u8 3, .int .u8 0, .int .u8 0, .int .u8 0, .int .u8 0, .int .u8 0, .int .u8 0, .int .u8 0] 52 (0, 0)) (by (with_reducible repeat (first | refine blk_drewN ?_ _ | refine blk_drew ?_ | refine blk_alloc ?_ _)); exact BK153.out) hb); have n6_ := Aside0.mk (below_step (by repeat (first | (with_reducible first | exact HB.out | apply below_alloc | apply pw_below_drewN | apply below_drew1 | refine below_set ?_ GE151.out | refine below_set ?_ GE152.out | refine below_set ?_ GE153.out) | exact HB.out)) hb); clear HO_6; clear HO_9; clear BK151; clear BK152; clear BK153; clear HB; clear HO196; have HO_6 := n0_; have HO_9 := n1_; have HO199 := n2_; have BK151 := n3_; have BK152 := n4_; have BK153 := n5_; have HB := n6_; clear n0_ n1_ n2_ n3_ n4_ n5_ n6_; clear hb ho78; obtain ⟨Ao79, co79, eo79⟩ := Kd.N_slice HO199.out; subst eo79) | ((with_reducible refine gate_callee (f := 13) rfl ?_); refine goesL_ (some 89) rfl rfl Try.func13 (by kernel_rfl) rfl #[.slice Ao38 t176.length co38, .slice Ao79 y197.length co79] rfl (by (try simp only [List.map_toArray, List.map_cons, List.map_nil]); first | done | rfl | (simp only [List.length_drop, List.length_take]; rfl)) ?_; (with_reducible refine (standbyref36_SameExtents.calls kj4 _ _ t176 _ _ y197 true _ ?side1 ?side2 ?side3 ?side4 A61.out).mono ?_); (case side1 => repeat (first | exact (Kd.N_reads' HO_9.out).2.2 | (with_reducible refine Kd.C_alloc ?_ _) | (with_reducible refine Kd.C_drewN ?_ _) | (with_reducible refine Kd.C_drew ?_))); (case side2 => exact (Kd.N_reads' HO_9.out).2.1); (case side3 => repeat (first | exact (Kd.N_reads' HO199.out).2.2 | (with_reducible refine Kd.C_alloc ?_ _) | (with_reducible refine Kd.C_drewN ?_ _) | (with_reducible refine Kd.C_drew ?_))); (case side4 => exact (Kd.N_reads' HO199.out).2.1); rintro e w' ⟨rfl, ⟨nd, rfl⟩⟩; refine ⟨_, rfl, ?_⟩) | (go_at_call 14; (with_reducible refine (resync_Cost.calls _ _ y169 t201 _ ?side1 ?side2 A71.out).mono ?_); (case side1 => repeat (first | exact (Kd.N_reads' HO_6.out).2.2 | (with_reducible refine Kd.C_alloc ?_ _) | (with_reducible refine Kd.C_drewN ?_ _) | (with_reducible refine Kd.C_drew ?_))); (case side2 => exact (Kd.N_reads' HO_6.out).2.1); rintro e w80 ⟨rfl, hb⟩; have n0_ := Aside0.mk (Kd.N_below (by (with_reducible repeat (first | apply Kd.N_alloc | apply Kd.N_drewN | apply Kd.N_drew)); exact HO_6.out) hb); have n1_ := Aside0.mk (Kd.N_below (by (with_reducible repeat (first | apply Kd.N_alloc | apply Kd.N_drewN | apply Kd.N_drew)); exact HO_9.out) hb); have n2_ := Aside0.mk (Kd.N_below (by (with_reducible repeat (first | apply Kd.N_alloc | apply Kd.N_drewN | apply Kd.N_drew)); exact HO199.out) hb); have n3_ := Aside0.mk (blk_below (g := gb151) (o := .cells #[.int .u8 1, .int .u8 0, .int .u8 0, .int .u8 0, .int .u8 0, .int .u8 0, .int .u8 0, .int .u8 0] 52 (0, 0)) (by (with_reducible repeat (first | refine blk_drewN ?_ _ | refine blk_drew ?_ | refine blk_alloc ?_ _)); exact BK151.out) hb); have n4_ := Aside0.mk (blk_below (g := gb152) (o := .cells #[.int .u8 2, .int .u8 0, .int .u8 0, .int .u8 0, .int .u8 0, .int .u8 0, .int .u8 0, .int .u8 0] 52 (0, 0)) (by (with_reducible repeat (first | refine blk_drewN ?_ _ | refine blk_drew ?_ | refine blk_alloc ?_ _)); exact BK152.out) hb); have n5_ := Aside0.mk (blk_below (g := gb153) (o := .cells #[.int .u8 3, .int .u8 0, .int .u8 0, .int .u8 0, .int .u8 0, .int .u8 0, .int .u8 0, .int .u8 0] 52 (0, 0)) (by (with_reducible repeat (first | refine blk_drewN ?_ _ | refine blk_drew ?_ | refine blk_alloc ?_ _)); exact BK153.out) hb); have n6_ := Aside0.mk (below_step (by repeat (first | (with_reducible first | exact HB.out | apply below_alloc | apply pw_below_drewN | apply below_drew1 | refine below_set ?_ GE151.out | refine below_set ?_ GE152.out | refine below_set ?_ GE153.out) | exact HB.out)) hb); clear HO_6; clear HO_9; clear HO199; clear BK151; clear BK152; clear BK153; clear HB; have HO_6 := n0_; have HO_9 := n1_; have HO199 := n2_; have BK151 := n3_; have BK152 := n4_; have BK153 := n5_; have HB := n6_; clear n0_ n1_ n2_ n3_ n4_ n5_ n6_; (try clear hb); (try clear hb2); (try clear hk); (try clear hi)) | (go_at_call 14; (with_reducible refine (resync_Cost.calls _ _ t176 t202 _ ?side1 ?side2 A73.out).mono ?_); (case side1 => repeat (first | exact (Kd.N_reads' HO_9.out).2.2 | (with_reducible refine Kd.C_alloc ?_ _) | (with_reducible refine Kd.C_drewN ?_ _) | (with_reducible refine Kd.C_drew ?_))); (case side2 => exact (Kd.N_reads' HO_9.out).2.1); rintro e w81 ⟨rfl, hb⟩; have n0_ := Aside0.mk (Kd.N_below (by (with_reducible repeat (first | apply Kd.N_alloc | apply Kd.N_drewN | apply Kd.N_drew)); exact HO_6.out) hb); have n1_ := Aside0.mk (Kd.N_below (by (with_reducible repeat (first | apply Kd.N_alloc | apply Kd.N_drewN | apply Kd.N_drew)); exact HO_9.out) hb); have n2_ := Aside0.mk (Kd.N_below (by (with_reducible repeat (first | apply Kd.N_alloc | apply Kd.N_drewN | apply Kd.N_drew)); exact HO199.out) hb); have n3_ := Aside0.mk (blk_below (g := gb151) (o := .cells #[.int .u8 1, .int .u8 0, .int .u8 0, .int .u8 0, .int .u8 0, .int .u8 0, .int .u8 0, .int .u8 0] 52 (0, 0)) (by (with_reducible repeat (first | refine blk_drewN ?_ _ | refine blk_drew ?_ | refine blk_alloc ?_ _)); exact BK151.out) hb); have n4_ := Aside0.mk (blk_below (g := gb152) (o := .cells #[.int .u8 2, .int .u8 0, .int .u8 0, .int .u8 0, .int .u8 0, .int .u8 0, .int .u8 0, .int .u8 0] 52 (0, 0)) (by (with_reducible repeat (first | refine blk_drewN ?_ _ | refine blk_drew ?_ | refine blk_alloc ?_ _)); exact BK152.out) hb); have n5_ := Aside0.mk (blk_below (g := gb153) (o := .cells #[.int .u8 3, .int .u8 0, .int .u8 0, .int .u8 0, .int .u8 0, .int .u8 0, .int .u8 0, .int .u8 0] 52 (0, 0)) (by (with_reducible repeat (first | refine blk_drewN ?_ _ | refine blk_drew ?_ | refine blk_alloc ?_ _)); exact BK153.out) hb); have n6_ := Aside0.mk (below_step (by repeat (first | (with_reducible first | exact HB.out | apply below_alloc | apply pw_below_drewN | apply below_drew1 | refine below_set ?_ GE151.out | refine below_set ?_ GE152.out | refine below_set ?_ GE153.out) | exact HB.out)) hb); clear HO_6; clear HO_9; clear HO199; clear BK151; clear BK152; clear BK153; clear HB; have HO_6 := n0_; have HO_9 := n1_; have HO199 := n2_; have BK151 := n3_; have BK152 := n4_; have BK153 := n5_; have HB := n6_; clear n0_ n1_ n2_ n3_ n4_ n5_ n6_; (try clear hb); (try clear hb2); (try clear hk); (try clear hi)))
                go_ret
                exact ⟨by first | rfl | (simp [errW_none, errW_some] <;> rfl) | (simp [*, errW_none, errW_some] <;> rfl), by repeat (first | (with_reducible first | exact HB.out | apply below_alloc | apply pw_below_drewN | apply below_drew1 | refine below_set ?_ GE151.out | refine below_set ?_ GE152.out | refine below_set ?_ GE153.out) | exact HB.out)⟩
              · rw [if_neg c72] at H
                have c72b0 : (t201 == 3) = false := beq_eq_false_iff_ne.mpr c72
                have c72b1 : (t201 != 3) = true := bne_iff_ne.mpr c72
                obtain rfl := Option.some.inj H
                go_wp2_with (first | ((with_reducible refine gate_dst (N := 87) rfl ?_); (try (refine gate_guard (by rfl) ?_; dsimp only)); refine Kd.R_lit k54 _ 54 ?hg (N := 87) ?hd (xs := ([(⟨0, 1⟩ : S54), (⟨4, 1⟩ : S54)] : List (S54))) (inner := [.int .i64 0, .int .i64 1, .int .i64 4, .int .i64 1]) (ok := fun _ => True) (okp := fun _ => True) ?hr ?hp (fun _ hk => hk) trivial (Below.refl _ _) (Nat.le_refl _) (by simp) ?_; (case hd => rfl); (case hg => rfl); (case hr => first | (go_simp; done) | (go_simp; rfl)); (case hp => exact (Reps.c2 (show Kd.M k54 _ _ _ (⟨0, 1⟩ : S54) [.int .i64 0, .int .i64 1] from (k54_mkM _ _ _ (⟨0, 1⟩ : S54) )) (Reps.c2 (show Kd.M k54 _ _ _ (⟨4, 1⟩ : S54) [.int .i64 4, .int .i64 1] from (k54_mkM _ _ _ (⟨4, 1⟩ : S54) )) (Reps.none _ _)))); intro v195 w82 ho83 hb hg_ hnew_; clear hg_ hnew_; (first | rw [← Ny194.out] at ho83 | (simp only [Int.reduceToNat] at ho83; rw [← Ny194.out] at ho83)); have n0_ := Aside0.mk (Kd.N_elder' (by (with_reducible repeat (first | apply Kd.N_alloc | apply Kd.N_drewN | apply Kd.N_drew)); exact HO_6.out) (Kd.R_base ho83) hb); have n1_ := Aside0.mk (Kd.N_elder' (by (with_reducible repeat (first | apply Kd.N_alloc | apply Kd.N_drewN | apply Kd.N_drew)); exact HO_9.out) (Kd.R_base ho83) hb); have n2_ := Aside0.mk (Kd.R_lower ho83 (below_size (by repeat (first | (with_reducible first | exact HB.out | apply below_alloc | apply pw_below_drewN | apply below_drew1 | refine below_set ?_ GE151.out | refine below_set ?_ GE152.out | refine below_set ?_ GE153.out) | exact HB.out)))); have n3_ := Aside0.mk (blk_below (g := gb151) (o := .cells #[.int .u8 1, .int .u8 0, .int .u8 0, .int .u8 0, .int .u8 0, .int .u8 0, .int .u8 0, .int .u8 0] 52 (0, 0)) (by (with_reducible repeat (first | refine blk_drewN ?_ _ | refine blk_drew ?_ | refine blk_alloc ?_ _)); exact BK151.out) hb); have n4_ := Aside0.mk (blk_below (g := gb152) (o := .cells #[.int .u8 2, .int .u8 0, .int .u8 0, .int .u8 0, .int .u8 0, .int .u8 0, .int .u8 0, .int .u8 0] 52 (0, 0)) (by (with_reducible repeat (first | refine blk_drewN ?_ _ | refine blk_drew ?_ | refine blk_alloc ?_ _)); exact BK152.out) hb); have n5_ := Aside0.mk (blk_below (g := gb153) (o := .cells #[.int .u8 3, .int .u8 0, .int .u8 0, .int .u8 0, .int .u8 0, .int .u8 0, .int .u8 0, .int .u8 0] 52 (0, 0)) (by (with_reducible repeat (first | refine blk_drewN ?_ _ | refine blk_drew ?_ | refine blk_alloc ?_ _)); exact BK153.out) hb); have n6_ := Aside0.mk (below_step (by repeat (first | (with_reducible first | exact HB.out | apply below_alloc | apply pw_below_drewN | apply below_drew1 | refine below_set ?_ GE151.out | refine below_set ?_ GE152.out | refine below_set ?_ GE153.out) | exact HB.out)) hb); clear HO_6; clear HO_9; clear BK151; clear BK152; clear BK153; clear HB; have HO_6 := n0_; have HO_9 := n1_; have HO196 := n2_; have BK151 := n3_; have BK152 := n4_; have BK153 := n5_; have HB := n6_; clear n0_ n1_ n2_ n3_ n4_ n5_ n6_; clear hb ho83; obtain ⟨Ao84, co84, eo84⟩ := Kd.R_slice HO196.out; subst eo84) | ((with_reducible refine gate_dst (N := 88) rfl ?_); (try (refine gate_guard (by rfl) ?_; dsimp only)); refine Kd.N_lit (Kd.slice 54 k54) _ 50 ?hg (N' := 88) ?hd (xs := ([y194] : List (List (S54)))) (inner := [.slice Ao84 y194.length co84]) (ok := (fun k_ => some k_ ≠ (.slice Ao34 y169.length co34 : Value).ownBlock ∧ some k_ ≠ (.slice Ao38 t176.length co38 : Value).ownBlock ∧ k_ ≠ gb151 ∧ k_ ≠ gb152 ∧ k_ ≠ gb153)) (okp := (fun k_ => some k_ ≠ (.slice Ao34 y169.length co34 : Value).ownBlock ∧ some k_ ≠ (.slice Ao38 t176.length co38 : Value).ownBlock ∧ k_ ≠ gb151 ∧ k_ ≠ gb152 ∧ k_ ≠ gb153)) ?hr ?hp (fun _ hk => hk) ((show ∀ k_, w82.heap.size ≤ k_ → (fun k_ => some k_ ≠ (.slice Ao34 y169.length co34 : Value).ownBlock ∧ some k_ ≠ (.slice Ao38 t176.length co38 : Value).ownBlock ∧ k_ ≠ gb151 ∧ k_ ≠ gb152 ∧ k_ ≠ gb153) k_ from fun k_ hk => ⟨Kd.fresh' (Kd.N_lt (by (with_reducible repeat (first | apply Kd.N_alloc | apply Kd.N_drewN | apply Kd.N_drew)); exact HO_6.out)) k_ hk, Kd.fresh' (Kd.N_lt (by (with_reducible repeat (first | apply Kd.N_alloc | apply Kd.N_drewN | apply Kd.N_drew)); exact HO_9.out)) k_ hk, Kd.freshB (g := gb151) (o := .cells #[.int .u8 1, .int .u8 0, .int .u8 0, .int .u8 0, .int .u8 0, .int .u8 0, .int .u8 0, .int .u8 0] 52 (0, 0)) (by (with_reducible repeat (first | refine blk_drewN ?_ _ | refine blk_drew ?_ | refine blk_alloc ?_ _)); exact BK151.out) k_ hk, Kd.freshB (g := gb152) (o := .cells #[.int .u8 2, .int .u8 0, .int .u8 0, .int .u8 0, .int .u8 0, .int .u8 0, .int .u8 0, .int .u8 0] 52 (0, 0)) (by (with_reducible repeat (first | refine blk_drewN ?_ _ | refine blk_drew ?_ | refine blk_alloc ?_ _)); exact BK152.out) k_ hk, Kd.freshB (g := gb153) (o := .cells #[.int .u8 3, .int .u8 0, .int .u8 0, .int .u8 0, .int .u8 0, .int .u8 0, .int .u8 0, .int .u8 0] 52 (0, 0)) (by (with_reducible repeat (first | refine blk_drewN ?_ _ | refine blk_drew ?_ | refine blk_alloc ?_ _)); exact BK153.out) k_ hk⟩) _ (Nat.le_refl _)) (Below.refl _ _) (Nat.le_refl _) (by simp) ?_; (case hd => rfl); (case hg => rfl); (case hr => first | (go_simp; done) | (go_simp; rfl)); (case hp => exact (Reps.one (show Kd.FK (Kd.slice 54 k54) _ _ y194 [.slice Ao84 y194.length co84] from (Kd.FK_slice_mk (Kd.R_reads' (Kd.R_mono (ok' := (fun k_ => some k_ ≠ (.slice Ao34 y169.length co34 : Value).ownBlock ∧ some k_ ≠ (.slice Ao38 t176.length co38 : Value).ownBlock ∧ k_ ≠ gb151 ∧ k_ ≠ gb152 ∧ k_ ≠ gb153)) (Kd.R_types (Kd.R_types (Kd.R_types (Kd.R_apart' (Kd.R_apart' (HO196.out) (Kd.N_typed HO_6.out) (by decide)) (Kd.N_typed HO_9.out) (by decide)) BK151.out (by decide)) BK152.out (by decide)) BK153.out (by decide)) (fun k_ hk => ⟨hk.1.1.1.1.2, ⟨hk.1.1.1.2, ⟨hk.1.1.2, ⟨hk.1.2, hk.2⟩⟩⟩⟩))).2.1 (Kd.R_F (Kd.R_mono (ok' := (fun k_ => some k_ ≠ (.slice Ao34 y169.length co34 : Value).ownBlock ∧ some k_ ≠ (.slice Ao38 t176.length co38 : Value).ownBlock ∧ k_ ≠ gb151 ∧ k_ ≠ gb152 ∧ k_ ≠ gb153)) (Kd.R_types (Kd.R_types (Kd.R_types (Kd.R_apart' (Kd.R_apart' (HO196.out) (Kd.N_typed HO_6.out) (by decide)) (Kd.N_typed HO_9.out) (by decide)) BK151.out (by decide)) BK152.out (by decide)) BK153.out (by decide)) (fun k_ hk => ⟨hk.1.1.1.1.2, ⟨hk.1.1.1.2, ⟨hk.1.1.2, ⟨hk.1.2, hk.2⟩⟩⟩⟩))))) (Reps.none _ _))); intro v198 w85 ho86 hb hg_ hnew_; clear hg_ hnew_; (first | rw [← Ny197.out] at ho86 | (simp only [Int.reduceToNat] at ho86; rw [← Ny197.out] at ho86)); have n0_ := Aside0.mk (Kd.N_elder' (by (with_reducible repeat (first | apply Kd.N_alloc | apply Kd.N_drewN | apply Kd.N_drew)); exact HO_6.out) (Kd.N_base ho86) hb); have n1_ := Aside0.mk (Kd.N_elder' (by (with_reducible repeat (first | apply Kd.N_alloc | apply Kd.N_drewN | apply Kd.N_drew)); exact HO_9.out) (Kd.N_base ho86) hb); have n2_ := Aside0.mk (Kd.N_lower ho86 (below_size (by repeat (first | (with_reducible first | exact HB.out | apply below_alloc | apply pw_below_drewN | apply below_drew1 | refine below_set ?_ GE151.out | refine below_set ?_ GE152.out | refine below_set ?_ GE153.out) | exact HB.out)))); have n3_ := Aside0.mk (blk_below (g := gb151) (o := .cells #[.int .u8 1, .int .u8 0, .int .u8 0, .int .u8 0, .int .u8 0, .int .u8 0, .int .u8 0, .int .u8 0] 52 (0, 0)) (by (with_reducible repeat (first | refine blk_drewN ?_ _ | refine blk_drew ?_ | refine blk_alloc ?_ _)); exact BK151.out) hb); have n4_ := Aside0.mk (blk_below (g := gb152) (o := .cells #[.int .u8 2, .int .u8 0, .int .u8 0, .int .u8 0, .int .u8 0, .int .u8 0, .int .u8 0, .int .u8 0] 52 (0, 0)) (by (with_reducible repeat (first | refine blk_drewN ?_ _ | refine blk_drew ?_ | refine blk_alloc ?_ _)); exact BK152.out) hb); have n5_ := Aside0.mk (blk_below (g := gb153) (o := .cells #[.int .u8 3, .int .u8 0, .int .u8 0, .int .u8 0, .int .u8 0, .int .u8 0, .int .u8 0, .int .u8 0] 52 (0, 0)) (by (with_reducible repeat (first | refine blk_drewN ?_ _ | refine blk_drew ?_ | refine blk_alloc ?_ _)); exact BK153.out) hb); have n6_ := Aside0.mk (below_step (by repeat (first | (with_reducible first | exact HB.out | apply below_alloc | apply pw_below_drewN | apply below_drew1 | refine below_set ?_ GE151.out | refine below_set ?_ GE152.out | refine below_set ?_ GE153.out) | exact HB.out)) hb); clear HO_6; clear HO_9; clear BK151; clear BK152; clear BK153; clear HB; clear HO196; have HO_6 := n0_; have HO_9 := n1_; have HO199 := n2_; have BK151 := n3_; have BK152 := n4_; have BK153 := n5_; have HB := n6_; clear n0_ n1_ n2_ n3_ n4_ n5_ n6_; clear hb ho86; obtain ⟨Ao87, co87, eo87⟩ := Kd.N_slice HO199.out; subst eo87) | ((with_reducible refine gate_callee (f := 13) rfl ?_); refine goesL_ (some 89) rfl rfl Try.func13 (by kernel_rfl) rfl #[.slice Ao38 t176.length co38, .slice Ao87 y197.length co87] rfl (by (try simp only [List.map_toArray, List.map_cons, List.map_nil]); first | done | rfl | (simp only [List.length_drop, List.length_take]; rfl)) ?_; (with_reducible refine (standbyref36_SameExtents.calls kj4 _ _ t176 _ _ y197 true _ ?side1 ?side2 ?side3 ?side4 A61.out).mono ?_); (case side1 => repeat (first | exact (Kd.N_reads' HO_9.out).2.2 | (with_reducible refine Kd.C_alloc ?_ _) | (with_reducible refine Kd.C_drewN ?_ _) | (with_reducible refine Kd.C_drew ?_))); (case side2 => exact (Kd.N_reads' HO_9.out).2.1); (case side3 => repeat (first | exact (Kd.N_reads' HO199.out).2.2 | (with_reducible refine Kd.C_alloc ?_ _) | (with_reducible refine Kd.C_drewN ?_ _) | (with_reducible refine Kd.C_drew ?_))); (case side4 => exact (Kd.N_reads' HO199.out).2.1); rintro e w' ⟨rfl, ⟨nd, rfl⟩⟩; refine ⟨_, rfl, ?_⟩) | (go_at_call 14; (with_reducible refine (resync_Cost.calls _ _ y169 t201 _ ?side1 ?side2 A71.out).mono ?_); (case side1 => repeat (first | exact (Kd.N_reads' HO_6.out).2.2 | (with_reducible refine Kd.C_alloc ?_ _) | (with_reducible refine Kd.C_drewN ?_ _) | (with_reducible refine Kd.C_drew ?_))); (case side2 => exact (Kd.N_reads' HO_6.out).2.1); rintro e w88 ⟨rfl, hb⟩; have n0_ := Aside0.mk (Kd.N_below (by (with_reducible repeat (first | apply Kd.N_alloc | apply Kd.N_drewN | apply Kd.N_drew)); exact HO_6.out) hb); have n1_ := Aside0.mk (Kd.N_below (by (with_reducible repeat (first | apply Kd.N_alloc | apply Kd.N_drewN | apply Kd.N_drew)); exact HO_9.out) hb); have n2_ := Aside0.mk (Kd.N_below (by (with_reducible repeat (first | apply Kd.N_alloc | apply Kd.N_drewN | apply Kd.N_drew)); exact HO199.out) hb); have n3_ := Aside0.mk (blk_below (g := gb151) (o := .cells #[.int .u8 1, .int .u8 0, .int .u8 0, .int .u8 0, .int .u8 0, .int .u8 0, .int .u8 0, .int .u8 0] 52 (0, 0)) (by (with_reducible repeat (first | refine blk_drewN ?_ _ | refine blk_drew ?_ | refine blk_alloc ?_ _)); exact BK151.out) hb); have n4_ := Aside0.mk (blk_below (g := gb152) (o := .cells #[.int .u8 2, .int .u8 0, .int .u8 0, .int .u8 0, .int .u8 0, .int .u8 0, .int .u8 0, .int .u8 0] 52 (0, 0)) (by (with_reducible repeat (first | refine blk_drewN ?_ _ | refine blk_drew ?_ | refine blk_alloc ?_ _)); exact BK152.out) hb); have n5_ := Aside0.mk (blk_below (g := gb153) (o := .cells #[.int .u8 3, .int .u8 0, .int .u8 0, .int .u8 0, .int .u8 0, .int .u8 0, .int .u8 0, .int .u8 0] 52 (0, 0)) (by (with_reducible repeat (first | refine blk_drewN ?_ _ | refine blk_drew ?_ | refine blk_alloc ?_ _)); exact BK153.out) hb); have n6_ := Aside0.mk (below_step (by repeat (first | (with_reducible first | exact HB.out | apply below_alloc | apply pw_below_drewN | apply below_drew1 | refine below_set ?_ GE151.out | refine below_set ?_ GE152.out | refine below_set ?_ GE153.out) | exact HB.out)) hb); clear HO_6; clear HO_9; clear HO199; clear BK151; clear BK152; clear BK153; clear HB; have HO_6 := n0_; have HO_9 := n1_; have HO199 := n2_; have BK151 := n3_; have BK152 := n4_; have BK153 := n5_; have HB := n6_; clear n0_ n1_ n2_ n3_ n4_ n5_ n6_; (try clear hb); (try clear hb2); (try clear hk); (try clear hi)))
                go_ret
                exact ⟨by first | rfl | (simp [errW_none, errW_some] <;> rfl) | (simp [*, errW_none, errW_some] <;> rfl), by repeat (first | (with_reducible first | exact HB.out | apply below_alloc | apply pw_below_drewN | apply below_drew1 | refine below_set ?_ GE151.out | refine below_set ?_ GE152.out | refine below_set ?_ GE153.out) | exact HB.out)⟩
          · replace c63 := Bool.eq_false_iff.mpr c63
            subst c63
            have H1 : (some false) = some r := by rw [if_neg (show ¬ (false = true) by decide)] at H; exact H
            clear H
            have H := H1
            clear H1
            obtain rfl := Option.some.inj H
            go_wp2_with (first | ((with_reducible refine gate_dst (N := 87) rfl ?_); (try (refine gate_guard (by rfl) ?_; dsimp only)); refine Kd.R_lit k54 _ 54 ?hg (N := 87) ?hd (xs := ([(⟨0, 1⟩ : S54), (⟨4, 1⟩ : S54)] : List (S54))) (inner := [.int .i64 0, .int .i64 1, .int .i64 4, .int .i64 1]) (ok := fun _ => True) (okp := fun _ => True) ?hr ?hp (fun _ hk => hk) trivial (Below.refl _ _) (Nat.le_refl _) (by simp) ?_; (case hd => rfl); (case hg => rfl); (case hr => first | (go_simp; done) | (go_simp; rfl)); (case hp => exact (Reps.c2 (show Kd.M k54 _ _ _ (⟨0, 1⟩ : S54) [.int .i64 0, .int .i64 1] from (k54_mkM _ _ _ (⟨0, 1⟩ : S54) )) (Reps.c2 (show Kd.M k54 _ _ _ (⟨4, 1⟩ : S54) [.int .i64 4, .int .i64 1] from (k54_mkM _ _ _ (⟨4, 1⟩ : S54) )) (Reps.none _ _)))); intro v195 w89 ho90 hb hg_ hnew_; clear hg_ hnew_; (first | rw [← Ny194.out] at ho90 | (simp only [Int.reduceToNat] at ho90; rw [← Ny194.out] at ho90)); have n0_ := Aside0.mk (Kd.N_elder' (by (with_reducible repeat (first | apply Kd.N_alloc | apply Kd.N_drewN | apply Kd.N_drew)); exact HO_6.out) (Kd.R_base ho90) hb); have n1_ := Aside0.mk (Kd.N_elder' (by (with_reducible repeat (first | apply Kd.N_alloc | apply Kd.N_drewN | apply Kd.N_drew)); exact HO_9.out) (Kd.R_base ho90) hb); have n2_ := Aside0.mk (Kd.R_lower ho90 (below_size (by repeat (first | (with_reducible first | exact HB.out | apply below_alloc | apply pw_below_drewN | apply below_drew1 | refine below_set ?_ GE151.out | refine below_set ?_ GE152.out | refine below_set ?_ GE153.out) | exact HB.out)))); have n3_ := Aside0.mk (blk_below (g := gb151) (o := .cells #[.int .u8 1, .int .u8 0, .int .u8 0, .int .u8 0, .int .u8 0, .int .u8 0, .int .u8 0, .int .u8 0] 52 (0, 0)) (by (with_reducible repeat (first | refine blk_drewN ?_ _ | refine blk_drew ?_ | refine blk_alloc ?_ _)); exact BK151.out) hb); have n4_ := Aside0.mk (blk_below (g := gb152) (o := .cells #[.int .u8 2, .int .u8 0, .int .u8 0, .int .u8 0, .int .u8 0, .int .u8 0, .int .u8 0, .int .u8 0] 52 (0, 0)) (by (with_reducible repeat (first | refine blk_drewN ?_ _ | refine blk_drew ?_ | refine blk_alloc ?_ _)); exact BK152.out) hb); have n5_ := Aside0.mk (blk_below (g := gb153) (o := .cells #[.int .u8 3, .int .u8 0, .int .u8 0, .int .u8 0, .int .u8 0, .int .u8 0, .int .u8 0, .int .u8 0] 52 (0, 0)) (by (with_reducible repeat (first | refine blk_drewN ?_ _ | refine blk_drew ?_ | refine blk_alloc ?_ _)); exact BK153.out) hb); have n6_ := Aside0.mk (below_step (by repeat (first | (with_reducible first | exact HB.out | apply below_alloc | apply pw_below_drewN | apply below_drew1 | refine below_set ?_ GE151.out | refine below_set ?_ GE152.out | refine below_set ?_ GE153.out) | exact HB.out)) hb); clear HO_6; clear HO_9; clear BK151; clear BK152; clear BK153; clear HB; have HO_6 := n0_; have HO_9 := n1_; have HO196 := n2_; have BK151 := n3_; have BK152 := n4_; have BK153 := n5_; have HB := n6_; clear n0_ n1_ n2_ n3_ n4_ n5_ n6_; clear hb ho90; obtain ⟨Ao91, co91, eo91⟩ := Kd.R_slice HO196.out; subst eo91) | ((with_reducible refine gate_dst (N := 88) rfl ?_); (try (refine gate_guard (by rfl) ?_; dsimp only)); refine Kd.N_lit (Kd.slice 54 k54) _ 50 ?hg (N' := 88) ?hd (xs := ([y194] : List (List (S54)))) (inner := [.slice Ao91 y194.length co91]) (ok := (fun k_ => some k_ ≠ (.slice Ao34 y169.length co34 : Value).ownBlock ∧ some k_ ≠ (.slice Ao38 t176.length co38 : Value).ownBlock ∧ k_ ≠ gb151 ∧ k_ ≠ gb152 ∧ k_ ≠ gb153)) (okp := (fun k_ => some k_ ≠ (.slice Ao34 y169.length co34 : Value).ownBlock ∧ some k_ ≠ (.slice Ao38 t176.length co38 : Value).ownBlock ∧ k_ ≠ gb151 ∧ k_ ≠ gb152 ∧ k_ ≠ gb153)) ?hr ?hp (fun _ hk => hk) ((show ∀ k_, w89.heap.size ≤ k_ → (fun k_ => some k_ ≠ (.slice Ao34 y169.length co34 : Value).ownBlock ∧ some k_ ≠ (.slice Ao38 t176.length co38 : Value).ownBlock ∧ k_ ≠ gb151 ∧ k_ ≠ gb152 ∧ k_ ≠ gb153) k_ from fun k_ hk => ⟨Kd.fresh' (Kd.N_lt (by (with_reducible repeat (first | apply Kd.N_alloc | apply Kd.N_drewN | apply Kd.N_drew)); exact HO_6.out)) k_ hk, Kd.fresh' (Kd.N_lt (by (with_reducible repeat (first | apply Kd.N_alloc | apply Kd.N_drewN | apply Kd.N_drew)); exact HO_9.out)) k_ hk, Kd.freshB (g := gb151) (o := .cells #[.int .u8 1, .int .u8 0, .int .u8 0, .int .u8 0, .int .u8 0, .int .u8 0, .int .u8 0, .int .u8 0] 52 (0, 0)) (by (with_reducible repeat (first | refine blk_drewN ?_ _ | refine blk_drew ?_ | refine blk_alloc ?_ _)); exact BK151.out) k_ hk, Kd.freshB (g := gb152) (o := .cells #[.int .u8 2, .int .u8 0, .int .u8 0, .int .u8 0, .int .u8 0, .int .u8 0, .int .u8 0, .int .u8 0] 52 (0, 0)) (by (with_reducible repeat (first | refine blk_drewN ?_ _ | refine blk_drew ?_ | refine blk_alloc ?_ _)); exact BK152.out) k_ hk, Kd.freshB (g := gb153) (o := .cells #[.int .u8 3, .int .u8 0, .int .u8 0, .int .u8 0, .int .u8 0, .int .u8 0, .int .u8 0, .int .u8 0] 52 (0, 0)) (by (with_reducible repeat (first | refine blk_drewN ?_ _ | refine blk_drew ?_ | refine blk_alloc ?_ _)); exact BK153.out) k_ hk⟩) _ (Nat.le_refl _)) (Below.refl _ _) (Nat.le_refl _) (by simp) ?_; (case hd => rfl); (case hg => rfl); (case hr => first | (go_simp; done) | (go_simp; rfl)); (case hp => exact (Reps.one (show Kd.FK (Kd.slice 54 k54) _ _ y194 [.slice Ao91 y194.length co91] from (Kd.FK_slice_mk (Kd.R_reads' (Kd.R_mono (ok' := (fun k_ => some k_ ≠ (.slice Ao34 y169.length co34 : Value).ownBlock ∧ some k_ ≠ (.slice Ao38 t176.length co38 : Value).ownBlock ∧ k_ ≠ gb151 ∧ k_ ≠ gb152 ∧ k_ ≠ gb153)) (Kd.R_types (Kd.R_types (Kd.R_types (Kd.R_apart' (Kd.R_apart' (HO196.out) (Kd.N_typed HO_6.out) (by decide)) (Kd.N_typed HO_9.out) (by decide)) BK151.out (by decide)) BK152.out (by decide)) BK153.out (by decide)) (fun k_ hk => ⟨hk.1.1.1.1.2, ⟨hk.1.1.1.2, ⟨hk.1.1.2, ⟨hk.1.2, hk.2⟩⟩⟩⟩))).2.1 (Kd.R_F (Kd.R_mono (ok' := (fun k_ => some k_ ≠ (.slice Ao34 y169.length co34 : Value).ownBlock ∧ some k_ ≠ (.slice Ao38 t176.length co38 : Value).ownBlock ∧ k_ ≠ gb151 ∧ k_ ≠ gb152 ∧ k_ ≠ gb153)) (Kd.R_types (Kd.R_types (Kd.R_types (Kd.R_apart' (Kd.R_apart' (HO196.out) (Kd.N_typed HO_6.out) (by decide)) (Kd.N_typed HO_9.out) (by decide)) BK151.out (by decide)) BK152.out (by decide)) BK153.out (by decide)) (fun k_ hk => ⟨hk.1.1.1.1.2, ⟨hk.1.1.1.2, ⟨hk.1.1.2, ⟨hk.1.2, hk.2⟩⟩⟩⟩))))) (Reps.none _ _))); intro v198 w92 ho93 hb hg_ hnew_; clear hg_ hnew_; (first | rw [← Ny197.out] at ho93 | (simp only [Int.reduceToNat] at ho93; rw [← Ny197.out] at ho93)); have n0_ := Aside0.mk (Kd.N_elder' (by (with_reducible repeat (first | apply Kd.N_alloc | apply Kd.N_drewN | apply Kd.N_drew)); exact HO_6.out) (Kd.N_base ho93) hb); have n1_ := Aside0.mk (Kd.N_elder' (by (with_reducible repeat (first | apply Kd.N_alloc | apply Kd.N_drewN | apply Kd.N_drew)); exact HO_9.out) (Kd.N_base ho93) hb); have n2_ := Aside0.mk (Kd.N_lower ho93 (below_size (by repeat (first | (with_reducible first | exact HB.out | apply below_alloc | apply pw_below_drewN | apply below_drew1 | refine below_set ?_ GE151.out | refine below_set ?_ GE152.out | refine below_set ?_ GE153.out) | exact HB.out)))); have n3_ := Aside0.mk (blk_below (g := gb151) (o := .cells #[.int .u8 1, .int .u8 0, .int .u8 0, .int .u8 0, .int .u8 0, .int .u8 0, .int .u8 0, .int .u8 0] 52 (0, 0)) (by (with_reducible repeat (first | refine blk_drewN ?_ _ | refine blk_drew ?_ | refine blk_alloc ?_ _)); exact BK151.out) hb); have n4_ := Aside0.mk (blk_below (g := gb152) (o := .cells #[.int .u8 2, .int .u8 0, .int .u8 0, .int .u8 0, .int .u8 0, .int .u8 0, .int .u8 0, .int .u8 0] 52 (0, 0)) (by (with_reducible repeat (first | refine blk_drewN ?_ _ | refine blk_drew ?_ | refine blk_alloc ?_ _)); exact BK152.out) hb); have n5_ := Aside0.mk (blk_below (g := gb153) (o := .cells #[.int .u8 3, .int .u8 0, .int .u8 0, .int .u8 0, .int .u8 0, .int .u8 0, .int .u8 0, .int .u8 0] 52 (0, 0)) (by (with_reducible repeat (first | refine blk_drewN ?_ _ | refine blk_drew ?_ | refine blk_alloc ?_ _)); exact BK153.out) hb); have n6_ := Aside0.mk (below_step (by repeat (first | (with_reducible first | exact HB.out | apply below_alloc | apply pw_below_drewN | apply below_drew1 | refine below_set ?_ GE151.out | refine below_set ?_ GE152.out | refine below_set ?_ GE153.out) | exact HB.out)) hb); clear HO_6; clear HO_9; clear BK151; clear BK152; clear BK153; clear HB; clear HO196; have HO_6 := n0_; have HO_9 := n1_; have HO199 := n2_; have BK151 := n3_; have BK152 := n4_; have BK153 := n5_; have HB := n6_; clear n0_ n1_ n2_ n3_ n4_ n5_ n6_; clear hb ho93; obtain ⟨Ao94, co94, eo94⟩ := Kd.N_slice HO199.out; subst eo94) | ((with_reducible refine gate_callee (f := 13) rfl ?_); refine goesL_ (some 89) rfl rfl Try.func13 (by kernel_rfl) rfl #[.slice Ao38 t176.length co38, .slice Ao94 y197.length co94] rfl (by (try simp only [List.map_toArray, List.map_cons, List.map_nil]); first | done | rfl | (simp only [List.length_drop, List.length_take]; rfl)) ?_; (with_reducible refine (standbyref36_SameExtents.calls kj4 _ _ t176 _ _ y197 true _ ?side1 ?side2 ?side3 ?side4 A61.out).mono ?_); (case side1 => repeat (first | exact (Kd.N_reads' HO_9.out).2.2 | (with_reducible refine Kd.C_alloc ?_ _) | (with_reducible refine Kd.C_drewN ?_ _) | (with_reducible refine Kd.C_drew ?_))); (case side2 => exact (Kd.N_reads' HO_9.out).2.1); (case side3 => repeat (first | exact (Kd.N_reads' HO199.out).2.2 | (with_reducible refine Kd.C_alloc ?_ _) | (with_reducible refine Kd.C_drewN ?_ _) | (with_reducible refine Kd.C_drew ?_))); (case side4 => exact (Kd.N_reads' HO199.out).2.1); rintro e w' ⟨rfl, ⟨nd, rfl⟩⟩; refine ⟨_, rfl, ?_⟩))
            go_ret
            exact ⟨by first | rfl | (simp [errW_none, errW_some] <;> rfl) | (simp [*, errW_none, errW_some] <;> rfl), by repeat (first | (with_reducible first | exact HB.out | apply below_alloc | apply pw_below_drewN | apply below_drew1 | refine below_set ?_ GE151.out | refine below_set ?_ GE152.out | refine below_set ?_ GE153.out) | exact HB.out)⟩
        · replace c62 := Bool.eq_false_iff.mpr c62
          subst c62
          have H1 : (some false) = some r := by rw [if_neg (show ¬ (false = true) by decide)] at H; exact H
          clear H
          have H := H1
          clear H1
          obtain rfl := Option.some.inj H
          go_wp2_with (first | ((with_reducible refine gate_dst (N := 87) rfl ?_); (try (refine gate_guard (by rfl) ?_; dsimp only)); refine Kd.R_lit k54 _ 54 ?hg (N := 87) ?hd (xs := ([(⟨0, 1⟩ : S54), (⟨4, 1⟩ : S54)] : List (S54))) (inner := [.int .i64 0, .int .i64 1, .int .i64 4, .int .i64 1]) (ok := fun _ => True) (okp := fun _ => True) ?hr ?hp (fun _ hk => hk) trivial (Below.refl _ _) (Nat.le_refl _) (by simp) ?_; (case hd => rfl); (case hg => rfl); (case hr => first | (go_simp; done) | (go_simp; rfl)); (case hp => exact (Reps.c2 (show Kd.M k54 _ _ _ (⟨0, 1⟩ : S54) [.int .i64 0, .int .i64 1] from (k54_mkM _ _ _ (⟨0, 1⟩ : S54) )) (Reps.c2 (show Kd.M k54 _ _ _ (⟨4, 1⟩ : S54) [.int .i64 4, .int .i64 1] from (k54_mkM _ _ _ (⟨4, 1⟩ : S54) )) (Reps.none _ _)))); intro v195 w95 ho96 hb hg_ hnew_; clear hg_ hnew_; (first | rw [← Ny194.out] at ho96 | (simp only [Int.reduceToNat] at ho96; rw [← Ny194.out] at ho96)); have n0_ := Aside0.mk (Kd.N_elder' (by (with_reducible repeat (first | apply Kd.N_alloc | apply Kd.N_drewN | apply Kd.N_drew)); exact HO_6.out) (Kd.R_base ho96) hb); have n1_ := Aside0.mk (Kd.N_elder' (by (with_reducible repeat (first | apply Kd.N_alloc | apply Kd.N_drewN | apply Kd.N_drew)); exact HO_9.out) (Kd.R_base ho96) hb); have n2_ := Aside0.mk (Kd.R_lower ho96 (below_size (by repeat (first | (with_reducible first | exact HB.out | apply below_alloc | apply pw_below_drewN | apply below_drew1 | refine below_set ?_ GE151.out | refine below_set ?_ GE152.out | refine below_set ?_ GE153.out) | exact HB.out)))); have n3_ := Aside0.mk (blk_below (g := gb151) (o := .cells #[.int .u8 1, .int .u8 0, .int .u8 0, .int .u8 0, .int .u8 0, .int .u8 0, .int .u8 0, .int .u8 0] 52 (0, 0)) (by (with_reducible repeat (first | refine blk_drewN ?_ _ | refine blk_drew ?_ | refine blk_alloc ?_ _)); exact BK151.out) hb); have n4_ := Aside0.mk (blk_below (g := gb152) (o := .cells #[.int .u8 2, .int .u8 0, .int .u8 0, .int .u8 0, .int .u8 0, .int .u8 0, .int .u8 0, .int .u8 0] 52 (0, 0)) (by (with_reducible repeat (first | refine blk_drewN ?_ _ | refine blk_drew ?_ | refine blk_alloc ?_ _)); exact BK152.out) hb); have n5_ := Aside0.mk (blk_below (g := gb153) (o := .cells #[.int .u8 3, .int .u8 0, .int .u8 0, .int .u8 0, .int .u8 0, .int .u8 0, .int .u8 0, .int .u8 0] 52 (0, 0)) (by (with_reducible repeat (first | refine blk_drewN ?_ _ | refine blk_drew ?_ | refine blk_alloc ?_ _)); exact BK153.out) hb); have n6_ := Aside0.mk (below_step (by repeat (first | (with_reducible first | exact HB.out | apply below_alloc | apply pw_below_drewN | apply below_drew1 | refine below_set ?_ GE151.out | refine below_set ?_ GE152.out | refine below_set ?_ GE153.out) | exact HB.out)) hb); clear HO_6; clear HO_9; clear BK151; clear BK152; clear BK153; clear HB; have HO_6 := n0_; have HO_9 := n1_; have HO196 := n2_; have BK151 := n3_; have BK152 := n4_; have BK153 := n5_; have HB := n6_; clear n0_ n1_ n2_ n3_ n4_ n5_ n6_; clear hb ho96; obtain ⟨Ao97, co97, eo97⟩ := Kd.R_slice HO196.out; subst eo97) | ((with_reducible refine gate_dst (N := 88) rfl ?_); (try (refine gate_guard (by rfl) ?_; dsimp only)); refine Kd.N_lit (Kd.slice 54 k54) _ 50 ?hg (N' := 88) ?hd (xs := ([y194] : List (List (S54)))) (inner := [.slice Ao97 y194.length co97]) (ok := (fun k_ => some k_ ≠ (.slice Ao34 y169.length co34 : Value).ownBlock ∧ some k_ ≠ (.slice Ao38 t176.length co38 : Value).ownBlock ∧ k_ ≠ gb151 ∧ k_ ≠ gb152 ∧ k_ ≠ gb153)) (okp := (fun k_ => some k_ ≠ (.slice Ao34 y169.length co34 : Value).ownBlock ∧ some k_ ≠ (.slice Ao38 t176.length co38 : Value).ownBlock ∧ k_ ≠ gb151 ∧ k_ ≠ gb152 ∧ k_ ≠ gb153)) ?hr ?hp (fun _ hk => hk) ((show ∀ k_, w95.heap.size ≤ k_ → (fun k_ => some k_ ≠ (.slice Ao34 y169.length co34 : Value).ownBlock ∧ some k_ ≠ (.slice Ao38 t176.length co38 : Value).ownBlock ∧ k_ ≠ gb151 ∧ k_ ≠ gb152 ∧ k_ ≠ gb153) k_ from fun k_ hk => ⟨Kd.fresh' (Kd.N_lt (by (with_reducible repeat (first | apply Kd.N_alloc | apply Kd.N_drewN | apply Kd.N_drew)); exact HO_6.out)) k_ hk, Kd.fresh' (Kd.N_lt (by (with_reducible repeat (first | apply Kd.N_alloc | apply Kd.N_drewN | apply Kd.N_drew)); exact HO_9.out)) k_ hk, Kd.freshB (g := gb151) (o := .cells #[.int .u8 1, .int .u8 0, .int .u8 0, .int .u8 0, .int .u8 0, .int .u8 0, .int .u8 0, .int .u8 0] 52 (0, 0)) (by (with_reducible repeat (first | refine blk_drewN ?_ _ | refine blk_drew ?_ | refine blk_alloc ?_ _)); exact BK151.out) k_ hk, Kd.freshB (g := gb152) (o := .cells #[.int .u8 2, .int .u8 0, .int .u8 0, .int .u8 0, .int .u8 0, .int .u8 0, .int .u8 0, .int .u8 0] 52 (0, 0)) (by (with_reducible repeat (first | refine blk_drewN ?_ _ | refine blk_drew ?_ | refine blk_alloc ?_ _)); exact BK152.out) k_ hk, Kd.freshB (g := gb153) (o := .cells #[.int .u8 3, .int .u8 0, .int .u8 0, .int .u8 0, .int .u8 0, .int .u8 0, .int .u8 0, .int .u8 0] 52 (0, 0)) (by (with_reducible repeat (first | refine blk_drewN ?_ _ | refine blk_drew ?_ | refine blk_alloc ?_ _)); exact BK153.out) k_ hk⟩) _ (Nat.le_refl _)) (Below.refl _ _) (Nat.le_refl _) (by simp) ?_; (case hd => rfl); (case hg => rfl); (case hr => first | (go_simp; done) | (go_simp; rfl)); (case hp => exact (Reps.one (show Kd.FK (Kd.slice 54 k54) _ _ y194 [.slice Ao97 y194.length co97] from (Kd.FK_slice_mk (Kd.R_reads' (Kd.R_mono (ok' := (fun k_ => some k_ ≠ (.slice Ao34 y169.length co34 : Value).ownBlock ∧ some k_ ≠ (.slice Ao38 t176.length co38 : Value).ownBlock ∧ k_ ≠ gb151 ∧ k_ ≠ gb152 ∧ k_ ≠ gb153)) (Kd.R_types (Kd.R_types (Kd.R_types (Kd.R_apart' (Kd.R_apart' (HO196.out) (Kd.N_typed HO_6.out) (by decide)) (Kd.N_typed HO_9.out) (by decide)) BK151.out (by decide)) BK152.out (by decide)) BK153.out (by decide)) (fun k_ hk => ⟨hk.1.1.1.1.2, ⟨hk.1.1.1.2, ⟨hk.1.1.2, ⟨hk.1.2, hk.2⟩⟩⟩⟩))).2.1 (Kd.R_F (Kd.R_mono (ok' := (fun k_ => some k_ ≠ (.slice Ao34 y169.length co34 : Value).ownBlock ∧ some k_ ≠ (.slice Ao38 t176.length co38 : Value).ownBlock ∧ k_ ≠ gb151 ∧ k_ ≠ gb152 ∧ k_ ≠ gb153)) (Kd.R_types (Kd.R_types (Kd.R_types (Kd.R_apart' (Kd.R_apart' (HO196.out) (Kd.N_typed HO_6.out) (by decide)) (Kd.N_typed HO_9.out) (by decide)) BK151.out (by decide)) BK152.out (by decide)) BK153.out (by decide)) (fun k_ hk => ⟨hk.1.1.1.1.2, ⟨hk.1.1.1.2, ⟨hk.1.1.2, ⟨hk.1.2, hk.2⟩⟩⟩⟩))))) (Reps.none _ _))); intro v198 w98 ho99 hb hg_ hnew_; clear hg_ hnew_; (first | rw [← Ny197.out] at ho99 | (simp only [Int.reduceToNat] at ho99; rw [← Ny197.out] at ho99)); have n0_ := Aside0.mk (Kd.N_elder' (by (with_reducible repeat (first | apply Kd.N_alloc | apply Kd.N_drewN | apply Kd.N_drew)); exact HO_6.out) (Kd.N_base ho99) hb); have n1_ := Aside0.mk (Kd.N_elder' (by (with_reducible repeat (first | apply Kd.N_alloc | apply Kd.N_drewN | apply Kd.N_drew)); exact HO_9.out) (Kd.N_base ho99) hb); have n2_ := Aside0.mk (Kd.N_lower ho99 (below_size (by repeat (first | (with_reducible first | exact HB.out | apply below_alloc | apply pw_below_drewN | apply below_drew1 | refine below_set ?_ GE151.out | refine below_set ?_ GE152.out | refine below_set ?_ GE153.out) | exact HB.out)))); have n3_ := Aside0.mk (blk_below (g := gb151) (o := .cells #[.int .u8 1, .int .u8 0, .int .u8 0, .int .u8 0, .int .u8 0, .int .u8 0, .int .u8 0, .int .u8 0] 52 (0, 0)) (by (with_reducible repeat (first | refine blk_drewN ?_ _ | refine blk_drew ?_ | refine blk_alloc ?_ _)); exact BK151.out) hb); have n4_ := Aside0.mk (blk_below (g := gb152) (o := .cells #[.int .u8 2, .int .u8 0, .int .u8 0, .int .u8 0, .int .u8 0, .int .u8 0, .int .u8 0, .int .u8 0] 52 (0, 0)) (by (with_reducible repeat (first | refine blk_drewN ?_ _ | refine blk_drew ?_ | refine blk_alloc ?_ _)); exact BK152.out) hb); have n5_ := Aside0.mk (blk_below (g := gb153) (o := .cells #[.int .u8 3, .int .u8 0, .int .u8 0, .int .u8 0, .int .u8 0, .int .u8 0, .int .u8 0, .int .u8 0] 52 (0, 0)) (by (with_reducible repeat (first | refine blk_drewN ?_ _ | refine blk_drew ?_ | refine blk_alloc ?_ _)); exact BK153.out) hb); have n6_ := Aside0.mk (below_step (by repeat (first | (with_reducible first | exact HB.out | apply below_alloc | apply pw_below_drewN | apply below_drew1 | refine below_set ?_ GE151.out | refine below_set ?_ GE152.out | refine below_set ?_ GE153.out) | exact HB.out)) hb); clear HO_6; clear HO_9; clear BK151; clear BK152; clear BK153; clear HB; clear HO196; have HO_6 := n0_; have HO_9 := n1_; have HO199 := n2_; have BK151 := n3_; have BK152 := n4_; have BK153 := n5_; have HB := n6_; clear n0_ n1_ n2_ n3_ n4_ n5_ n6_; clear hb ho99; obtain ⟨Ao100, co100, eo100⟩ := Kd.N_slice HO199.out; subst eo100) | ((with_reducible refine gate_callee (f := 13) rfl ?_); refine goesL_ (some 89) rfl rfl Try.func13 (by kernel_rfl) rfl #[.slice Ao38 t176.length co38, .slice Ao100 y197.length co100] rfl (by (try simp only [List.map_toArray, List.map_cons, List.map_nil]); first | done | rfl | (simp only [List.length_drop, List.length_take]; rfl)) ?_; (with_reducible refine (standbyref36_SameExtents.calls kj4 _ _ t176 _ _ y197 false _ ?side1 ?side2 ?side3 ?side4 A61.out).mono ?_); (case side1 => repeat (first | exact (Kd.N_reads' HO_9.out).2.2 | (with_reducible refine Kd.C_alloc ?_ _) | (with_reducible refine Kd.C_drewN ?_ _) | (with_reducible refine Kd.C_drew ?_))); (case side2 => exact (Kd.N_reads' HO_9.out).2.1); (case side3 => repeat (first | exact (Kd.N_reads' HO199.out).2.2 | (with_reducible refine Kd.C_alloc ?_ _) | (with_reducible refine Kd.C_drewN ?_ _) | (with_reducible refine Kd.C_drew ?_))); (case side4 => exact (Kd.N_reads' HO199.out).2.1); rintro e w' ⟨rfl, ⟨nd, rfl⟩⟩; refine ⟨_, rfl, ?_⟩))
          go_ret
          exact ⟨by first | rfl | (simp [errW_none, errW_some] <;> rfl) | (simp [*, errW_none, errW_some] <;> rfl), by repeat (first | (with_reducible first | exact HB.out | apply below_alloc | apply pw_below_drewN | apply below_drew1 | refine below_set ?_ GE151.out | refine below_set ?_ GE152.out | refine below_set ?_ GE153.out) | exact HB.out)⟩
end Go.Proofs.Ytoichhdbomcdaaa.Pq
end
section
namespace Go.Proofs.Ytoichhdbomcdaaa.Pq
open Go.RowKit Go.Proofs.YtoichhdbomcdaaaW.PrintWords Go.Proofs.YtoichhdbomcdaaaW.PrintLast Go.Proofs.YtoichhdbomcdaaaW.PrintMore
set_option linter.unusedVariables false
set_option linter.unusedSimpArgs false
theorem getD_at {α : Type} (l : List α) (z : α) (j : Nat) (h : j < l.length) : l.getD j z = l[j] := by rw [List.getD_eq_getElem?_getD, List.getElem?_eq_getElem h]; rfl
theorem rdS (l : List (List SS)) (j : Nat) : rd_L2 l (j : Int) = l.getD j [] := by unfold rd_L2; rw [Int.toNat_natCast]
theorem rdE (l : List (List XE)) (j : Nat) : rd_L7 l (j : Int) = l.getD j [] := by unfold rd_L7; rw [Int.toNat_natCast]
theorem rdSS (l : List SS) (j : Nat) : rd_T52 l (j : Int) = l.getD j z52 := by unfold rd_T52; rw [Int.toNat_natCast]
theorem up1 (j n : Nat) (h : j < n) (hn : n ≤ 1048576) : wrap64 ((j : Int) + 1) = ((j + 1 : Nat) : Int) := by rw [w64 (by omega) (by omega)]; rfl
def fewI (im : Img) : Bool := decide (im.length ≤ 9) && im.all fun v => decide (v.length ≤ 24)
def fewL (l : List (List XE)) : Bool := (l.take 20).all (fun x => decide (x.length ≤ 40)) && decide (l.length ≤ 20)
theorem ev_few_loop (l : Img) (hl : l.length ≤ 9) : ∀ (n j : Nat), l.length - j = n → j ≤ l.length → Ev (fun k => standbyref07_Few.l0 k l (j : Int)) ((l.drop j).all fun v => decide (v.length ≤ 24))
  | 0, j, hn, hj => by
    rw [List.drop_eq_nil_of_le (by omega)]
    exact Ev.step (f := fun _ => some true) (fun k => by rw [standbyref07_Few.l0, if_neg (by omega)]) (Ev.now true)
  | n + 1, j, hn, hj => by
    have h1 : j < l.length := by omega
    have ih := ev_few_loop l hl n (j + 1) (by omega) (by omega)
    rw [List.drop_eq_getElem_cons h1, List.all_cons]
    by_cases e : l[j].length ≤ 24
    · rw [decide_eq_true e, Bool.true_and]
      exact Ev.step (fun k => by rw [standbyref07_Few.l0, if_pos (by omega), if_pos (by omega), rdS, getD_at _ _ _ h1, if_neg (by omega), up1 j l.length h1 (by omega)]) ih
    · rw [decide_eq_false e, Bool.false_and]
      exact Ev.step (f := fun _ => some false) (fun k => by rw [standbyref07_Few.l0, if_pos (by omega), if_pos (by omega), rdS, getD_at _ _ _ h1, if_pos (by omega)]) (Ev.now false)
theorem ev_few (l : Img) : Ev (fun k => standbyref07_Few.f k l) (fewI l) := by
  unfold fewI
  by_cases h : l.length ≤ 9
  · rw [decide_eq_true h, Bool.true_and]
    exact Ev.congr (fun k => by unfold standbyref07_Few.f; rw [if_neg (by omega)]; rfl) (ev_few_loop l h l.length 0 (by omega) (by omega))
  · rw [decide_eq_false h, Bool.false_and]
    exact Ev.congr (f := fun _ => some false) (fun k => by unfold standbyref07_Few.f; rw [if_pos (by omega)]) (Ev.now false)
theorem ev_fewl_loop (l : List (List XE)) : ∀ (n j : Nat), 20 - j = n → j ≤ l.length → j ≤ 20 → Ev (fun k => standbyref45_FewLists.l0 k l (j : Int)) (((l.take 20).drop j).all (fun x => decide (x.length ≤ 40)) && decide (l.length ≤ 20))
  | n, j, hn, hj, h20 => by
    by_cases h1 : j < l.length ∧ j < 20
    · have ht : j < (l.take 20).length := by rw [List.length_take]; omega
      rw [List.drop_eq_getElem_cons ht, List.all_cons, List.getElem_take]
      by_cases e : l[j].length ≤ 40
      · rw [decide_eq_true e, Bool.true_and]
        have ih := ev_fewl_loop l (n - 1) (j + 1) (by omega) (by omega) (by omega)
        refine Ev.step (f := fun k => standbyref45_FewLists.j1 k l (j : Int) true) (fun k => by rw [standbyref45_FewLists.l0, if_pos (by omega), decide_eq_true (by omega)]) ?_
        exact Ev.step (fun k => by rw [standbyref45_FewLists.j1, if_pos rfl, if_pos (by omega), if_pos (by omega), rdE, getD_at _ _ _ h1.1, if_neg (by omega), up1 j 20 h1.2 (by omega)]) ih
      · rw [decide_eq_false e, Bool.false_and, Bool.false_and]
        refine Ev.step (f := fun k => standbyref45_FewLists.j1 k l (j : Int) true) (fun k => by rw [standbyref45_FewLists.l0, if_pos (by omega), decide_eq_true (by omega)]) ?_
        exact Ev.step (f := fun _ => some false) (fun k => by rw [standbyref45_FewLists.j1, if_pos rfl, if_pos (by omega), if_pos (by omega), rdE, getD_at _ _ _ h1.1, if_pos (by omega)]) (Ev.now false)
    · rw [List.drop_eq_nil_of_le (by rw [List.length_take]; omega), List.all_nil, Bool.true_and]
      refine Ev.step (f := fun k => standbyref45_FewLists.j1 k l (j : Int) false) (fun k => ?_) (Ev.step (f := fun _ => some (decide (l.length ≤ 20))) (fun k => ?_) (Ev.now _))
      · rw [standbyref45_FewLists.l0]
        by_cases h2 : j < l.length
        · rw [if_pos (by omega), decide_eq_false (by omega)]
        · rw [if_neg (by omega)]
      · rw [standbyref45_FewLists.j1, if_neg (by simp)]
        exact congrArg some (decide_eq_decide.2 (by omega))
termination_by n => n
theorem ev_fewl (l : List (List XE)) : Ev (fun k => standbyref45_FewLists.f k l) (fewL l) := ev_fewl_loop l 20 0 rfl (by omega) (by omega)
theorem fewL_le {l : List (List XE)} (h : fewL l = true) : l.length ≤ 20 ∧ ∀ x ∈ l, x.length ≤ 40 := by
  unfold fewL at h
  rw [Bool.and_eq_true, decide_eq_true_eq, List.all_eq_true] at h
  refine ⟨h.2, fun x hx => ?_⟩
  rw [List.take_of_length_le h.2] at h
  exact of_decide_eq_true (h.1 x hx)
theorem fewI_le {l : Img} (h : fewI l = true) : l.length ≤ 9 ∧ ∀ x ∈ l, x.length ≤ 24 := by
  unfold fewI at h
  rw [Bool.and_eq_true, decide_eq_true_eq, List.all_eq_true] at h
  exact ⟨h.1, fun x hx => of_decide_eq_true (h.2 x hx)⟩
end Go.Proofs.Ytoichhdbomcdaaa.Pq
end
section
namespace Go.Proofs.Ytoichhdbomcdaaa.Pq
open Go.RowKit Go.Proofs.YtoichhdbomcdaaaW.PrintWords Go.Proofs.YtoichhdbomcdaaaW.PrintLast Go.Proofs.YtoichhdbomcdaaaW.PrintMore
set_option linter.unusedVariables false
set_option linter.unusedSimpArgs false
theorem bump_eq : ∀ (l : List XE) (i : Int), l ≠ [] → bump l i = if (l.getD (l.length - 1) z54).f0 + (l.getD (l.length - 1) z54).f1 = i then l.set (l.length - 1) ⟨(l.getD (l.length - 1) z54).f0, (l.getD (l.length - 1) z54).f1 + 1⟩ else l ++ [⟨i, 1⟩]
  | [], i, h => absurd rfl h
  | [x], i, _ => rfl
  | x :: y :: r, i, _ => by
    have ih := bump_eq (y :: r) i (by simp)
    have e : (x :: y :: r).getD ((x :: y :: r).length - 1) z54 = (y :: r).getD ((y :: r).length - 1) z54 := by simp
    rw [e, bump, ih]
    by_cases h : ((y :: r).getD ((y :: r).length - 1) z54).f0 + ((y :: r).getD ((y :: r).length - 1) z54).f1 = i
    · rw [if_pos h, if_pos h]; simp
    · rw [if_neg h, if_neg h]; rfl
theorem canon_len (p : Int → Bool) : ∀ n, (canon p n).length ≤ n
  | 0 => Nat.le_refl 0
  | n + 1 => by
    have ih := canon_len p n
    have hb : ∀ (l : List XE) (i : Int), (bump l i).length ≤ l.length + 1 := by
      intro l i
      by_cases h : l = []
      · subst h; simp [bump]
      · rw [bump_eq l i h]; split <;> simp
    unfold canon
    split
    · have := hb (canon p n) n; omega
    · omega
end Go.Proofs.Ytoichhdbomcdaaa.Pq
end
section
namespace Go.Proofs.Ytoichhdbomcdaaa.Pq
open Go.RowKit Go.Proofs.YtoichhdbomcdaaaW.PrintWords Go.Proofs.YtoichhdbomcdaaaW.PrintLast Go.Proofs.YtoichhdbomcdaaaW.PrintMore
set_option linter.unusedVariables false
set_option linter.unusedSimpArgs false
theorem ev_samex_in (x : List (List XE)) (hx : x.length ≤ 1048576) (hr : ∀ r ∈ x, r.length ≤ 1048576) (j : Nat) (hj : j < x.length) (hnext : Ev (fun k => standbyref36_SameExtents.l0 k x x ((j + 1 : Nat) : Int)) true) : ∀ (n i : Nat), (x[j]).length - i = n → i ≤ (x[j]).length → Ev (fun k => standbyref36_SameExtents.l1 k x x (j : Int) (i : Int)) true
  | 0, i, hn, hi => Ev.step (fun k => by rw [standbyref36_SameExtents.l1, if_pos (by omega), if_pos (by omega), rdE, getD_at _ _ _ hj, if_neg (by omega), up1 j x.length hj hx]) hnext
  | n + 1, i, hn, hi => by
    have h1 : i < (x[j]).length := by omega
    have ih := ev_samex_in x hx hr j hj hnext n (i + 1) (by omega) (by omega)
    exact Ev.step (fun k => by rw [standbyref36_SameExtents.l1, if_pos (by omega), if_pos (by omega), rdE, getD_at _ _ _ hj, if_pos (by omega), if_pos (by omega), if_pos (by omega), if_pos (by omega), beq_self_eq_true, beq_self_eq_true, if_neg (by simp), up1 i (x[j]).length h1 (hr _ (List.getElem_mem hj))]) ih
theorem ev_samex_loop (x : List (List XE)) (hx : x.length ≤ 1048576) (hr : ∀ r ∈ x, r.length ≤ 1048576) : ∀ (n j : Nat), x.length - j = n → j ≤ x.length → Ev (fun k => standbyref36_SameExtents.l0 k x x (j : Int)) true
  | 0, j, hn, hj => Ev.step (f := fun _ => some true) (fun k => by rw [standbyref36_SameExtents.l0, if_neg (by omega)]) (Ev.now true)
  | n + 1, j, hn, hj => by
    have h1 : j < x.length := by omega
    have ih := ev_samex_loop x hx hr n (j + 1) (by omega) (by omega)
    exact Ev.step (f := fun k => standbyref36_SameExtents.l1 k x x (j : Int) ((0 : Nat) : Int)) (fun k => by rw [standbyref36_SameExtents.l0, if_pos (by omega), if_pos (by omega), if_pos (by omega), if_pos rfl]; rfl) (ev_samex_in x hx hr j h1 ih _ 0 rfl (by omega))
theorem ev_samex (x : List (List XE)) (hx : x.length ≤ 1048576) (hr : ∀ r ∈ x, r.length ≤ 1048576) : Ev (fun k => standbyref36_SameExtents.f k x x) true :=
  Ev.congr (fun k => by unfold standbyref36_SameExtents.f; rw [if_pos rfl]; rfl) (ev_samex_loop x hx hr x.length 0 (by omega) (by omega))
theorem ev_samesec (x : List SS) (hx : x.length ≤ 1048576) : ∀ (n j : Nat), x.length - j = n → j ≤ x.length → Ev (fun k => standbyref03_SameSectors.l0 k x x (j : Int)) true
  | 0, j, hn, hj => Ev.step (f := fun _ => some true) (fun k => by rw [standbyref03_SameSectors.l0, if_neg (by omega)]) (Ev.now true)
  | n + 1, j, hn, hj => by
    have h1 : j < x.length := by omega
    have ih := ev_samesec x hx n (j + 1) (by omega) (by omega)
    exact Ev.step (fun k => by rw [standbyref03_SameSectors.l0, if_pos (by omega), if_pos (by omega), if_pos (by omega)]; simp only [beq_self_eq_true, Bool.not_true, Bool.or_false, if_false, Bool.false_eq_true, up1 j x.length h1 hx]) ih
theorem ev_samewr_loop (x : List S57) (hx : x.length ≤ 1048576) (hr : ∀ r ∈ x, r.f2.length ≤ 1048576) : ∀ (n j : Nat), x.length - j = n → j ≤ x.length → Ev (fun k => standbyref03_SameWrites.l0 k x x (j : Int)) true
  | 0, j, hn, hj => Ev.step (f := fun _ => some true) (fun k => by rw [standbyref03_SameWrites.l0, if_neg (by omega)]) (Ev.now true)
  | n + 1, j, hn, hj => by
    have h1 : j < x.length := by omega
    have ih := ev_samewr_loop x hx hr n (j + 1) (by omega) (by omega)
    have hrd : rd_T57 x (j : Int) = x[j] := by unfold rd_T57; rw [Int.toNat_natCast, getD_at _ _ _ h1]
    have hsec : Ev (fun k => standbyref03_SameSectors.f k (x[j]).f2 (x[j]).f2) true := Ev.congr (fun k => by unfold standbyref03_SameSectors.f; rw [if_pos rfl]; rfl) (ev_samesec (x[j]).f2 (hr _ (List.getElem_mem h1)) _ 0 rfl (by omega))
    refine Ev.step (f := fun k => (standbyref03_SameSectors.f k (x[j]).f2 (x[j]).f2).bind fun t => (if t = true then standbyref03_SameWrites.l0 k x x ((j + 1 : Nat) : Int) else some false)) (fun k => by rw [standbyref03_SameWrites.l0, if_pos (by omega), if_pos (by omega), if_pos (by omega), if_pos rfl, if_pos rfl, hrd, up1 j x.length h1 hx]) (Ev.bind hsec ?_)
    simp only [if_true]
    exact ih
theorem ev_samewr (x : List S57) (hx : x.length ≤ 1048576) (hr : ∀ r ∈ x, r.f2.length ≤ 1048576) : Ev (fun k => standbyref22_Same.f k x x) true :=
  Ev.bind (Ev.congr (fun k => by unfold standbyref03_SameWrites.f; rw [if_pos rfl]; rfl) (ev_samewr_loop x hx hr x.length 0 (by omega) (by omega))) (Ev.now true)
end Go.Proofs.Ytoichhdbomcdaaa.Pq
end
section
namespace Go.Proofs.Ytoichhdbomcdaaa.Pq
open Go.RowKit Go.Proofs.YtoichhdbomcdaaaW.PrintWords Go.Proofs.YtoichhdbomcdaaaW.PrintLast Go.Proofs.YtoichhdbomcdaaaW.PrintMore
set_option linter.unusedVariables false
set_option linter.unusedSimpArgs false
theorem canon_low : ∀ (l : List XE) (lo : Int), Canon lo l → ∀ x ∈ l, lo ≤ x.f0 ∧ 0 < x.f1
  | [], _, _, _, h => by cases h
  | y :: r, lo, h, x, hx => by
    rcases List.mem_cons.1 hx with rfl | hx
    · exact ⟨h.1, h.2.1⟩
    · obtain ⟨a, b⟩ := canon_low r _ h.2.2 x hx
      exact ⟨by have := h.1; have := h.2.1; omega, b⟩
theorem inL_mem (l : List XE) (h : ∀ x ∈ l, 0 ≤ x.f0 ∧ 0 < x.f1 ∧ x.f0 + x.f1 ≤ 4096) (i : Int) : inL l i = true ↔ MemX l i := by
  unfold inL MemX
  rw [List.any_eq_true]
  constructor
  · rintro ⟨x, hx, hi⟩
    obtain ⟨a, b, c⟩ := h x hx
    obtain ⟨_, p, q⟩ := (inX_iff x i).1 hi
    refine ⟨x, hx, ?_, ?_⟩
    · unfold mx at p; split at p <;> omega
    · unfold mn at q; split at q <;> omega
  · rintro ⟨x, hx, hi, hj⟩
    obtain ⟨a, b, c⟩ := h x hx
    refine ⟨x, hx, (inX_iff x i).2 ⟨b, ?_, ?_⟩⟩
    · unfold mx; split <;> omega
    · unfold mn; split <;> omega
theorem canon_self (l : List XE) (hc : Canon 0 l) (h : ∀ x ∈ l, x.f0 + x.f1 ≤ 4096) : canon (inL l) 4096 = l := by
  have h' : ∀ x ∈ l, 0 ≤ x.f0 ∧ 0 < x.f1 ∧ x.f0 + x.f1 ≤ 4096 := fun x hx => ⟨(canon_low l 0 hc x hx).1, (canon_low l 0 hc x hx).2, h x hx⟩
  refine (eq_canon hc (inL l) 4096 fun j => ?_).symm
  rw [inL_mem l h' j]
  constructor
  · rintro ⟨x, hx, a, b⟩
    obtain ⟨p, q, r⟩ := h' x hx
    exact ⟨by omega, by omega, x, hx, a, b⟩
  · exact fun h => h.2.2
abbrev srcA : Img := [[⟨1, 0, 0, 0, 0, 0, 0, 0⟩, ⟨2, 0, 0, 0, 0, 0, 0, 0⟩, ⟨0, 0, 0, 0, 0, 0, 0, 0⟩, ⟨0, 0, 0, 0, 0, 0, 0, 0⟩, ⟨3, 0, 0, 0, 0, 0, 0, 0⟩]]
abbrev tgtA : Img := [[⟨0, 0, 0, 0, 0, 0, 0, 0⟩, ⟨2, 0, 0, 0, 0, 0, 0, 0⟩, ⟨0, 0, 0, 0, 0, 0, 0, 0⟩, ⟨0, 0, 0, 0, 0, 0, 0, 0⟩, ⟨0, 0, 0, 0, 0, 0, 0, 0⟩]]
abbrev lA : List (List XE) := [[⟨0, 2⟩, ⟨4, 1⟩]]
abbrev nA : List (List XE) := [[⟨0, 1⟩, ⟨4, 1⟩]]
abbrev wA : List S57 := [⟨0, 0, [⟨1, 0, 0, 0, 0, 0, 0, 0⟩, ⟨2, 0, 0, 0, 0, 0, 0, 0⟩]⟩, ⟨0, 4, [⟨3, 0, 0, 0, 0, 0, 0, 0⟩]⟩]
theorem okA : okLs lA := by decide
theorem okB : okLs nA := by decide
theorem awake_w : resync_Writes.f srcA lA = some (wA, 0) := by
  unfold resync_Writes.f
  rw [if_pos ⟨by decide, okA⟩]
  rfl
theorem awake_pair : pairX srcA tgtA = 0 := rfl
theorem awake_fit : fitsX srcA lA = 0 := rfl
theorem awake_fit2 : fitsX srcA nA = 0 := rfl
theorem awake_dif : difL srcA tgtA = nA := rfl
theorem awake_inter : canon (fun i => inL [⟨0, 1⟩, ⟨4, 1⟩] i && inL [⟨0, 2⟩, ⟨4, 1⟩] i) 4096 = [⟨0, 1⟩, ⟨4, 1⟩] := by
  refine (eq_canon (lo := 0) (l := [⟨0, 1⟩, ⟨4, 1⟩]) ⟨by decide, by decide, by decide, by decide, trivial⟩ _ 4096 fun j => ?_).symm
  rw [Bool.and_eq_true, inL_mem _ (by decide), inL_mem _ (by decide)]
  simp only [memx_cons, memx_nil, hasX, or_false]
  omega
theorem awake_n : neededX srcA tgtA lA = (nA, 0) := by
  unfold neededX
  rw [if_pos awake_pair, if_pos awake_fit, awake_dif]
  have : mp (needF lA) 0 nA = [needF lA 0 [⟨0, 1⟩, ⟨4, 1⟩]] := rfl
  rw [this, show needF lA 0 [⟨0, 1⟩, ⟨4, 1⟩] = [⟨0, 1⟩, ⟨4, 1⟩] from awake_inter]
theorem awake_x : exactX srcA tgtA nA = (true, 0) := by
  unfold exactX
  rw [show (neededX srcA tgtA nA).2 = 0 from by unfold neededX; rw [if_pos awake_pair, if_pos awake_fit2], if_pos rfl, awake_dif]
  rfl
theorem awake_y : exactX srcA tgtA lA = (false, 0) := by
  unfold exactX
  rw [awake_n, if_pos rfl, awake_dif]
  rfl
theorem awake_c (l : List XE) (hc : Canon 0 l) (h : ∀ x ∈ l, x.f0 + x.f1 ≤ 4096) : costX [l] = sumc l := by
  have : costX [l] = countp (inL l) 4096 + 0 := rfl
  rw [this, ← sumc_canon, canon_self l hc h, Int.add_zero]
theorem ev_awake : Ev (fun k => standbylaw45_awake.f k) true := by
  have e2 : resync_Needed.f srcA tgtA lA = some (nA, 0) := by unfold resync_Needed.f; rw [if_pos ⟨by decide, by decide, okA⟩, awake_n]
  have e3 : resync_Exact.f srcA tgtA nA = some (true, 0) := by unfold resync_Exact.f; rw [if_pos ⟨by decide, by decide, okB⟩, awake_x]
  have e4 : resync_Exact.f srcA tgtA lA = some (false, 0) := by unfold resync_Exact.f; rw [if_pos ⟨by decide, by decide, okA⟩, awake_y]
  have e5 : resync_Cost.f lA = some 3 := by unfold resync_Cost.f; rw [if_pos okA, awake_c [⟨0, 2⟩, ⟨4, 1⟩] ⟨by decide, by decide, by decide, by decide, trivial⟩ (by decide)]; rfl
  have e6 : resync_Cost.f nA = some 2 := by unfold resync_Cost.f; rw [if_pos okB, awake_c [⟨0, 1⟩, ⟨4, 1⟩] ⟨by decide, by decide, by decide, by decide, trivial⟩ (by decide)]; rfl
  refine Ev.congr (f := fun k => (standbyref22_Same.f k wA wA).bind fun t => standbylaw45_awake.j0 k lA nA true false (!t)) (fun k => ?_) (Ev.bind (ev_samewr wA (by decide) (by decide)) (Ev.step (f := fun k => (standbyref36_SameExtents.f k nA nA).bind fun t => (if t = true then some true else some false)) (fun k => ?_) (Ev.bind (ev_samex nA (by decide) (by decide)) ?_)))
  · unfold standbylaw45_awake.f
    simp only [Option.bind_some]
    rw [awake_w]
    simp only [Option.bind_some]
    rw [e2]
    simp only [Option.bind_some]
    rw [e3]
    simp only [Option.bind_some]
    rw [e4]
    simp only [Option.bind_some]
    rw [if_pos (show wrap64 (wrap64 (wrap64 (0 + 0) + 0) + 0) = 0 from by unfold wrap64; omega)]
  · rw [standbylaw45_awake.j0, if_neg (by simp)]
    simp only [if_true, Bool.false_eq_true, if_false]
    rw [e5]
    simp only [Option.bind_some, if_true]
    rw [e6]
    simp only [Option.bind_some]
    rfl
  · simp only [if_true]
    exact Ev.now true
end Go.Proofs.Ytoichhdbomcdaaa.Pq
end
section
namespace Go.Proofs.Ytoichhdbomcdaaa.Pq
open Go.RowKit Go.Proofs.YtoichhdbomcdaaaW.PrintWords Go.Proofs.YtoichhdbomcdaaaW.PrintLast Go.Proofs.YtoichhdbomcdaaaW.PrintMore
set_option linter.unusedVariables false
set_option linter.unusedSimpArgs false
def spl (row : List SS) (s : Nat) (data : List SS) : List SS := row.take s ++ (data ++ row.drop (s + data.length))
theorem spl_len (row : List SS) (s : Nat) (data : List SS) (h : s + data.length ≤ row.length) : (spl row s data).length = row.length := by simp [spl]; omega
def putW (im : Img) (w : WS) : Img := im.set w.f0.toNat (spl (im.getD w.f0.toNat []) w.f1.toNat w.f2)
def fitsC (im : Img) (w : WS) : Int :=
  if w.f0 < 0 ∨ (im.length : Int) ≤ w.f0 then 7 else if (w.f2.length : Int) = 0 then 1 else if w.f1 < 0 then 2 else if w.f1 > ((im.getD w.f0.toNat []).length : Int) - (w.f2.length : Int) then 2 else 0
theorem fitsC_zero {im : Img} {w : WS} (h : fitsC im w = 0) : 0 ≤ w.f0 ∧ w.f0 < im.length ∧ 0 < w.f2.length ∧ 0 ≤ w.f1 ∧ w.f1 + w.f2.length ≤ (im.getD w.f0.toNat []).length := by
  unfold fitsC at h
  split at h
  · cases h
  · split at h
    · cases h
    · split at h
      · cases h
      · split at h
        · cases h
        · omega
theorem fitsC_of {im : Img} {w : WS} (h : 0 ≤ w.f0 ∧ w.f0 < im.length ∧ 0 < w.f2.length ∧ 0 ≤ w.f1 ∧ w.f1 + w.f2.length ≤ (im.getD w.f0.toNat []).length) : fitsC im w = 0 := by
  unfold fitsC
  rw [if_neg (by omega), if_neg (by omega), if_neg (by omega), if_neg (by omega)]
theorem lens_getD (im : Img) (v : Nat) (h : v < im.length) : (lens im).getD v 0 = ((im.getD v []).length : Int) := by
  unfold lens
  rw [List.getD_eq_getElem?_getD, List.getElem?_map, List.getD_eq_getElem?_getD, List.getElem?_eq_getElem h]; rfl
theorem fitsC_lens {a b : Img} (h : lens a = lens b) (w : WS) : fitsC a w = fitsC b w := by
  have hl : a.length = b.length := by have := congrArg List.length h; rwa [lens_len, lens_len] at this
  unfold fitsC
  rw [hl]
  by_cases c : w.f0 < 0 ∨ (b.length : Int) ≤ w.f0
  · rw [if_pos c, if_pos c]
  · have e : ((a.getD w.f0.toNat []).length : Int) = ((b.getD w.f0.toNat []).length : Int) := by
      rw [← lens_getD a _ (by omega), ← lens_getD b _ (by omega), h]
    rw [e]
theorem lens_vol {a b : Img} (h : lens a = lens b) : a.length = b.length ∧ ∀ v, v < a.length → (a.getD v []).length = (b.getD v []).length := by
  have hl : a.length = b.length := by have := congrArg List.length h; rwa [lens_len, lens_len] at this
  refine ⟨hl, fun v hv => ?_⟩
  have h1 := lens_getD a v hv
  have h2 := lens_getD b v (by omega)
  rw [h] at h1
  omega
theorem lens_putW {im : Img} {w : WS} (h : fitsC im w = 0) : lens (putW im w) = lens im := by
  obtain ⟨h0, h1, h2, h3, h4⟩ := fitsC_zero h
  unfold putW lens
  rw [List.map_set, spl_len _ _ _ (by omega)]
  apply List.ext_getElem?
  intro i
  rw [List.getElem?_set]
  by_cases e : w.f0.toNat = i
  · subst e
    rw [if_pos rfl, if_pos (by simp; omega), List.getElem?_map, List.getD_eq_getElem?_getD, List.getElem?_eq_getElem (show w.f0.toNat < im.length by omega)]; rfl
  · rw [if_neg e]
def appG : Nat → List WS → Img → Img × Int × Int
  | _, [], out => (out, 0, 0)
  | i, w :: r, out => if fitsC out w = 0 then appG (i + 1) r (putW out w) else ([], (i : Int), fitsC out w)
def applyX (im : Img) (l : List WS) : Img × Int × Int := if sizesErr (lens im) = 0 then appG 0 l im else ([], 0, sizesErr (lens im))
def okW (im : Img) (l : List WS) : Prop := im.length ≤ 1048576 ∧ l.length ≤ 1048576 ∧ ∀ w ∈ l, w.f2.length ≤ 1048576
instance (im : Img) (l : List WS) : Decidable (okW im l) := inferInstanceAs (Decidable (_ ∧ _ ∧ _))
def image_Apply.f (l0 : List (List SS)) (l1 : List WS) : Option (List (List SS) × Int × Int) := if okW l0 l1 then some (applyX l0 l1) else none
theorem appG_drop (l : List WS) (k : Nat) (hk : k < l.length) (z : WS) (out : Img) : appG k (l.drop k) out = if fitsC out (l.getD k z) = 0 then appG (k + 1) (l.drop (k + 1)) (putW out (l.getD k z)) else ([], (k : Int), fitsC out (l.getD k z)) := by
  rw [List.drop_eq_getElem_cons hk, appG, List.getD_eq_getElem?_getD, List.getElem?_eq_getElem hk]; rfl
theorem ev_fits (im : Img) (w : WS) (hs : ∀ v, v < im.length → (im.getD v []).length ≤ 4096) (hd : w.f2.length ≤ 1048576) : Ev (fun k => image_fits.f k im w.f0 w.f1 w.f2) (fitsC im w) := by
  unfold fitsC
  by_cases c : w.f0 < 0 ∨ (im.length : Int) ≤ w.f0
  · rw [if_pos c]
    refine Ev.congr (f := fun k => image_fits.j0 k im true w.f0 w.f1 w.f2) (fun k => ?_) (Ev.step (f := fun _ => some 7) (fun k => by rw [image_fits.j0, if_pos rfl]) (Ev.now 7))
    unfold image_fits.f
    by_cases c2 : w.f0 < 0
    · rw [if_pos c2]
    · rw [if_neg c2, decide_eq_true (by omega)]
  · rw [if_neg c]
    refine Ev.congr (f := fun k => image_fits.j0 k im false w.f0 w.f1 w.f2) (fun k => by unfold image_fits.f; rw [if_neg (by omega), decide_eq_false (by omega)]) ?_
    have hrd : rd_L2 im w.f0 = im.getD w.f0.toNat [] := rfl
    have hv := hs w.f0.toNat (by omega)
    by_cases d : (w.f2.length : Int) = 0
    · rw [if_pos d]
      exact Ev.step (f := fun _ => some 1) (fun k => by rw [image_fits.j0, if_neg (by simp), if_pos d]) (Ev.now 1)
    · rw [if_neg d]
      by_cases e : w.f1 < 0
      · rw [if_pos e]
        exact Ev.step (f := fun _ => some 2) (fun k => by rw [image_fits.j0, if_neg (by simp), if_neg d, if_pos e]) (Ev.now 2)
      · rw [if_neg e]
        refine Ev.step (f := fun _ => some _) (fun k => ?_) (Ev.now _)
        rw [image_fits.j0, if_neg (by simp), if_neg d, if_neg e, if_pos (by omega), if_pos (by omega), hrd, w64 (by omega) (by omega)]
        split <;> rfl
end Go.Proofs.Ytoichhdbomcdaaa.Pq
end
section
namespace Go.Proofs.Ytoichhdbomcdaaa.Pq
open Go.RowKit Go.Proofs.YtoichhdbomcdaaaW.PrintWords Go.Proofs.YtoichhdbomcdaaaW.PrintLast Go.Proofs.YtoichhdbomcdaaaW.PrintMore
set_option linter.unusedVariables false
set_option linter.unusedSimpArgs false
def at2 (im : Img) (v i : Nat) : SS := (im.getD v []).getD i z52
theorem list_ext_getD {α : Type} (z : α) (a b : List α) (hl : a.length = b.length) (h : ∀ i, i < a.length → a.getD i z = b.getD i z) : a = b := by
  apply List.ext_getElem hl
  intro i h1 h2
  have := h i h1
  rwa [getD_at _ _ _ h1, getD_at _ _ _ h2] at this
theorem img_ext {a b : Img} (h : lens a = lens b) (hat : ∀ v i, v < a.length → i < (a.getD v []).length → at2 a v i = at2 b v i) : a = b := by
  obtain ⟨hl, hv⟩ := lens_vol h
  exact list_ext_getD [] a b hl fun v h1 => list_ext_getD z52 _ _ (hv v h1) fun i h2 => hat v i h1 h2
theorem spl_at (row : List SS) (s : Nat) (data : List SS) (h : s + data.length ≤ row.length) (i : Nat) : (spl row s data).getD i z52 = if s ≤ i ∧ i < s + data.length then data.getD (i - s) z52 else row.getD i z52 := by
  unfold spl
  simp only [List.getD_eq_getElem?_getD]
  by_cases h1 : i < s
  · rw [List.getElem?_append_left (by rw [List.length_take]; omega), List.getElem?_take, if_pos h1, if_neg (by omega)]
  · rw [List.getElem?_append_right (by rw [List.length_take]; omega), List.length_take, Nat.min_eq_left (by omega)]
    by_cases h2 : i < s + data.length
    · rw [List.getElem?_append_left (by omega), if_pos ⟨by omega, h2⟩]
    · rw [List.getElem?_append_right (by omega), List.getElem?_drop, if_neg (by omega), show s + data.length + (i - s - data.length) = i by omega]
theorem at2_putW {im : Img} {w : WS} (h : fitsC im w = 0) (v i : Nat) : at2 (putW im w) v i = if v = w.f0.toNat ∧ w.f1.toNat ≤ i ∧ i < w.f1.toNat + w.f2.length then w.f2.getD (i - w.f1.toNat) z52 else at2 im v i := by
  obtain ⟨h0, h1, h2, h3, h4⟩ := fitsC_zero h
  have hrow : (putW im w).getD v [] = if v = w.f0.toNat then spl (im.getD w.f0.toNat []) w.f1.toNat w.f2 else im.getD v [] := by
    unfold putW
    rw [List.getD_eq_getElem?_getD, List.getElem?_set]
    by_cases e : v = w.f0.toNat
    · rw [if_pos e.symm, if_pos e, if_pos (by omega)]; rfl
    · rw [if_neg (Ne.symm e), if_neg e, List.getD_eq_getElem?_getD]
  unfold at2
  rw [hrow]
  by_cases e : v = w.f0.toNat
  · rw [if_pos e, spl_at _ _ _ (by omega), e]
    simp only [true_and]
  · rw [if_neg e, if_neg (fun q => e q.1)]
theorem appG_all : ∀ (l : List WS) (k : Nat) (im out : Img), lens out = lens im → (∀ w ∈ l, fitsC im w = 0) → appG k l out = (l.foldl putW out, 0, 0) ∧ lens (l.foldl putW out) = lens im
  | [], _, _, _, ho, _ => ⟨rfl, ho⟩
  | w :: r, k, im, out, ho, h => by
    have hw : fitsC out w = 0 := by rw [fitsC_lens ho]; exact h w (List.mem_cons_self ..)
    rw [appG, if_pos hw]
    exact appG_all r (k + 1) im (putW out w) (by rw [lens_putW hw, ho]) (fun x hx => h x (List.mem_cons_of_mem _ hx))
def cov (ps : List (Int × XE)) (v i : Nat) : Prop := ∃ p ∈ ps, p.1 = (v : Int) ∧ hasX p.2 (i : Int)
def fitP (im : Img) (p : Int × XE) : Prop := 0 ≤ p.1 ∧ p.1 < im.length ∧ 0 < p.2.f1 ∧ 0 ≤ p.2.f0 ∧ p.2.f0 + p.2.f1 ≤ (im.getD p.1.toNat []).length
theorem sliceX_len {im : Img} {p : Int × XE} (h : fitP im p) : ((sliceX im p).f2.length : Int) = p.2.f1 := by
  obtain ⟨h0, h1, h2, h3, h4⟩ := h
  unfold sliceX
  dsimp only
  rw [List.length_drop, List.length_take]
  omega
theorem sliceX_fits {im tg : Img} (hl : lens tg = lens im) {p : Int × XE} (h : fitP im p) : fitsC tg (sliceX im p) = 0 := by
  have hlen := sliceX_len h
  obtain ⟨h0, h1, h2, h3, h4⟩ := h
  rw [fitsC_lens hl]
  refine fitsC_of ⟨h0, h1, by omega, h3, ?_⟩
  show p.2.f0 + ((sliceX im p).f2.length : Int) ≤ ((im.getD p.1.toNat []).length : Int)
  rw [hlen]; exact h4
theorem at2_slice {im tg : Img} (hl : lens tg = lens im) {p : Int × XE} (h : fitP im p) (v i : Nat) (hv : v < im.length) : (cov [p] v i → at2 (putW tg (sliceX im p)) v i = at2 im v i) ∧ (¬ cov [p] v i → at2 (putW tg (sliceX im p)) v i = at2 tg v i) := by
  have hlen := sliceX_len h
  have hput := at2_putW (sliceX_fits hl h) v i
  obtain ⟨h0, h1, h2, h3, h4⟩ := h
  have e0 : (sliceX im p).f0 = p.1 := rfl
  have e1 : (sliceX im p).f1 = p.2.f0 := rfl
  rw [e0, e1] at hput
  constructor
  · rintro ⟨q, hq, a, b, c⟩
    obtain rfl := List.mem_singleton.1 hq
    rw [hput, if_pos ⟨by omega, by omega, by omega⟩]
    unfold sliceX at2
    dsimp only
    rw [List.getD_eq_getElem?_getD, List.getElem?_drop, List.getElem?_take, if_pos (by omega), show q.2.f0.toNat + (i - q.2.f0.toNat) = i by omega, show q.1.toNat = v by omega, ← List.getD_eq_getElem?_getD]
  · intro hn
    rw [hput, if_neg]
    rintro ⟨a, b, c⟩
    exact hn ⟨p, List.mem_singleton.2 rfl, by omega, by omega, by omega⟩
theorem at2_fold (im : Img) : ∀ (ps : List (Int × XE)) (tg : Img), lens tg = lens im → (∀ p ∈ ps, fitP im p) → ∀ v i, v < im.length → (cov ps v i → at2 ((ps.map (sliceX im)).foldl putW tg) v i = at2 im v i) ∧ (¬ cov ps v i → at2 ((ps.map (sliceX im)).foldl putW tg) v i = at2 tg v i)
  | [], tg, hl, hp, v, i, hv => ⟨fun ⟨_, h, _⟩ => (by cases h), fun _ => rfl⟩
  | p :: r, tg, hl, hp, v, i, hv => by
    have hpp := hp p (List.mem_cons_self ..)
    have hl2 : lens (putW tg (sliceX im p)) = lens im := by rw [lens_putW (sliceX_fits hl hpp), hl]
    obtain ⟨i1, i2⟩ := at2_fold im r (putW tg (sliceX im p)) hl2 (fun q hq => hp q (List.mem_cons_of_mem _ hq)) v i hv
    obtain ⟨s1, s2⟩ := at2_slice hl hpp v i hv
    rw [List.map_cons, List.foldl_cons]
    constructor
    · rintro ⟨q, hq, hc⟩
      by_cases hr : cov r v i
      · exact i1 hr
      · rw [i2 hr]
        rcases List.mem_cons.1 hq with rfl | hq
        · exact s1 ⟨q, List.mem_singleton.2 rfl, hc⟩
        · exact absurd ⟨q, hq, hc⟩ hr
    · intro hn
      rw [i2 (fun ⟨q, hq, hc⟩ => hn ⟨q, List.mem_cons_of_mem _ hq, hc⟩), s2 (fun ⟨q, hq, hc⟩ => by obtain rfl := List.mem_singleton.1 hq; exact hn ⟨q, List.mem_cons_self .., hc⟩)]
theorem volL_cov : ∀ (ls : List (List XE)) (k v i : Nat), cov (volL k ls) v i ↔ k ≤ v ∧ v < k + ls.length ∧ MemX (ls.getD (v - k) []) (i : Int)
  | [], k, v, i => ⟨fun ⟨_, h, _⟩ => (by cases h), fun h => (by have := h.2.1; simp at this; omega)⟩
  | l :: r, k, v, i => by
    have ih := volL_cov r (k + 1) v i
    constructor
    · rintro ⟨p, hp, h1, h2⟩
      rcases List.mem_append.1 hp with hp | hp
      · obtain ⟨e, he, rfl⟩ := List.mem_map.1 hp
        have : v = k := by have : (k : Int) = v := h1; omega
        subst this
        exact ⟨Nat.le_refl _, by simp, e, by simpa using he, h2⟩
      · obtain ⟨a, b, c⟩ := ih.1 ⟨p, hp, h1, h2⟩
        refine ⟨by omega, by simp; omega, ?_⟩
        rw [show v - k = (v - (k + 1)) + 1 by omega, List.getD_cons_succ]
        exact c
    · rintro ⟨a, b, e, he, h⟩
      by_cases hk : v = k
      · subst hk
        rw [Nat.sub_self] at he
        exact ⟨((v : Int), e), List.mem_append_left _ (List.mem_map.2 ⟨e, he, rfl⟩), rfl, h⟩
      · obtain ⟨p, hp, hc⟩ := ih.2 ⟨by omega, by simp at b; omega, e, by rw [show v - k = (v - (k + 1)) + 1 by omega, List.getD_cons_succ] at he; exact he, h⟩
        exact ⟨p, List.mem_append_right _ hp, hc⟩
theorem mp_comp {α β γ : Type} (f : Nat → β → γ) (g : Nat → α → β) : ∀ (l : List α) (k : Nat), mp f k (mp g k l) = mp (fun i x => f i (g i x)) k l
  | [], _ => rfl
  | x :: r, k => by simp only [mp, mp_comp f g r (k + 1)]
theorem mp_congr {α β : Type} (f g : Nat → α → β) (z : α) : ∀ (l : List α) (k : Nat), (∀ i, i < l.length → f (k + i) (l.getD i z) = g (k + i) (l.getD i z)) → mp f k l = mp g k l
  | [], _, _ => rfl
  | x :: r, k, h => by
    have h0 := h 0 (by simp)
    simp only [Nat.add_zero, List.getD_cons_zero] at h0
    rw [mp, mp, h0, mp_congr f g z r (k + 1) (fun i hi => by have := h (i + 1) (by simpa using hi); rw [List.getD_cons_succ, show k + (i + 1) = k + 1 + i by omega] at this; exact this)]
theorem sum_add {α : Type} (f g h : Nat → α → Int) (z : α) : ∀ (l : List α) (k : Nat), (∀ i, i < l.length → f (k + i) (l.getD i z) = g (k + i) (l.getD i z) + h (k + i) (l.getD i z)) → sumI (mp f k l) = sumI (mp g k l) + sumI (mp h k l)
  | [], _, _ => rfl
  | x :: r, k, hh => by
    have h0 := hh 0 (by simp)
    simp only [Nat.add_zero, List.getD_cons_zero] at h0
    have ih := sum_add f g h z r (k + 1) (fun i hi => by have := hh (i + 1) (by simpa using hi); rw [List.getD_cons_succ, show k + (i + 1) = k + 1 + i by omega] at this; exact this)
    simp only [mp, sumI]
    omega
theorem sum_le {α β : Type} (f : Nat → α → Int) (g : Nat → β → Int) (z : α) (z' : β) : ∀ (l : List α) (m : List β) (k : Nat), l.length = m.length → (∀ i, i < l.length → f (k + i) (l.getD i z) ≤ g (k + i) (m.getD i z')) → sumI (mp f k l) ≤ sumI (mp g k m)
  | [], [], _, _, _ => Int.le_refl _
  | [], _ :: _, _, h, _ => by simp at h
  | _ :: _, [], _, h, _ => by simp at h
  | x :: r, y :: t, k, hl, hh => by
    have h0 := hh 0 (by simp)
    simp only [Nat.add_zero, List.getD_cons_zero] at h0
    have ih := sum_le f g z z' r t (k + 1) (by simpa using hl) (fun i hi => by have := hh (i + 1) (by simpa using hi); rw [List.getD_cons_succ, List.getD_cons_succ, show k + (i + 1) = k + 1 + i by omega] at this; exact this)
    simp only [mp, sumI]
    omega
theorem sum_zero {α : Type} (f : Nat → α → Int) (z : α) : ∀ (l : List α) (k : Nat), (∀ i, i < l.length → 0 ≤ f (k + i) (l.getD i z)) → (sumI (mp f k l) = 0 ↔ ∀ i, i < l.length → f (k + i) (l.getD i z) = 0) ∧ 0 ≤ sumI (mp f k l)
  | [], _, _ => ⟨⟨fun _ i hi => by simp at hi, fun _ => rfl⟩, Int.le_refl _⟩
  | x :: r, k, hh => by
    have h0 := hh 0 (by simp)
    simp only [Nat.add_zero, List.getD_cons_zero] at h0
    obtain ⟨ih, ip⟩ := sum_zero f z r (k + 1) (fun i hi => by have := hh (i + 1) (by simpa using hi); rw [List.getD_cons_succ, show k + (i + 1) = k + 1 + i by omega] at this; exact this)
    simp only [mp, sumI]
    refine ⟨⟨fun h i hi => ?_, fun h => ?_⟩, by omega⟩
    · cases i with
      | zero => simp only [Nat.add_zero, List.getD_cons_zero]; omega
      | succ i => rw [List.getD_cons_succ, show k + (i + 1) = k + 1 + i by omega]; exact ih.1 (by omega) i (by simpa using hi)
    · have h1 := h 0 (by simp)
      simp only [Nat.add_zero, List.getD_cons_zero] at h1
      have h2 := ih.2 (fun i hi => by have := h (i + 1) (by simpa using hi); rw [List.getD_cons_succ, show k + (i + 1) = k + 1 + i by omega] at this; exact this)
      omega
theorem countp_congr {p q : Int → Bool} : ∀ n : Nat, (∀ j : Int, 0 ≤ j → j < n → p j = q j) → countp p n = countp q n
  | 0, _ => rfl
  | n + 1, h => by
    rw [countp, countp, countp_congr n (fun j h0 h1 => h j h0 (by omega)), h n (by omega) (by omega)]
theorem countp_split (p q : Int → Bool) : ∀ n : Nat, countp p n = countp (fun i => p i && q i) n + countp (fun i => p i && !q i) n
  | 0 => rfl
  | n + 1 => by
    have ih := countp_split p q n
    simp only [countp]
    by_cases hp : p n = true
    · by_cases hq : q n = true
      · rw [if_pos hp, if_pos (by rw [hp, hq]; rfl), if_neg (by rw [hp, hq]; simp)]; omega
      · rw [if_pos hp, if_neg (by rw [hp, Bool.eq_false_iff.2 hq]; simp), if_pos (by rw [hp, Bool.eq_false_iff.2 hq]; rfl)]; omega
    · rw [if_neg hp, if_neg (by rw [Bool.eq_false_iff.2 hp]; simp), if_neg (by rw [Bool.eq_false_iff.2 hp]; simp)]; omega
theorem countp_mono (p q : Int → Bool) : ∀ n : Nat, (∀ j : Int, 0 ≤ j → j < n → p j = true → q j = true) → countp p n ≤ countp q n
  | 0, _ => Int.le_refl _
  | n + 1, h => by
    have ih := countp_mono p q n (fun j h0 h1 => h j h0 (by omega))
    have hn := h n (by omega) (by omega)
    simp only [countp]
    by_cases hp : p n = true
    · rw [if_pos hp, if_pos (hn hp)]; omega
    · rw [if_neg hp]; split <;> omega
theorem countp_zero (p : Int → Bool) : ∀ n : Nat, countp p n = 0 ↔ ∀ j : Int, 0 ≤ j → j < n → p j = false
  | 0 => ⟨fun _ j h0 h1 => by omega, fun _ => rfl⟩
  | n + 1 => by
    have ih := countp_zero p n
    have hb := (countp_le p n).1
    rw [countp]
    constructor
    · intro h j h0 h1
      by_cases hp : p n = true
      · rw [if_pos hp] at h; omega
      · rw [if_neg hp] at h
        by_cases e : j = n
        · rw [e]; exact Bool.eq_false_iff.2 hp
        · exact ih.1 h j h0 (by omega)
    · intro h
      rw [if_neg (by rw [h n (by omega) (by omega)]; simp)]
      exact ih.2 (fun j h0 h1 => h j h0 (by omega))
theorem countp_out (p : Int → Bool) (n m : Nat) (hnm : n ≤ m) (h : ∀ j : Int, (n : Int) ≤ j → p j = false) : countp p m = countp p n := by
  obtain ⟨k, rfl⟩ : ∃ k, m = n + k := ⟨m - n, by omega⟩
  clear hnm
  induction k with
  | zero => rfl
  | succ k ih => rw [← Nat.add_assoc, countp, if_neg (by rw [h _ (by omega)]; simp), ih]
end Go.Proofs.Ytoichhdbomcdaaa.Pq
end
section
namespace Go.Proofs.Ytoichhdbomcdaaa.Pq
open Go.RowKit Go.Proofs.YtoichhdbomcdaaaW.PrintWords Go.Proofs.YtoichhdbomcdaaaW.PrintLast Go.Proofs.YtoichhdbomcdaaaW.PrintMore
set_option linter.unusedVariables false
set_option linter.unusedSimpArgs false
def allX (s t : Img) : Int := sumI (mp (fun v x => countp (pd x (t.getD v [])) x.length) 0 s)
def misX (s t : Img) (l : List (List XE)) : Int := sumI (mp (fun v x => countp (fun j => pd x (t.getD v []) j && !inL (l.getD v []) j) x.length) 0 s)
def nedX (s t : Img) (l : List (List XE)) : List (List XE) := mp (needF l) 0 (difL s t)
theorem canon_in (p : Int → Bool) (n : Nat) : ∀ x ∈ canon p n, 0 ≤ x.f0 ∧ 0 < x.f1 ∧ x.f0 + x.f1 ≤ n := by
  intro x hx
  obtain ⟨a, b⟩ := canon_low _ 0 (canon_spec p n).1 x hx
  have := ((canon_spec p n).2.1 (x.f0 + x.f1 - 1)).1 ⟨x, hx, by omega, by omega⟩
  exact ⟨a, b, by omega⟩
theorem inL_canon (p : Int → Bool) (n : Nat) (hn : n ≤ 4096) (j : Int) : inL (canon p n) j = true ↔ 0 ≤ j ∧ j < n ∧ p j = true := by
  rw [inL_mem _ (fun x hx => by obtain ⟨a, b, c⟩ := canon_in p n x hx; exact ⟨a, b, by omega⟩)]
  exact (canon_spec p n).2.1 j
theorem okC_canon : ∀ (l : List XE) (nx : Int) (n : Int), Canon nx l → 0 ≤ nx → (∀ x ∈ l, x.f0 + x.f1 ≤ n) → okC n nx l = true
  | [], _, _, _, _, _ => rfl
  | x :: r, nx, n, ⟨h1, h2, h3⟩, h0, h => by
    have hx := h x (List.mem_cons_self ..)
    rw [okC, okC_canon r _ n h3 (by omega) (fun y hy => h y (List.mem_cons_of_mem _ hy)), decide_eq_true (by omega)]; rfl
theorem fitsX_of {im : Img} {l : List (List XE)} (h1 : l.length = im.length) (h2 : ∀ v, v < l.length → okC ((im.getD v []).length : Int) 0 (l.getD v []) = true) : fitsX im l = 0 := by
  unfold fitsX
  rw [if_pos h1, if_neg]
  intro h
  obtain ⟨b, hb, hn⟩ := List.any_eq_true.1 h
  obtain ⟨i, hi, rfl⟩ := List.getElem_of_mem hb
  rw [mp_len] at hi
  have := mp_getD (okV im) [] true l 0 i hi
  rw [getD_at _ _ _ (by rw [mp_len]; exact hi), Nat.zero_add] at this
  rw [this, show okV im i (l.getD i []) = true from h2 i hi] at hn
  simp at hn
theorem fitsX_at {im : Img} {l : List (List XE)} (h : fitsX im l = 0) (v : Nat) (hv : v < l.length) : okC ((im.getD v []).length : Int) 0 (l.getD v []) = true := by
  have hlen := fits_len h
  unfold fitsX at h
  rw [if_pos hlen] at h
  split at h
  · cases h
  · rename_i hb
    cases hq : okC ((im.getD v []).length : Int) 0 (l.getD v []) with
    | true => rfl
    | false =>
      refine absurd (List.any_eq_true.2 ⟨false, ?_, rfl⟩) hb
      have := mp_getD (okV im) [] true l 0 v hv
      rw [Nat.zero_add, show okV im v (l.getD v []) = false from hq] at this
      rw [← this, getD_at _ _ _ (by rw [mp_len]; exact hv)]
      exact List.getElem_mem _
theorem eqX_iff (x y : XE) : eqX x y = true ↔ x = y := by
  cases x; cases y; simp [eqX]
theorem eqXs_iff : ∀ (a b : List XE), eqXs a b = true ↔ a = b
  | [], [] => by simp [eqXs]
  | [], _ :: _ => by simp [eqXs]
  | _ :: _, [] => by simp [eqXs]
  | x :: r, y :: t => by simp [eqXs, eqX_iff, eqXs_iff r t]
theorem eqLs_iff : ∀ (a b : List (List XE)), eqLs a b = true ↔ a = b
  | [], [] => by simp [eqLs]
  | [], _ :: _ => by simp [eqLs]
  | _ :: _, [] => by simp [eqLs]
  | x :: r, y :: t => by simp [eqLs, eqXs_iff, eqLs_iff r t]
theorem dif_at {s t : Img} (hp : pairX s t = 0) (v : Nat) (hv : v < s.length) : (difL s t).getD v [] = canon (pd (s.getD v []) (t.getD v [])) (s.getD v []).length := by
  unfold difL
  rw [mp_getD _ [] [] s 0 v hv, Nat.zero_add]
theorem ned_len {s t : Img} {l : List (List XE)} (hp : pairX s t = 0) : (nedX s t l).length = s.length := by unfold nedX; rw [mp_len, difL_len]
theorem ned_at {s t : Img} {l : List (List XE)} (hp : pairX s t = 0) (v : Nat) (hv : v < s.length) : (nedX s t l).getD v [] = needF l v (canon (pd (s.getD v []) (t.getD v [])) (s.getD v []).length) := by
  unfold nedX
  rw [mp_getD _ [] [] _ 0 v (by rw [difL_len]; exact hv), Nat.zero_add, dif_at hp v hv]
theorem ned_iff {s t : Img} {l : List (List XE)} (hp : pairX s t = 0) (v : Nat) (hv : v < s.length) (j : Int) : MemX ((nedX s t l).getD v []) j ↔ 0 ≤ j ∧ j < ((s.getD v []).length : Int) ∧ pd (s.getD v []) (t.getD v []) j = true ∧ inL (l.getD v []) j = true := by
  have hs := sizes_le (pair_sizes hp).1 v hv
  rw [ned_at hp v hv]
  unfold needF
  rw [(canon_spec _ 4096).2.1 j, Bool.and_eq_true, inL_canon _ _ hs]
  constructor
  · rintro ⟨a, _, ⟨_, c, d⟩, e⟩; exact ⟨a, c, d, e⟩
  · rintro ⟨a, c, d, e⟩; exact ⟨a, by omega, ⟨a, c, d⟩, e⟩
theorem ned_in {s t : Img} {l : List (List XE)} (hp : pairX s t = 0) (v : Nat) (hv : v < s.length) : ∀ x ∈ (nedX s t l).getD v [], 0 ≤ x.f0 ∧ 0 < x.f1 ∧ x.f0 + x.f1 ≤ ((s.getD v []).length : Int) := by
  intro x hx
  have hc : ∀ x ∈ (nedX s t l).getD v [], 0 ≤ x.f0 ∧ 0 < x.f1 := by
    rw [ned_at hp v hv]; unfold needF
    intro x hx
    obtain ⟨a, b, _⟩ := canon_in _ _ x hx
    exact ⟨a, b⟩
  obtain ⟨a, b⟩ := hc x hx
  have := (ned_iff hp v hv (x.f0 + x.f1 - 1)).1 ⟨x, hx, by omega, by omega⟩
  exact ⟨a, b, by omega⟩
theorem ned_canon {s t : Img} {l : List (List XE)} (hp : pairX s t = 0) (v : Nat) (hv : v < s.length) : Canon 0 ((nedX s t l).getD v []) := by
  rw [ned_at hp v hv]; exact (canon_spec _ 4096).1
theorem ned_fits {s t : Img} {l : List (List XE)} (hp : pairX s t = 0) : fitsX s (nedX s t l) = 0 :=
  fitsX_of (ned_len hp) fun v hv => okC_canon _ 0 _ (ned_canon hp v (by rwa [ned_len hp] at hv)) (Int.le_refl _) fun x hx => (ned_in hp v (by rwa [ned_len hp] at hv) x hx).2.2
theorem ned_count {s t : Img} {l : List (List XE)} (hp : pairX s t = 0) (v : Nat) (hv : v < s.length) : countp (inL ((nedX s t l).getD v [])) 4096 = countp (fun j => pd (s.getD v []) (t.getD v []) j && inL (l.getD v []) j) (s.getD v []).length := by
  have hs := sizes_le (pair_sizes hp).1 v hv
  have hin : ∀ j, inL ((nedX s t l).getD v []) j = true ↔ 0 ≤ j ∧ j < ((s.getD v []).length : Int) ∧ pd (s.getD v []) (t.getD v []) j = true ∧ inL (l.getD v []) j = true := fun j => by
    rw [inL_mem _ (fun x hx => by obtain ⟨a, b, c⟩ := ned_in hp v hv x hx; exact ⟨a, b, by omega⟩)]
    exact ned_iff hp v hv j
  rw [countp_out _ _ 4096 hs (fun j hj => by
    cases h : inL ((nedX s t l).getD v []) j with
    | false => rfl
    | true => have := (hin j).1 h; omega)]
  refine countp_congr _ fun j h0 h1 => ?_
  cases h : inL ((nedX s t l).getD v []) j with
  | true => obtain ⟨_, _, a, b⟩ := (hin j).1 h; rw [a, b]; rfl
  | false =>
    cases ha : pd (s.getD v []) (t.getD v []) j with
    | false => rfl
    | true =>
      cases hb : inL (l.getD v []) j with
      | false => rfl
      | true => rw [(hin j).2 ⟨h0, h1, ha, hb⟩] at h; cases h
theorem ned_cost {s t : Img} {l : List (List XE)} (hp : pairX s t = 0) : costX (nedX s t l) = sumI (mp (fun v x => countp (fun j => pd x (t.getD v []) j && inL (l.getD v []) j) x.length) 0 s) := by
  have e : costX (nedX s t l) = sumI (mp (fun v x => countp (inL (needF l v (canon (pd x (t.getD v [])) x.length))) 4096) 0 s) := by
    unfold costX nedX difL
    rw [mp_comp, mp_comp]
  rw [e]
  congr 1
  refine mp_congr _ _ [] s 0 fun v hv => ?_
  rw [Nat.zero_add, ← ned_at hp v hv, ned_count hp v hv]
theorem all_split {s t : Img} {l : List (List XE)} (hp : pairX s t = 0) : allX s t = costX (nedX s t l) + misX s t l := by
  rw [ned_cost hp]
  refine sum_add _ _ _ [] s 0 fun v hv => ?_
  rw [Nat.zero_add]
  exact countp_split _ _ _
theorem volL_sum : ∀ (ls : List (List XE)) (k : Nat), sumI ((volL k ls).map fun p => p.2.f1) = sumI (mp (fun _ x => sumc x) k ls)
  | [], _ => rfl
  | x :: r, k => by
    have happ : ∀ (a b : List Int), sumI (a ++ b) = sumI a + sumI b := by
      intro a b
      induction a with
      | nil => simp [sumI]
      | cons y a ih => simp only [List.cons_append, sumI, ih]; omega
    have hrow : sumI (x.map fun e => e.f1) = sumc x := by
      unfold sumc
      induction x with
      | nil => rfl
      | cons y x ih => simp only [List.map_cons, sumI, List.sum_cons, ih]
    simp only [volL, List.map_append, List.map_map, mp, sumI, happ, volL_sum r (k + 1)]
    rw [← hrow]; rfl
theorem ned_sectors {s t : Img} {l : List (List XE)} (hp : pairX s t = 0) : sumI (((volL 0 (nedX s t l)).map (sliceX s)).map fun w => (w.f2.length : Int)) = costX (nedX s t l) := by
  have e : ((volL 0 (nedX s t l)).map (sliceX s)).map (fun w => (w.f2.length : Int)) = (volL 0 (nedX s t l)).map fun p => p.2.f1 := by
    rw [List.map_map]
    refine List.map_congr_left fun p hpm => ?_
    exact sliceX_len (fits_mem (ned_fits hp) p hpm)
  rw [e, volL_sum]
  unfold costX
  congr 1
  refine mp_congr _ _ [] _ 0 fun v hv => ?_
  rw [ned_len hp] at hv
  have hs := sizes_le (pair_sizes hp).1 v hv
  rw [← sumc_canon, canon_self _ (ned_canon hp v hv) (fun x hx => by have := (ned_in hp v hv x hx).2.2; omega)]
theorem l_in {s t : Img} {l : List (List XE)} (hp : pairX s t = 0) (hf : fitsX s l = 0) (v : Nat) (hv : v < s.length) : ∀ x ∈ l.getD v [], 0 ≤ x.f0 ∧ 0 < x.f1 ∧ x.f0 + x.f1 ≤ ((s.getD v []).length : Int) := fun x hx => by
  have := okC_mem _ _ _ (fitsX_at hf v (by rw [fits_len hf]; exact hv)) x hx
  exact ⟨this.2.1, this.1, this.2.2⟩
theorem l_iff {s t : Img} {l : List (List XE)} (hp : pairX s t = 0) (hf : fitsX s l = 0) (v : Nat) (hv : v < s.length) (j : Int) : inL (l.getD v []) j = true ↔ MemX (l.getD v []) j := by
  have hs := sizes_le (pair_sizes hp).1 v hv
  exact inL_mem _ (fun x hx => by obtain ⟨a, b, c⟩ := l_in hp hf v hv x hx; exact ⟨a, b, by omega⟩) j
theorem ned_le {s t : Img} {l : List (List XE)} (hp : pairX s t = 0) (hf : fitsX s l = 0) : costX (nedX s t l) ≤ costX l := by
  unfold costX
  refine sum_le _ _ [] [] _ l 0 (by rw [ned_len hp, fits_len hf]) fun v hv => ?_
  rw [ned_len hp] at hv
  have hs := sizes_le (pair_sizes hp).1 v hv
  refine countp_mono _ _ _ fun j _ _ h => ?_
  rw [inL_mem _ (fun x hx => by obtain ⟨a, b, c⟩ := ned_in hp v hv x hx; exact ⟨a, b, by omega⟩)] at h
  exact ((ned_iff hp v hv j).1 h).2.2.2
theorem mis_zero {s t : Img} {l : List (List XE)} (hp : pairX s t = 0) (hf : fitsX s l = 0) : misX s t l = 0 ↔ ∀ v, v < s.length → ∀ j : Int, 0 ≤ j → j < ((s.getD v []).length : Int) → pd (s.getD v []) (t.getD v []) j = true → inL (l.getD v []) j = true := by
  unfold misX
  rw [(sum_zero _ [] s 0 (fun v hv => (countp_le _ _).1)).1]
  refine ⟨fun h v hv j h0 h1 hpd => ?_, fun h v hv => ?_⟩
  · have := (countp_zero _ _).1 (h v hv) j h0 h1
    rw [Nat.zero_add, hpd] at this
    simpa using this
  · rw [Nat.zero_add]
    refine (countp_zero _ _).2 fun j h0 h1 => ?_
    cases hpd : pd (s.getD v []) (t.getD v []) j with
    | false => rfl
    | true => rw [h v hv j h0 h1 hpd]; rfl
theorem exact_iff {s t : Img} {l : List (List XE)} (hp : pairX s t = 0) (hf : fitsX s l = 0) : eqLs (difL s t) (nedX s t l) = true ↔ misX s t l = 0 := by
  rw [eqLs_iff, mis_zero hp hf]
  have hlen : (difL s t).length = (nedX s t l).length := by rw [difL_len, ned_len hp]
  constructor
  · intro h v hv j h0 h1 hpd
    have hm : MemX ((difL s t).getD v []) j := by rw [dif_at hp v hv]; exact ((canon_spec _ _).2.1 j).2 ⟨h0, h1, hpd⟩
    rw [h] at hm
    exact ((ned_iff hp v hv j).1 hm).2.2.2
  · intro h
    refine list_ext_getD [] _ _ hlen fun v hv => ?_
    rw [difL_len] at hv
    have hd := dif_at hp v hv
    refine Canon.unique (lo := 0) (lo' := 0) (by rw [hd]; exact (canon_spec _ _).1) (ned_canon hp v hv) fun j => ?_
    rw [ned_iff hp v hv j, hd, (canon_spec _ _).2.1 j]
    exact ⟨fun ⟨a, b, c⟩ => ⟨a, b, c, h v hv j a b c⟩, fun ⟨a, b, c, _⟩ => ⟨a, b, c⟩⟩
def imgA (s t : Img) (l : List (List XE)) : Img := ((volL 0 l).map (sliceX s)).foldl putW t
theorem img_app {s t : Img} (hp : pairX s t = 0) {l : List (List XE)} (hf : fitsX s l = 0) : applyX t ((volL 0 l).map (sliceX s)) = (imgA s t l, 0, 0) ∧ lens (imgA s t l) = lens s := by
  obtain ⟨hs, hl⟩ := pair_sizes hp
  obtain ⟨a, b⟩ := appG_all ((volL 0 l).map (sliceX s)) 0 t t rfl (fun w hw => by
    obtain ⟨p, hpm, rfl⟩ := List.mem_map.1 hw
    exact sliceX_fits hl.symm (fits_mem hf p hpm))
  refine ⟨?_, by unfold imgA; rw [b, ← hl]⟩
  unfold applyX
  rw [if_pos (by rw [← hl]; exact hs), a]; rfl
theorem img_at {s t : Img} (hp : pairX s t = 0) {l : List (List XE)} (hf : fitsX s l = 0) (v i : Nat) (hv : v < s.length) : (MemX (l.getD v []) (i : Int) → at2 (imgA s t l) v i = at2 s v i) ∧ (¬ MemX (l.getD v []) (i : Int) → at2 (imgA s t l) v i = at2 t v i) := by
  obtain ⟨hs, hl⟩ := pair_sizes hp
  have hc := volL_cov l 0 v i
  rw [Nat.sub_zero] at hc
  obtain ⟨a, b⟩ := at2_fold s (volL 0 l) t hl.symm (fun p hpm => fits_mem hf p hpm) v i hv
  have hlen := fits_len hf
  exact ⟨fun h => a (hc.2 ⟨Nat.zero_le _, by omega, h⟩), fun h => b (fun q => h (hc.1 q).2.2)⟩
theorem pd_at {s t : Img} (hp : pairX s t = 0) (v i : Nat) : pd (s.getD v []) (t.getD v []) (i : Int) = !eqS (at2 s v i) (at2 t v i) := by
  unfold pd at2; rw [Int.toNat_natCast]
theorem pd_false {s t : Img} (hp : pairX s t = 0) (v i : Nat) : pd (s.getD v []) (t.getD v []) (i : Int) = false ↔ at2 s v i = at2 t v i := by
  rw [pd_at hp, ← eqS_iff]; cases eqS (at2 s v i) (at2 t v i) <;> simp
theorem img_same {s t : Img} (hp : pairX s t = 0) {l : List (List XE)} (hf : fitsX s l = 0) : imgA s t l = imgA s t (nedX s t l) := by
  obtain ⟨_, h1⟩ := img_app hp hf
  obtain ⟨_, h2⟩ := img_app hp (ned_fits (l := l) hp)
  obtain ⟨hl, hvl⟩ := lens_vol h1
  refine img_ext (h1.trans h2.symm) fun v i hv hi => ?_
  rw [hl] at hv
  rw [hvl v (by omega)] at hi
  obtain ⟨a1, a2⟩ := img_at hp hf v i hv
  obtain ⟨b1, b2⟩ := img_at hp (ned_fits (l := l) hp) v i hv
  have hn := ned_iff (l := l) hp v hv (i : Int)
  by_cases h : MemX (l.getD v []) (i : Int)
  · by_cases h' : MemX ((nedX s t l).getD v []) (i : Int)
    · rw [a1 h, b1 h']
    · rw [a1 h, b2 h', ← pd_false hp]
      cases hq : pd (s.getD v []) (t.getD v []) (i : Int) with
      | false => rfl
      | true => exact absurd (hn.2 ⟨by omega, by omega, hq, (l_iff hp hf v hv _).2 h⟩) h'
  · rw [a2 h, b2 (fun h' => h ((l_iff hp hf v hv _).1 (hn.1 h').2.2.2))]
theorem img_eq {s t : Img} (hp : pairX s t = 0) {l : List (List XE)} (hf : fitsX s l = 0) : imgA s t l = s ↔ misX s t l = 0 := by
  obtain ⟨_, h1⟩ := img_app hp hf
  rw [mis_zero hp hf]
  constructor
  · intro h v hv j h0 h2 hpd
    obtain ⟨i, rfl⟩ : ∃ i : Nat, j = (i : Int) := ⟨j.toNat, by omega⟩
    obtain ⟨a1, a2⟩ := img_at hp hf v i hv
    rw [l_iff hp hf v hv]
    refine Decidable.byContradiction (dec := Classical.propDecidable _) fun hn => ?_
    have := a2 hn
    rw [h, ← pd_false hp, hpd] at this
    cases this
  · intro h
    refine img_ext h1 fun v i hv hi => ?_
    obtain ⟨hl, hvl⟩ := lens_vol h1
    rw [hl] at hv
    rw [hvl v (by omega)] at hi
    obtain ⟨a1, a2⟩ := img_at hp hf v i hv
    by_cases hm : MemX (l.getD v []) (i : Int)
    · exact a1 hm
    · rw [a2 hm]
      refine ((pd_false hp v i).1 ?_).symm
      cases hq : pd (s.getD v []) (t.getD v []) (i : Int) with
      | false => rfl
      | true => exact absurd ((l_iff hp hf v hv _).1 (h v hv i (by omega) (by omega) hq)) hm
end Go.Proofs.Ytoichhdbomcdaaa.Pq
end
