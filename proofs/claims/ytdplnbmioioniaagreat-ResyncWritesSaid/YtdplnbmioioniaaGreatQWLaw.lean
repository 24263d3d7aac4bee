/- The law standbylaw45.ResyncWrites returns true for every input, and its arguments read behind the call as they read before. No condition. -/
import Derived.Test.YtdplnbmioioniaaGreatQW7
import Derived.Below
import Derived.Carry
import Derived.ChangeOld
import Derived.OpenShut
import Derived.ProofKit
import Derived.SizedLaws
import Derived.Test.YtdplnbmioioniaaGreatRows
import Derived.WalkKit
namespace Go.Proofs.YtdplnbmioioniaaGreat.resyncWrites
open Go.ChangeShapes Go.WideShapes Go.ChangeAt Go.RowKit Go.Proofs.YtdplnbmioioniaaGreat.Pq Go.Proofs.YtdplnbmioioniaaGreatW.PrintWords
set_option linter.unusedVariables false
theorem own : ownKnob Tryz.prog.godebug = none := by kernel_rfl
theorem laidOut : laidOutB Tryz.prog = true := by kernel_rfl
set_option maxRecDepth 100000 in
theorem open_plan {H : Type} (enc : TypeId × Value → H) (w : World) (base n : Nat) (cs : Array Value) (y : DataW H × List MemPlace) (h : DataW.trod enc Tryz.prog w base (fun _ => true) true n 27 (Value.agg cs).cells.toList = some y) :
    ∃ b m t A c, ∃ l : List Int, cs = #[.int .i64 b, .int .i64 m, .int .i64 t, .slice A l.length c] ∧ l.length ≤ c ∧ Kd.C (Kd.int .i64) w A l.length l := by
  have hcs : (Value.agg cs).cells.toList = cs.toList := by simp [Value.cells]
  rw [hcs] at h
  obtain ⟨xs, k, _, _, hl, hx, hf⟩ := DataW.trod_struct Tryz.underlying27 h
  have hc : Tryz.prog.cellsOf 27 = 4 := by kernel_rfl
  have hi : Tryz.prog.cellsOf 3 = 1 := by kernel_rfl
  have hs : Tryz.prog.cellsOf 25 = 1 := by kernel_rfl
  rw [hc] at hl
  obtain ⟨u0, u1, u2, u3, hc4⟩ : ∃ u0 u1 u2 u3, cs.toList = [u0, u1, u2, u3] := by
    match cs.toList, hl with
    | [u0, u1, u2, u3], _ => exact ⟨u0, u1, u2, u3, rfl⟩
  rw [hc4] at hf
  match xs, hx with
  | [x0, x1, x2, x3], _ =>
    have g0 := hf 0 _ rfl
    have g1 := hf 1 _ rfl
    have g2 := hf 2 _ rfl
    have g3 := hf 3 _ rfl
    simp [hi, hs] at g0 g1 g2 g3
    obtain ⟨y0, e0, _⟩ := DataW.trod_int Tryz.underlying3 g0
    obtain ⟨y1, e1, _⟩ := DataW.trod_int Tryz.underlying3 g1
    obtain ⟨y2, e2, _⟩ := DataW.trod_int Tryz.underlying3 g2
    obtain ⟨l, ⟨A, c, e3, hlc, hC⟩, _⟩ := opens_slice 0 Tryz.underlying25 (by kernel_rfl) (opens_int Tryz.underlying3) enc w base k _ _ g3
    cases e0; cases e1; cases e2; cases e3
    exact ⟨y0, y1, y2, A, c, l, by apply Array.toList_inj.1; exact hc4, hlc, hC⟩
set_option maxRecDepth 100000 in
theorem lifted (os : Os) (started : os.Started) (H : Type) (enc : TypeId × Value → H) :
    ReturnsInHanded {} Tryz.checked os 3 .any (Rows.resyncWritesSpec.pre6 enc Tryz.prog Tryz.f3 Rows.resyncWritesRow.domain false) (Rows.resyncWritesSpec.post enc Tryz.prog Tryz.f3 false true false false) := by
  refine returnsInHanded_of_change_sized (C := Tryz.checked) own started (by kernel_rfl) Tryz.func3
    (ChangeSpec.witness6 (enc := enc) (C := Tryz.checked) false ⟨#[], #[.slice none 0 0, .slice none 0 0, .agg #[.int .i64 0, .int .i64 0, .int .i64 0, .slice none 0 0]], []⟩ 8 (by kernel_rfl) (by kernel_rfl) (by kernel_rfl) (by kernel_rfl)) ?_
  intro W base args ds gs before hval0 hW hcnd hsz0 _
  have hval : ∀ (j : Nat) t v, Tryz.f3.params[j]? = some t → args[j]? = some v → Value.okWide Tryz.prog W .any base t v := hval0
  have hW' := hW
  obtain ⟨p, q, hA0, hV, rfl, hfz, hnd⟩ := hW
  have hA : DataW.TrodAll enc Tryz.prog W 0 (fun _ => true) true Tryz.f3.params.toList args.toList ds p := hA0
  rw [Tryz.params3] at hA hval
  obtain ⟨v0, vs0, d0, ds0, p0, q0, hargs, rfl, rfl, h0, r0⟩ := trodAll_cons hA
  obtain ⟨v1, vs1, d1, ds1, p1, q1, rfl, rfl, rfl, h1, r1⟩ := trodAll_cons r0
  obtain ⟨v2, vs2, d2, ds2, p2, q2, rfl, rfl, rfl, h2, r2⟩ := trodAll_cons r1
  obtain ⟨rfl, rfl, rfl⟩ := trodAll_nil r2
  obtain rfl : args = #[v0, v1, v2] := by cases args; simp_all
  obtain ⟨rfl, rfl⟩ := trodVars_none hV
  obtain ⟨a0, len0, cap0, rfl⟩ := okWide_slice Tryz.underlying23 (hval 0 23 v0 rfl rfl)
  have k0 := h0
  have lt0 : ∀ x ∈ p0, x.block < W.heap.size := by obtain ⟨m, hm⟩ := k0; exact DataW.trod_lt m _ _ _ hm
  obtain ⟨fuel0, hf0⟩ := h0
  obtain ⟨l0, rfl, hc0, hr0, hm0, hok0⟩ := opens_arg (cap := cap0) Tryz.underlying23 (by kernel_rfl) (opens_slice 59 Tryz.underlying56 (by kernel_rfl) opens_sec) enc W 0 fuel0 hf0
  obtain ⟨a1, len1, cap1, rfl⟩ := okWide_slice Tryz.underlying24 (hval 1 24 v1 rfl rfl)
  have k1 := h1
  have lt1 : ∀ x ∈ p1, x.block < W.heap.size := by obtain ⟨m, hm⟩ := k1; exact DataW.trod_lt m _ _ _ hm
  obtain ⟨fuel1, hf1⟩ := h1
  obtain ⟨l1, rfl, hc1, hr1, hm1, hok1⟩ := opens_arg (cap := cap1) Tryz.underlying24 (by kernel_rfl) (opens_slice 61 Tryz.underlying57 (by kernel_rfl) opens_ext) enc W 0 fuel1 hf1
  obtain ⟨cs2, rfl, hsz2⟩ := okWide_struct Tryz.underlying27 (hval 2 27 v2 rfl rfl)
  have k2 := h2
  have lt2 : ∀ x ∈ p2, x.block < W.heap.size := by obtain ⟨m, hm⟩ := k2; exact DataW.trod_lt m _ _ _ hm
  obtain ⟨fuel2, hf2⟩ := h2
  obtain ⟨b2, n2, t2, A2, c2, l2, rfl, hc2, hr2⟩ := open_plan enc W 0 fuel2 cs2 _ hf2
  clear hA0 hval0 hsz0 hval hA
  obtain ⟨k, hk⟩ := (ev_law_writes l0 l1 b2 n2 t2 l2 (fun x hx e he => okX_of _ ((hok1 x hx).2 e he))).rounds
  refine (standbylaw45_ResyncWrites.calls k _ _ l0 _ _ l1 b2 n2 t2 _ _ l2 true W hr0 hc0 hr1 hc1 hr2 hc2 hk rfl).mono fun e W' ⟨he, bel⟩ => ?_
  subst he
  exact ⟨_, rfl, _, _, _, [], _, [], hW', trodAll_mk1 (shut_bool Tryz.underlying4 _), (trodAll_cons_mk (Below.trod laidOut (by kernel_rfl) (of_decide_eq_true (by kernel_rfl)) k0 bel lt0) (trodAll_cons_mk (Below.trod laidOut (by kernel_rfl) (of_decide_eq_true (by kernel_rfl)) k1 bel lt1) (trodAll_cons_mk (Below.trod laidOut (by kernel_rfl) (of_decide_eq_true (by kernel_rfl)) k2 bel lt2) trodAll_mk0))), rfl, bel.frame _, fun h => by cases h⟩
theorem over : Rows.resyncWritesRow.holds Tryz.pinned (OpenSpec.ofChange Rows.resyncWritesSpec) :=
  OpenClaim.holds_of_wide 3 Tryz.f3 rfl rfl rfl rfl rfl rfl rfl ⟨rfl, rfl, rfl, rfl, rfl⟩ rfl rfl rfl rfl rfl (by kernel_rfl) Tryz.func3 (by kernel_rfl)
    (of_decide_eq_true (by kernel_rfl)) (by unfold Func.isWrapper; first | (rw [if_pos (by decide +kernel)]; kernel_rfl) | (rw [if_neg (by decide +kernel)]; exact ⟨rfl, rfl⟩))
    (fun os started H enc _ => lifted os started H enc)
theorem proved : Rows.ResyncWritesSaid := over
#print axioms proved
end Go.Proofs.YtdplnbmioioniaaGreat.resyncWrites
namespace Go.Proofs.YtdplnbmioioniaaGreat
/-- The row, under a short name, for the claim. -/
theorem resyncWrites_holds : Rows.ResyncWritesSaid := resyncWrites.proved
end Go.Proofs.YtdplnbmioioniaaGreat
