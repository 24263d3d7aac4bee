import Derived.Test.YtdplnbmioioniaaGreatQW6
section
namespace Go.Proofs.YtdplnbmioioniaaGreat.Pq
open Go.RowKit Go.Proofs.YtdplnbmioioniaaGreatW.PrintWords Go.Proofs.YtdplnbmioioniaaGreatW.PrintLast Go.Proofs.YtdplnbmioioniaaGreatW.PrintMore
set_option linter.unusedVariables false
set_option linter.unusedSimpArgs false
theorem getD_at {α : Type} (l : List α) (z : α) (j : Nat) (h : j < l.length) : l.getD j z = l[j] := by rw [List.getD_eq_getElem?_getD, List.getElem?_eq_getElem h]; rfl
theorem rdS (l : List (List SS)) (j : Nat) : rd_L2 l (j : Int) = l.getD j [] := by unfold rd_L2; rw [Int.toNat_natCast]
theorem rdE (l : List (List XE)) (j : Nat) : rd_L7 l (j : Int) = l.getD j [] := by unfold rd_L7; rw [Int.toNat_natCast]
theorem rdX (l : List XE) (j : Nat) : rd_T61 l (j : Int) = l.getD j z61 := by unfold rd_T61; rw [Int.toNat_natCast]
theorem up1 (j n : Nat) (h : j < n) (hn : n ≤ 1048576) : wrap64 ((j : Int) + 1) = ((j + 1 : Nat) : Int) := by rw [w64 (by omega) (by omega)]; rfl
def fewI (im : Img) : Bool := decide (im.length ≤ 9) && im.all fun v => decide (v.length ≤ 24)
def fewL (l : List (List XE)) : Bool := (l.take 20).all (fun x => decide (x.length ≤ 40)) && decide (l.length ≤ 20)
theorem ev_few_loop (l : Img) (hl : l.length ≤ 9) : ∀ (n j : Nat), l.length - j = n → j ≤ l.length → Ev (fun k => standbyref07_Few.l0 k l (j : Int)) ((l.drop j).all fun v => decide (v.length ≤ 24))
  | 0, j, hn, hj => by
    rw [List.drop_eq_nil_of_le (by omega)]
    exact Ev.step (f := fun _ => some true) (fun k => by rw [standbyref07_Few.l0, if_neg (by omega)]) (Ev.now true)
  | n + 1, j, hn, hj => by
    have h1 : j < l.length := by omega
    have ih := ev_few_loop l hl n (j + 1) (by omega) (by omega)
    rw [List.drop_eq_getElem_cons h1, List.all_cons]
    by_cases e : l[j].length ≤ 24
    · rw [decide_eq_true e, Bool.true_and]
      exact Ev.step (fun k => by rw [standbyref07_Few.l0, if_pos (by omega), if_pos (by omega), rdS, getD_at _ _ _ h1, if_neg (by omega), up1 j l.length h1 (by omega)]) ih
    · rw [decide_eq_false e, Bool.false_and]
      exact Ev.step (f := fun _ => some false) (fun k => by rw [standbyref07_Few.l0, if_pos (by omega), if_pos (by omega), rdS, getD_at _ _ _ h1, if_pos (by omega)]) (Ev.now false)
theorem ev_few (l : Img) : Ev (fun k => standbyref07_Few.f k l) (fewI l) := by
  unfold fewI
  by_cases h : l.length ≤ 9
  · rw [decide_eq_true h, Bool.true_and]
    exact Ev.congr (fun k => by unfold standbyref07_Few.f; rw [if_neg (by omega)]; rfl) (ev_few_loop l h l.length 0 (by omega) (by omega))
  · rw [decide_eq_false h, Bool.false_and]
    exact Ev.congr (f := fun _ => some false) (fun k => by unfold standbyref07_Few.f; rw [if_pos (by omega)]) (Ev.now false)
theorem ev_fewl_loop (l : List (List XE)) : ∀ (n j : Nat), 20 - j = n → j ≤ l.length → j ≤ 20 → Ev (fun k => standbyref45_FewLists.l0 k l (j : Int)) (((l.take 20).drop j).all (fun x => decide (x.length ≤ 40)) && decide (l.length ≤ 20))
  | n, j, hn, hj, h20 => by
    by_cases h1 : j < l.length ∧ j < 20
    · have ht : j < (l.take 20).length := by rw [List.length_take]; omega
      rw [List.drop_eq_getElem_cons ht, List.all_cons, List.getElem_take]
      by_cases e : l[j].length ≤ 40
      · rw [decide_eq_true e, Bool.true_and]
        have ih := ev_fewl_loop l (n - 1) (j + 1) (by omega) (by omega) (by omega)
        refine Ev.step (f := fun k => standbyref45_FewLists.j1 k l (j : Int) true) (fun k => by rw [standbyref45_FewLists.l0, if_pos (by omega), decide_eq_true (by omega)]) ?_
        exact Ev.step (fun k => by rw [standbyref45_FewLists.j1, if_pos rfl, if_pos (by omega), if_pos (by omega), rdE, getD_at _ _ _ h1.1, if_neg (by omega), up1 j 20 h1.2 (by omega)]) ih
      · rw [decide_eq_false e, Bool.false_and, Bool.false_and]
        refine Ev.step (f := fun k => standbyref45_FewLists.j1 k l (j : Int) true) (fun k => by rw [standbyref45_FewLists.l0, if_pos (by omega), decide_eq_true (by omega)]) ?_
        exact Ev.step (f := fun _ => some false) (fun k => by rw [standbyref45_FewLists.j1, if_pos rfl, if_pos (by omega), if_pos (by omega), rdE, getD_at _ _ _ h1.1, if_pos (by omega)]) (Ev.now false)
    · rw [List.drop_eq_nil_of_le (by rw [List.length_take]; omega), List.all_nil, Bool.true_and]
      refine Ev.step (f := fun k => standbyref45_FewLists.j1 k l (j : Int) false) (fun k => ?_) (Ev.step (f := fun _ => some (decide (l.length ≤ 20))) (fun k => ?_) (Ev.now _))
      · rw [standbyref45_FewLists.l0]
        by_cases h2 : j < l.length
        · rw [if_pos (by omega), decide_eq_false (by omega)]
        · rw [if_neg (by omega)]
      · rw [standbyref45_FewLists.j1, if_neg (by simp)]
        exact congrArg some (decide_eq_decide.2 (by omega))
termination_by n => n
theorem ev_fewl (l : List (List XE)) : Ev (fun k => standbyref45_FewLists.f k l) (fewL l) := ev_fewl_loop l 20 0 rfl (by omega) (by omega)
theorem fewL_le {l : List (List XE)} (h : fewL l = true) : l.length ≤ 20 ∧ ∀ x ∈ l, x.length ≤ 40 := by
  unfold fewL at h
  rw [Bool.and_eq_true, decide_eq_true_eq, List.all_eq_true] at h
  refine ⟨h.2, fun x hx => ?_⟩
  rw [List.take_of_length_le h.2] at h
  exact of_decide_eq_true (h.1 x hx)
theorem fewI_le {l : Img} (h : fewI l = true) : l.length ≤ 9 ∧ ∀ x ∈ l, x.length ≤ 24 := by
  unfold fewI at h
  rw [Bool.and_eq_true, decide_eq_true_eq, List.all_eq_true] at h
  exact ⟨h.1, fun x hx => of_decide_eq_true (h.2 x hx)⟩
theorem ev_sizes_loop (l : List Int) (hl : l.length ≤ 1048576) : ∀ (n j : Nat), l.length - j = n → j ≤ l.length → Ev (fun k => standbyref07_Sizes.l0 k l (j : Int)) (if (l.drop j).any badSize then 2 else 0)
  | 0, j, hn, hj => by
    rw [List.drop_eq_nil_of_le (by omega)]
    exact Ev.step (f := fun _ => some 0) (fun k => by rw [standbyref07_Sizes.l0, if_neg (by omega)]) (Ev.now 0)
  | n + 1, j, hn, hj => by
    have h1 : j < l.length := by omega
    have hrd : rd l (j : Int) = l[j] := by unfold rd; rw [Int.toNat_natCast, List.getD_eq_getElem?_getD, List.getElem?_eq_getElem h1]; rfl
    have ih := ev_sizes_loop l hl n (j + 1) (by omega) (by omega)
    rw [List.drop_eq_getElem_cons h1, List.any_cons]
    have hunf : ∀ k, standbyref07_Sizes.l0 (k + 1) l (j : Int) = (if l[j] < 1 then some 2 else if l[j] > 4096 then some 2 else standbyref07_Sizes.l0 k l ((j + 1 : Nat) : Int)) := fun k => by
      rw [standbyref07_Sizes.l0, if_pos (by omega), if_pos (by omega), hrd, up1 j l.length h1 hl]
    unfold badSize at *
    by_cases e : l[j] < 1
    · rw [decide_eq_true e]
      exact Ev.step (f := fun _ => some 2) (fun k => by rw [hunf, if_pos e]) (Ev.now 2)
    · by_cases e2 : 4096 < l[j]
      · rw [decide_eq_true e2, Bool.or_true]
        exact Ev.step (f := fun _ => some 2) (fun k => by rw [hunf, if_neg e, if_pos e2]) (Ev.now 2)
      · rw [decide_eq_false e, decide_eq_false e2, Bool.or_false, Bool.false_or]
        exact Ev.step (fun k => by rw [hunf, if_neg e, if_neg e2]) ih
theorem ev_sizes (l : List Int) (hl : l.length ≤ 1048576) : Ev (fun k => standbyref07_Sizes.f k l) (sizesErr l) := by
  unfold sizesErr
  by_cases h : l.length < 1 ∨ 8 < l.length
  · rw [if_pos h]
    refine Ev.congr (f := fun k => standbyref07_Sizes.j0 k l true) (fun k => ?_) (Ev.step (f := fun _ => some 6) (fun k => by rw [standbyref07_Sizes.j0, if_pos rfl]) (Ev.now 6))
    unfold standbyref07_Sizes.f
    by_cases h2 : l.length < 1
    · rw [if_pos (by omega)]
    · rw [if_neg (by omega), decide_eq_true (by omega)]
  · rw [if_neg h]
    refine Ev.congr (f := fun k => standbyref07_Sizes.j0 k l false) (fun k => ?_) (Ev.step (f := fun k => standbyref07_Sizes.l0 k l ((0 : Nat) : Int)) (fun k => by rw [standbyref07_Sizes.j0, if_neg (by simp)]; rfl) (ev_sizes_loop l hl l.length 0 (by omega) (by omega)))
    unfold standbyref07_Sizes.f
    rw [if_neg (by omega), decide_eq_false (by omega)]
theorem ev_sizesof_loop (l : Img) (hl : l.length ≤ 1048576) : ∀ (n j : Nat), l.length - j = n → j ≤ l.length → Ev (fun k => standbyref07_SizesOf.l0 k l (lens (l.take j)) (j : Int)) (lens l)
  | 0, j, hn, hj => by
    rw [List.take_of_length_le (by omega)]
    exact Ev.step (f := fun _ => some (lens l)) (fun k => by rw [standbyref07_SizesOf.l0, if_neg (by omega)]) (Ev.now _)
  | n + 1, j, hn, hj => by
    have h1 : j < l.length := by omega
    have ih := ev_sizesof_loop l hl n (j + 1) (by omega) (by omega)
    refine Ev.step (fun k => ?_) ih
    have hx : lens (l.take (j + 1)) = lens (l.take j) ++ [((l.getD j []).length : Int)] := by
      rw [getD_at _ _ _ h1, List.take_succ_eq_append_getElem h1]; unfold lens; rw [List.map_append]; rfl
    rw [standbyref07_SizesOf.l0, if_pos (by omega), if_pos (by omega), if_pos (by rw [lens_len, List.length_take]; omega), rdS, up1 j l.length h1 hl, hx]
theorem ev_rcheck (l : Img) (hl : l.length ≤ 1048576) : Ev (fun k => standbyref07_Check.f k l) (sizesErr (lens l)) := by
  refine Ev.bind (ev_sizesof_loop l hl l.length 0 (by omega) (by omega)) (Ev.bind (ev_sizes _ (by rw [lens_len]; exact hl)) (Ev.now _))
end Go.Proofs.YtdplnbmioioniaaGreat.Pq
end
section
namespace Go.Proofs.YtdplnbmioioniaaGreat.Pq
open Go.RowKit Go.Proofs.YtdplnbmioioniaaGreatW.PrintWords Go.Proofs.YtdplnbmioioniaaGreatW.PrintLast Go.Proofs.YtdplnbmioioniaaGreatW.PrintMore
set_option linter.unusedVariables false
set_option linter.unusedSimpArgs false
theorem ev_within (s c n : Int) (h0 : 0 ≤ n) (h1 : n ≤ 4096) (hc : 0 < c) : standbyref01_within.f s c n = some (decide (0 ≤ s ∧ c ≤ n - s)) := by
  unfold standbyref01_within.f
  by_cases a : s ≥ 0
  · rw [if_pos a]
    by_cases b : c ≤ n
    · rw [if_pos b, w64 (by omega) (by omega)]
      exact congrArg some (decide_eq_decide.2 (by omega))
    · rw [if_neg b, decide_eq_false (by omega)]
  · rw [if_neg a, decide_eq_false (by omega)]
theorem ev_rlcheck_loop (n : Int) (hn0 : 0 ≤ n) (hn1 : n ≤ 4096) (l : List XE) (hl : l.length ≤ 1048576) : ∀ (m j : Nat) (en : Int), l.length - j = m → j ≤ l.length → -2 ≤ en → en ≤ 4096 →
    ∃ c, Ev (fun k => standbyref01_Check.l0 k l n en (j : Int)) c ∧ (c = 0 ↔ okC n (en + 2) (l.drop j) = true)
  | 0, j, en, hm, hj, h0, h1 => by
    refine ⟨0, Ev.step (f := fun _ => some 0) (fun k => ?_) (Ev.now 0), ?_⟩
    · rw [standbyref01_Check.l0, if_neg (by omega)]
    · rw [List.drop_eq_nil_of_le (by omega)]; simp [okC]
  | m + 1, j, en, hm, hj, h0, h1 => by
    have hlt : j < l.length := by omega
    rw [okC_drop n (en + 2) l j hlt]
    have ih := fun en' => ev_rlcheck_loop n hn0 hn1 l hl m (j + 1) en' (by omega) (by omega)
    have hunf : ∀ k, standbyref01_Check.l0 (k + 1) l n en (j : Int) = (if (l.getD j z61).f1 ≤ 0 then (some 1) else ((standbyref01_within.f ((l.getD j z61).f0) ((l.getD j z61).f1) n).bind fun t => (if t = true then (if ((l.getD j z61).f0) < en + 2 then (some 3) else (standbyref01_Check.l0 k l n (wrap64 ((wrap64 (((l.getD j z61).f0) + ((l.getD j z61).f1))) - 1)) ((j + 1 : Nat) : Int))) else (some 2)))) := fun k => by
      rw [standbyref01_Check.l0, if_pos (by omega), if_pos (by omega), rdX, up1 j l.length hlt hl, w64 (n := en + 2) (by omega) (by omega)]
    generalize l.getD j z61 = x at hunf ⊢
    by_cases c1 : x.f1 ≤ 0
    · refine ⟨1, Ev.step (f := fun _ => some 1) (fun k => by rw [hunf, if_pos c1]) (Ev.now 1), ?_⟩
      rw [show decide (0 < x.f1 ∧ 0 ≤ x.f0 ∧ x.f1 ≤ n - x.f0 ∧ en + 2 ≤ x.f0) = false from decide_eq_false (by omega)]; simp
    have hw := ev_within x.f0 x.f1 n hn0 hn1 (by omega)
    by_cases c2 : 0 ≤ x.f0 ∧ x.f1 ≤ n - x.f0
    · rw [decide_eq_true c2] at hw
      by_cases c3 : x.f0 < en + 2
      · refine ⟨3, Ev.step (f := fun _ => some 3) (fun k => by rw [hunf, if_neg c1, hw, Option.bind_some, if_pos rfl, if_pos c3]) (Ev.now 3), ?_⟩
        rw [show decide (0 < x.f1 ∧ 0 ≤ x.f0 ∧ x.f1 ≤ n - x.f0 ∧ en + 2 ≤ x.f0) = false from decide_eq_false (by omega)]; simp
      · obtain ⟨c, hc, hi⟩ := ih (x.f0 + x.f1 - 1) (by omega) (by omega)
        refine ⟨c, Ev.step (fun k => by rw [hunf, if_neg c1, hw, Option.bind_some, if_pos rfl, if_neg c3, w64 (n := x.f0 + x.f1) (by omega) (by omega), w64 (n := x.f0 + x.f1 - 1) (by omega) (by omega)]) hc, hi.trans ?_⟩
        rw [show decide (0 < x.f1 ∧ 0 ≤ x.f0 ∧ x.f1 ≤ n - x.f0 ∧ en + 2 ≤ x.f0) = true from decide_eq_true (by omega), Bool.true_and, show x.f0 + x.f1 - 1 + 2 = x.f0 + x.f1 + 1 by omega]
    · rw [decide_eq_false c2] at hw
      refine ⟨2, Ev.step (f := fun _ => some 2) (fun k => by rw [hunf, if_neg c1, hw, Option.bind_some, if_neg (by simp)]) (Ev.now 2), ?_⟩
      rw [show decide (0 < x.f1 ∧ 0 ≤ x.f0 ∧ x.f1 ≤ n - x.f0 ∧ en + 2 ≤ x.f0) = false from decide_eq_false (by omega)]; simp
theorem ev_rlcheck (n : Int) (hn0 : 0 ≤ n) (hn1 : n ≤ 4096) (l : List XE) (hl : l.length ≤ 1048576) : ∃ c, Ev (fun k => standbyref01_Check.f k l n) c ∧ (c = 0 ↔ okC n 0 l = true) := by
  obtain ⟨c, hc, hi⟩ := ev_rlcheck_loop n hn0 hn1 l hl l.length 0 (-2) (by omega) (by omega) (by omega) (by omega)
  exact ⟨c, Ev.congr (f := fun k => standbyref01_Check.j0 k l n false) (fun k => by unfold standbyref01_Check.f; rw [if_neg (by omega), decide_eq_false (by omega)]) (Ev.step (f := fun k => standbyref01_Check.l0 k l n (-2) ((0 : Nat) : Int)) (fun k => by rw [standbyref01_Check.j0, if_neg (by simp)]; rfl) hc), hi⟩
theorem ev_rfit_loop (im : Img) (l : List (List XE)) (hl : l.length ≤ 1048576) (hll : l.length = im.length) (hx : ∀ x ∈ l, x.length ≤ 1048576) (hs : ∀ i, i < im.length → (im.getD i []).length ≤ 4096) : ∀ (n j : Nat), l.length - j = n → j ≤ l.length → Ev (fun k => standbyref45_Fit.l0 k im l (j : Int)) (if (mp (okV im) j (l.drop j)).any (fun b => !b) then 3 else 0)
  | 0, j, hn, hj => by
    rw [List.drop_eq_nil_of_le (by omega)]
    exact Ev.step (f := fun _ => some 0) (fun k => by rw [standbyref45_Fit.l0, if_neg (by omega)]) (Ev.now 0)
  | n + 1, j, hn, hj => by
    have h1 : j < l.length := by omega
    have ih := ev_rfit_loop im l hl hll hx hs n (j + 1) (by omega) (by omega)
    rw [mp_drop _ l [] j h1, List.any_cons]
    have hlen := hs j (by omega)
    obtain ⟨c, hc, hi⟩ := ev_rlcheck ((im.getD j []).length : Int) (by omega) (by omega) (l.getD j []) (by rw [getD_at _ _ _ h1]; exact hx _ (List.getElem_mem h1))
    refine Ev.step (f := fun k => (standbyref01_Check.f k (l.getD j []) ((im.getD j []).length : Int)).bind fun t => (if t = 0 then (standbyref45_Fit.l0 k im l ((j + 1 : Nat) : Int)) else (some 3))) (fun k => by rw [standbyref45_Fit.l0, if_pos (by omega), if_pos (by omega), if_pos (by omega), rdE, rdS, up1 j l.length h1 hl]) (Ev.bind hc ?_)
    have hv : okV im j (l.getD j []) = okC ((im.getD j []).length : Int) 0 (l.getD j []) := rfl
    rw [hv]
    by_cases e : c = 0
    · rw [hi.1 e]
      simp only [e, if_true, Bool.not_true, Bool.false_or]
      exact ih
    · rw [show okC ((im.getD j []).length : Int) 0 (l.getD j []) = false from by cases h : okC ((im.getD j []).length : Int) 0 (l.getD j []) with | false => rfl | true => exact absurd (hi.2 h) e]
      simp only [e, if_false, Bool.not_false, Bool.true_or, if_true]
      exact Ev.now 3
theorem ev_rfit (im : Img) (l : List (List XE)) (hl : l.length ≤ 1048576) (hx : ∀ x ∈ l, x.length ≤ 1048576) (hs : ∀ i, i < im.length → (im.getD i []).length ≤ 4096) : Ev (fun k => standbyref45_Fit.f k im l) (fitsX im l) := by
  unfold fitsX
  by_cases h : l.length = im.length
  · rw [if_pos h]
    exact Ev.congr (fun k => by unfold standbyref45_Fit.f; rw [if_pos (by omega)]; rfl) (ev_rfit_loop im l hl h hx hs l.length 0 (by omega) (by omega))
  · rw [if_neg h]
    exact Ev.congr (f := fun _ => some 6) (fun k => by unfold standbyref45_Fit.f; rw [if_neg (by omega)]) (Ev.now 6)
end Go.Proofs.YtdplnbmioioniaaGreat.Pq
end
section
namespace Go.Proofs.YtdplnbmioioniaaGreat.Pq
open Go.RowKit Go.Proofs.YtdplnbmioioniaaGreatW.PrintWords Go.Proofs.YtdplnbmioioniaaGreatW.PrintLast Go.Proofs.YtdplnbmioioniaaGreatW.PrintMore
set_option linter.unusedVariables false
set_option linter.unusedSimpArgs false
theorem ev_samex_in (x : List (List XE)) (hx : x.length ≤ 1048576) (hr : ∀ r ∈ x, r.length ≤ 1048576) (j : Nat) (hj : j < x.length) (hnext : Ev (fun k => standbyref36_SameExtents.l0 k x x ((j + 1 : Nat) : Int)) true) : ∀ (n i : Nat), (x[j]).length - i = n → i ≤ (x[j]).length → Ev (fun k => standbyref36_SameExtents.l1 k x x (j : Int) (i : Int)) true
  | 0, i, hn, hi => Ev.step (fun k => by rw [standbyref36_SameExtents.l1, if_pos (by omega), if_pos (by omega), rdE, getD_at _ _ _ hj, if_neg (by omega), up1 j x.length hj hx]) hnext
  | n + 1, i, hn, hi => by
    have h1 : i < (x[j]).length := by omega
    have ih := ev_samex_in x hx hr j hj hnext n (i + 1) (by omega) (by omega)
    exact Ev.step (fun k => by rw [standbyref36_SameExtents.l1, if_pos (by omega), if_pos (by omega), rdE, getD_at _ _ _ hj, if_pos (by omega), if_pos (by omega), if_pos (by omega), if_pos (by omega), beq_self_eq_true, beq_self_eq_true, if_neg (by simp), up1 i (x[j]).length h1 (hr _ (List.getElem_mem hj))]) ih
theorem ev_samex_loop (x : List (List XE)) (hx : x.length ≤ 1048576) (hr : ∀ r ∈ x, r.length ≤ 1048576) : ∀ (n j : Nat), x.length - j = n → j ≤ x.length → Ev (fun k => standbyref36_SameExtents.l0 k x x (j : Int)) true
  | 0, j, hn, hj => Ev.step (f := fun _ => some true) (fun k => by rw [standbyref36_SameExtents.l0, if_neg (by omega)]) (Ev.now true)
  | n + 1, j, hn, hj => by
    have h1 : j < x.length := by omega
    have ih := ev_samex_loop x hx hr n (j + 1) (by omega) (by omega)
    exact Ev.step (f := fun k => standbyref36_SameExtents.l1 k x x (j : Int) ((0 : Nat) : Int)) (fun k => by rw [standbyref36_SameExtents.l0, if_pos (by omega), if_pos (by omega), if_pos (by omega), if_pos rfl]; rfl) (ev_samex_in x hx hr j h1 ih _ 0 rfl (by omega))
theorem ev_samex (x : List (List XE)) (hx : x.length ≤ 1048576) (hr : ∀ r ∈ x, r.length ≤ 1048576) : Ev (fun k => standbyref36_SameExtents.f k x x) true :=
  Ev.congr (fun k => by unfold standbyref36_SameExtents.f; rw [if_pos rfl]; rfl) (ev_samex_loop x hx hr x.length 0 (by omega) (by omega))
theorem ev_samesec (x : List SS) (hx : x.length ≤ 1048576) : ∀ (n j : Nat), x.length - j = n → j ≤ x.length → Ev (fun k => standbyref03_SameSectors.l0 k x x (j : Int)) true
  | 0, j, hn, hj => Ev.step (f := fun _ => some true) (fun k => by rw [standbyref03_SameSectors.l0, if_neg (by omega)]) (Ev.now true)
  | n + 1, j, hn, hj => by
    have h1 : j < x.length := by omega
    have ih := ev_samesec x hx n (j + 1) (by omega) (by omega)
    exact Ev.step (fun k => by rw [standbyref03_SameSectors.l0, if_pos (by omega), if_pos (by omega), if_pos (by omega)]; simp only [beq_self_eq_true, Bool.not_true, Bool.or_false, if_false, Bool.false_eq_true, up1 j x.length h1 hx]) ih
theorem ev_samewr_loop (x : List S66) (hx : x.length ≤ 1048576) (hr : ∀ r ∈ x, r.f2.length ≤ 1048576) : ∀ (n j : Nat), x.length - j = n → j ≤ x.length → Ev (fun k => standbyref03_SameWrites.l0 k x x (j : Int)) true
  | 0, j, hn, hj => Ev.step (f := fun _ => some true) (fun k => by rw [standbyref03_SameWrites.l0, if_neg (by omega)]) (Ev.now true)
  | n + 1, j, hn, hj => by
    have h1 : j < x.length := by omega
    have ih := ev_samewr_loop x hx hr n (j + 1) (by omega) (by omega)
    have hrd : rd_T66 x (j : Int) = x[j] := by unfold rd_T66; rw [Int.toNat_natCast, getD_at _ _ _ h1]
    have hsec : Ev (fun k => standbyref03_SameSectors.f k (x[j]).f2 (x[j]).f2) true := Ev.congr (fun k => by unfold standbyref03_SameSectors.f; rw [if_pos rfl]; rfl) (ev_samesec (x[j]).f2 (hr _ (List.getElem_mem h1)) _ 0 rfl (by omega))
    refine Ev.step (f := fun k => (standbyref03_SameSectors.f k (x[j]).f2 (x[j]).f2).bind fun t => (if t = true then standbyref03_SameWrites.l0 k x x ((j + 1 : Nat) : Int) else some false)) (fun k => by rw [standbyref03_SameWrites.l0, if_pos (by omega), if_pos (by omega), if_pos (by omega), if_pos rfl, if_pos rfl, hrd, up1 j x.length h1 hx]) (Ev.bind hsec ?_)
    simp only [if_true]
    exact ih
theorem ev_samewr (x : List S66) (hx : x.length ≤ 1048576) (hr : ∀ r ∈ x, r.f2.length ≤ 1048576) : Ev (fun k => standbyref22_Same.f k x x) true :=
  Ev.bind (Ev.congr (fun k => by unfold standbyref03_SameWrites.f; rw [if_pos rfl]; rfl) (ev_samewr_loop x hx hr x.length 0 (by omega) (by omega))) (Ev.now true)
end Go.Proofs.YtdplnbmioioniaaGreat.Pq
end
section
namespace Go.Proofs.YtdplnbmioioniaaGreat.Pq
open Go.RowKit Go.Proofs.YtdplnbmioioniaaGreatW.PrintWords Go.Proofs.YtdplnbmioioniaaGreatW.PrintLast Go.Proofs.YtdplnbmioioniaaGreatW.PrintMore
set_option linter.unusedVariables false
set_option linter.unusedSimpArgs false
theorem canon_low : ∀ (l : List XE) (lo : Int), Canon lo l → ∀ x ∈ l, lo ≤ x.f0 ∧ 0 < x.f1
  | [], _, _, _, h => by cases h
  | y :: r, lo, h, x, hx => by
    rcases List.mem_cons.1 hx with rfl | hx
    · exact ⟨h.1, h.2.1⟩
    · obtain ⟨a, b⟩ := canon_low r _ h.2.2 x hx
      exact ⟨by have := h.1; have := h.2.1; omega, b⟩
theorem inL_mem (l : List XE) (h : ∀ x ∈ l, 0 ≤ x.f0 ∧ 0 < x.f1 ∧ x.f0 + x.f1 ≤ 4096) (i : Int) : inL l i = true ↔ MemX l i := by
  unfold inL MemX
  rw [List.any_eq_true]
  constructor
  · rintro ⟨x, hx, hi⟩
    obtain ⟨a, b, c⟩ := h x hx
    obtain ⟨_, p, q⟩ := (inX_iff x i).1 hi
    refine ⟨x, hx, ?_, ?_⟩
    · unfold mx at p; split at p <;> omega
    · unfold mn at q; split at q <;> omega
  · rintro ⟨x, hx, hi, hj⟩
    obtain ⟨a, b, c⟩ := h x hx
    refine ⟨x, hx, (inX_iff x i).2 ⟨b, ?_, ?_⟩⟩
    · unfold mx; split <;> omega
    · unfold mn; split <;> omega
theorem canon_self (l : List XE) (hc : Canon 0 l) (h : ∀ x ∈ l, x.f0 + x.f1 ≤ 4096) : canon (inL l) 4096 = l := by
  have h' : ∀ x ∈ l, 0 ≤ x.f0 ∧ 0 < x.f1 ∧ x.f0 + x.f1 ≤ 4096 := fun x hx => ⟨(canon_low l 0 hc x hx).1, (canon_low l 0 hc x hx).2, h x hx⟩
  refine (eq_canon hc (inL l) 4096 fun j => ?_).symm
  rw [inL_mem l h' j]
  constructor
  · rintro ⟨x, hx, a, b⟩
    obtain ⟨p, q, r⟩ := h' x hx
    exact ⟨by omega, by omega, x, hx, a, b⟩
  · exact fun h => h.2.2
abbrev srcA : Img := [[⟨1, 0, 0, 0, 0, 0, 0, 0⟩, ⟨2, 0, 0, 0, 0, 0, 0, 0⟩, ⟨0, 0, 0, 0, 0, 0, 0, 0⟩, ⟨0, 0, 0, 0, 0, 0, 0, 0⟩, ⟨3, 0, 0, 0, 0, 0, 0, 0⟩]]
abbrev tgtA : Img := [[⟨0, 0, 0, 0, 0, 0, 0, 0⟩, ⟨2, 0, 0, 0, 0, 0, 0, 0⟩, ⟨0, 0, 0, 0, 0, 0, 0, 0⟩, ⟨0, 0, 0, 0, 0, 0, 0, 0⟩, ⟨0, 0, 0, 0, 0, 0, 0, 0⟩]]
abbrev lA : List (List XE) := [[⟨0, 2⟩, ⟨4, 1⟩]]
abbrev nA : List (List XE) := [[⟨0, 1⟩, ⟨4, 1⟩]]
abbrev wA : List S66 := [⟨0, 0, [⟨1, 0, 0, 0, 0, 0, 0, 0⟩, ⟨2, 0, 0, 0, 0, 0, 0, 0⟩]⟩, ⟨0, 4, [⟨3, 0, 0, 0, 0, 0, 0, 0⟩]⟩]
theorem okA : okLs lA := by decide
theorem okB : okLs nA := by decide
theorem awake_w : resync_Writes.f srcA lA = some (wA, 0) := by
  unfold resync_Writes.f
  rw [if_pos ⟨by decide, okA⟩]
  rfl
theorem awake_pair : pairX srcA tgtA = 0 := rfl
theorem awake_fit : fitsX srcA lA = 0 := rfl
theorem awake_fit2 : fitsX srcA nA = 0 := rfl
theorem awake_dif : difL srcA tgtA = nA := rfl
theorem awake_inter : canon (fun i => inL [⟨0, 1⟩, ⟨4, 1⟩] i && inL [⟨0, 2⟩, ⟨4, 1⟩] i) 4096 = [⟨0, 1⟩, ⟨4, 1⟩] := by
  refine (eq_canon (lo := 0) (l := [⟨0, 1⟩, ⟨4, 1⟩]) ⟨by decide, by decide, by decide, by decide, trivial⟩ _ 4096 fun j => ?_).symm
  rw [Bool.and_eq_true, inL_mem _ (by decide), inL_mem _ (by decide)]
  simp only [memx_cons, memx_nil, hasX, or_false]
  omega
theorem awake_n : neededX srcA tgtA lA = (nA, 0) := by
  unfold neededX
  rw [if_pos awake_pair, if_pos awake_fit, awake_dif]
  have : mp (needF lA) 0 nA = [needF lA 0 [⟨0, 1⟩, ⟨4, 1⟩]] := rfl
  rw [this, show needF lA 0 [⟨0, 1⟩, ⟨4, 1⟩] = [⟨0, 1⟩, ⟨4, 1⟩] from awake_inter]
theorem awake_x : exactX srcA tgtA nA = (true, 0) := by
  unfold exactX
  rw [show (neededX srcA tgtA nA).2 = 0 from by unfold neededX; rw [if_pos awake_pair, if_pos awake_fit2], if_pos rfl, awake_dif]
  rfl
theorem awake_y : exactX srcA tgtA lA = (false, 0) := by
  unfold exactX
  rw [awake_n, if_pos rfl, awake_dif]
  rfl
theorem awake_c (l : List XE) (hc : Canon 0 l) (h : ∀ x ∈ l, x.f0 + x.f1 ≤ 4096) : costX [l] = sumc l := by
  have : costX [l] = countp (inL l) 4096 + 0 := rfl
  rw [this, ← sumc_canon, canon_self l hc h, Int.add_zero]
theorem ev_awake : Ev (fun k => standbylaw45_awake.f k) true := by
  have e2 : resync_Needed.f srcA tgtA lA = some (nA, 0) := by unfold resync_Needed.f; rw [if_pos ⟨by decide, by decide, okA⟩, awake_n]
  have e3 : resync_Exact.f srcA tgtA nA = some (true, 0) := by unfold resync_Exact.f; rw [if_pos ⟨by decide, by decide, okB⟩, awake_x]
  have e4 : resync_Exact.f srcA tgtA lA = some (false, 0) := by unfold resync_Exact.f; rw [if_pos ⟨by decide, by decide, okA⟩, awake_y]
  have e5 : resync_Cost.f lA = some 3 := by unfold resync_Cost.f; rw [if_pos okA, awake_c [⟨0, 2⟩, ⟨4, 1⟩] ⟨by decide, by decide, by decide, by decide, trivial⟩ (by decide)]; rfl
  have e6 : resync_Cost.f nA = some 2 := by unfold resync_Cost.f; rw [if_pos okB, awake_c [⟨0, 1⟩, ⟨4, 1⟩] ⟨by decide, by decide, by decide, by decide, trivial⟩ (by decide)]; rfl
  refine Ev.congr (f := fun k => (standbyref22_Same.f k wA wA).bind fun t => standbylaw45_awake.j0 k lA nA true false (!t)) (fun k => ?_) (Ev.bind (ev_samewr wA (by decide) (by decide)) (Ev.step (f := fun k => (standbyref36_SameExtents.f k nA nA).bind fun t => (if t = true then some true else some false)) (fun k => ?_) (Ev.bind (ev_samex nA (by decide) (by decide)) ?_)))
  · unfold standbylaw45_awake.f
    simp only [Option.bind_some]
    rw [awake_w]
    simp only [Option.bind_some]
    rw [e2]
    simp only [Option.bind_some]
    rw [e3]
    simp only [Option.bind_some]
    rw [e4]
    simp only [Option.bind_some]
    rw [if_pos (show wrap64 (wrap64 (wrap64 (0 + 0) + 0) + 0) = 0 from by unfold wrap64; omega)]
  · rw [standbylaw45_awake.j0, if_neg (by simp)]
    simp only [if_true, Bool.false_eq_true, if_false]
    rw [e5]
    simp only [Option.bind_some, if_true]
    rw [e6]
    simp only [Option.bind_some]
    rfl
  · simp only [if_true]
    exact Ev.now true
end Go.Proofs.YtdplnbmioioniaaGreat.Pq
end
section
namespace Go.Proofs.YtdplnbmioioniaaGreat.Pq
open Go.RowKit Go.Proofs.YtdplnbmioioniaaGreatW.PrintWords Go.Proofs.YtdplnbmioioniaaGreatW.PrintLast Go.Proofs.YtdplnbmioioniaaGreatW.PrintMore
set_option linter.unusedVariables false
set_option linter.unusedSimpArgs false
theorem fitsX_at {im : Img} {l : List (List XE)} (h : fitsX im l = 0) (v : Nat) (hv : v < l.length) : okC ((im.getD v []).length : Int) 0 (l.getD v []) = true := by
  have hlen := fits_len h
  unfold fitsX at h
  rw [if_pos hlen] at h
  split at h
  · cases h
  · rename_i hb
    cases hq : okC ((im.getD v []).length : Int) 0 (l.getD v []) with
    | true => rfl
    | false =>
      refine absurd (List.any_eq_true.2 ⟨false, ?_, rfl⟩) hb
      have := mp_getD (okV im) [] true l 0 v hv
      rw [Nat.zero_add, show okV im v (l.getD v []) = false from hq] at this
      rw [← this, getD_at _ _ _ (by rw [mp_len]; exact hv)]
      exact List.getElem_mem _
end Go.Proofs.YtdplnbmioioniaaGreat.Pq
end
section
namespace Go.Proofs.YtdplnbmioioniaaGreat.Pq
open Go.RowKit Go.Proofs.YtdplnbmioioniaaGreatW.PrintWords Go.Proofs.YtdplnbmioioniaaGreatW.PrintLast Go.Proofs.YtdplnbmioioniaaGreatW.PrintMore
set_option linter.unusedVariables false
set_option linter.unusedSimpArgs false
theorem volL_le (c : Nat) : ∀ (ls : List (List XE)) (k : Nat), (∀ l ∈ ls, l.length ≤ c) → (volL k ls).length ≤ c * ls.length
  | [], _, _ => by simp [volL]
  | l :: r, k, h => by
    have h1 := h l (List.mem_cons_self ..)
    have h2 := volL_le c r (k + 1) (fun x hx => h x (List.mem_cons_of_mem _ hx))
    simp only [volL, List.length_append, List.length_map, List.length_cons, Nat.mul_succ]; omega
end Go.Proofs.YtdplnbmioioniaaGreat.Pq
end
section
namespace Go.Proofs.YtdplnbmioioniaaGreat.Pq
open Go.RowKit Go.Proofs.YtdplnbmioioniaaGreatW.PrintWords Go.Proofs.YtdplnbmioioniaaGreatW.PrintLast Go.Proofs.YtdplnbmioioniaaGreatW.PrintMore
set_option linter.unusedVariables false
set_option linter.unusedSimpArgs false
theorem ev_sameints_loop (l : List Int) (hl : l.length ≤ 1048576) : ∀ (n j : Nat), l.length - j = n → j ≤ l.length → Ev (fun k => standbyref23_SameInts.l0 k l l (j : Int)) true
  | 0, j, hn, hj => Ev.step (f := fun _ => some true) (fun k => by rw [standbyref23_SameInts.l0, if_neg (by omega)]) (Ev.now true)
  | n + 1, j, hn, hj => by
    have h1 : j < l.length := by omega
    have ih := ev_sameints_loop l hl n (j + 1) (by omega) (by omega)
    exact Ev.step (fun k => by rw [standbyref23_SameInts.l0, if_pos (by omega), if_pos (by omega), if_pos (by omega), if_pos rfl, up1 j l.length h1 hl]) ih
theorem ev_sameints (l : List Int) (hl : l.length ≤ 1048576) : Ev (fun k => standbyref23_SameInts.f k l l) true :=
  Ev.congr (fun k => by unfold standbyref23_SameInts.f; rw [if_pos rfl]; rfl) (ev_sameints_loop l hl l.length 0 (by omega) (by omega))
end Go.Proofs.YtdplnbmioioniaaGreat.Pq
end
section
namespace Go.Proofs.YtdplnbmioioniaaGreat.Pq
open Go.RowKit Go.Proofs.YtdplnbmioioniaaGreatW.PrintWords Go.Proofs.YtdplnbmioioniaaGreatW.PrintLast Go.Proofs.YtdplnbmioioniaaGreatW.PrintMore
set_option linter.unusedVariables false
set_option linter.unusedSimpArgs false
theorem ev_rwr_in (s : Img) (l : List (List XE)) (R : List WS × Int) (total tail : List WS) (hs : s.length ≤ 1048576) (hsz : ∀ v, v < s.length → (s.getD v []).length ≤ 4096) (htot : total.length ≤ 1048576) (hl : l.length ≤ 1048576) (v : Nat) (hv : v < l.length) (hvs : v < s.length) (hrl : (l.getD v []).length ≤ 1048576)
    (hin : ∀ e ∈ l.getD v [], 0 < e.f1 ∧ 0 ≤ e.f0 ∧ e.f0 + e.f1 ≤ ((s.getD v []).length : Int)) (hnext : ∀ out, out ++ tail = total → Ev (fun k => standbyref45_Writes.l0 k s l out ((v + 1 : Nat) : Int)) R) :
    ∀ (n i : Nat) (out : List WS), (l.getD v []).length - i = n → i ≤ (l.getD v []).length → out ++ (((l.getD v []).drop i).map (fun e => sliceX s ((v : Int), e)) ++ tail) = total → Ev (fun k => standbyref45_Writes.l1 k s l out (v : Int) (i : Int)) R
  | 0, i, out, hn, hi, he => by
    rw [List.drop_eq_nil_of_le (by omega), List.map_nil, List.nil_append] at he
    exact Ev.step (fun k => by rw [standbyref45_Writes.l1, if_pos (by omega), if_pos (by omega), rdE, if_neg (by omega), up1 v l.length hv hl]) (hnext out he)
  | n + 1, i, out, hn, hi, he => by
    have h1 : i < (l.getD v []).length := by omega
    have ho : out.length ≤ 1048576 := by have := congrArg List.length he; rw [List.length_append] at this; omega
    have hx := hin _ (List.getElem_mem h1)
    have hrow := hsz v hvs
    rw [List.drop_eq_getElem_cons h1, List.map_cons, List.cons_append] at he
    have ih := ev_rwr_in s l R total tail hs hsz htot hl v hv hvs hrl hin hnext n (i + 1) (out ++ [sliceX s ((v : Int), (l.getD v [])[i])]) (by omega) (by omega) (by rw [List.append_assoc, List.singleton_append]; exact he)
    refine Ev.step (fun k => ?_) ih
    have hw : wrap64 ((l.getD v [])[i].f0 + (l.getD v [])[i].f1) = (l.getD v [])[i].f0 + (l.getD v [])[i].f1 := w64 (by omega) (by omega)
    rw [standbyref45_Writes.l1, if_pos (by omega), if_pos (by omega), rdE, if_pos (by omega), if_pos (by omega), if_pos (by omega), rdX, getD_at _ _ _ h1, hw, if_pos (by omega), if_pos (by omega), rdS, if_pos (by omega)]
    simp only [Option.bind_some]
    rw [if_pos (by simp only [List.length_nil, List.length_drop, List.length_take]; omega), if_pos (by omega), List.nil_append, up1 i (l.getD v []).length h1 hrl]
    rfl
theorem ev_rwr_loop (s : Img) (l : List (List XE)) (total : List WS) (hs : s.length ≤ 1048576) (hsz : ∀ v, v < s.length → (s.getD v []).length ≤ 4096) (htot : total.length ≤ 1048576) (hf : fitsX s l = 0) (hl : l.length ≤ 1048576) (hrl : ∀ x ∈ l, x.length ≤ 1048576) :
    ∀ (n v : Nat) (out : List WS), l.length - v = n → v ≤ l.length → out ++ (volL v (l.drop v)).map (sliceX s) = total → Ev (fun k => standbyref45_Writes.l0 k s l out (v : Int)) (total, 0)
  | 0, v, out, hn, hv, he => by
    rw [List.drop_eq_nil_of_le (by omega)] at he
    rw [← he]
    simp only [volL, List.map_nil, List.append_nil]
    exact Ev.step (f := fun _ => some (out, 0)) (fun k => by rw [standbyref45_Writes.l0, if_neg (by omega)]) (Ev.now _)
  | n + 1, v, out, hn, hv, he => by
    have h1 : v < l.length := by omega
    rw [volL_drop l v h1, List.map_append, List.map_map] at he
    refine Ev.step (f := fun k => standbyref45_Writes.l1 k s l out (v : Int) ((0 : Nat) : Int)) (fun k => by rw [standbyref45_Writes.l0, if_pos (by omega)]; rfl) ?_
    exact ev_rwr_in s l (total, 0) total ((volL (v + 1) (l.drop (v + 1))).map (sliceX s)) hs hsz htot hl v h1 (by rw [← fits_len hf]; exact h1) (by rw [getD_at _ _ _ h1]; exact hrl _ (List.getElem_mem h1)) (okC_mem _ _ _ (fitsX_at hf v h1))
      (fun out' he' => ev_rwr_loop s l total hs hsz htot hf hl hrl n (v + 1) out' (by omega) (by omega) he') _ 0 out rfl (by omega) he
theorem ev_rwrites (s : Img) (l : List (List XE)) (hs : s.length ≤ 1048576) (hok : okLs l) (htot : ((volL 0 l).map (sliceX s)).length ≤ 1048576) : Ev (fun k => standbyref45_Writes.f k s l) (writesX s l) := by
  unfold writesX
  refine Ev.bind (ev_rcheck s hs) ?_
  by_cases h0 : sizesErr (lens s) = 0
  · simp only [h0, if_true]
    refine Ev.bind (ev_rfit s l hok.1 (fun x hx => by have := (hok.2 x hx).2; omega) (sizes_le h0)) ?_
    by_cases h1 : fitsX s l = 0
    · simp only [h1, if_true]
      exact ev_rwr_loop s l _ hs (sizes_le h0) htot h1 hok.1 (fun x hx => by have := (hok.2 x hx).2; omega) l.length 0 [] (by omega) (by omega) (by rw [List.nil_append, List.drop_zero])
    · simp only [h1, if_false]
      exact Ev.now _
  · simp only [h0, if_false]
    exact Ev.now _
theorem ev_rfitssz (im : Img) (hs : sizesErr (lens im) = 0) (w : WS) (hd : w.f2.length ≤ 1048576) : Ev (fun k => standbyref07_FitsSizes.f k (lens im) w.f0 w.f1 w.f2) (fitsC im w) := by
  unfold fitsC
  by_cases c : w.f0 < 0 ∨ (im.length : Int) ≤ w.f0
  · rw [if_pos c]
    refine Ev.congr (f := fun k => standbyref07_FitsSizes.j0 k (lens im) true w.f0 w.f1 w.f2) (fun k => ?_) (Ev.step (f := fun _ => some 7) (fun k => by rw [standbyref07_FitsSizes.j0, if_pos rfl]) (Ev.now 7))
    unfold standbyref07_FitsSizes.f
    by_cases c2 : w.f0 < 0
    · rw [if_pos c2]
    · rw [if_neg c2, lens_len, decide_eq_true (by omega)]
  · rw [if_neg c]
    refine Ev.congr (f := fun k => standbyref07_FitsSizes.j0 k (lens im) false w.f0 w.f1 w.f2) (fun k => by unfold standbyref07_FitsSizes.f; rw [if_neg (by omega), lens_len, decide_eq_false (by omega)]) ?_
    have hrd : rd (lens im) w.f0 = ((im.getD w.f0.toNat []).length : Int) := by unfold rd; exact lens_getD im _ (by omega)
    have hv := sizes_le hs w.f0.toNat (by omega)
    by_cases d : (w.f2.length : Int) = 0
    · rw [if_pos d]
      exact Ev.step (f := fun _ => some 1) (fun k => by rw [standbyref07_FitsSizes.j0, if_neg (by simp), if_pos d]) (Ev.now 1)
    · rw [if_neg d]
      by_cases e : w.f1 < 0
      · rw [if_pos e]
        exact Ev.step (f := fun _ => some 2) (fun k => by rw [standbyref07_FitsSizes.j0, if_neg (by simp), if_neg d, if_pos e]) (Ev.now 2)
      · rw [if_neg e]
        refine Ev.step (f := fun _ => some _) (fun k => ?_) (Ev.now _)
        rw [standbyref07_FitsSizes.j0, if_neg (by simp), if_neg d, if_neg e, if_pos (by omega), lens_len, if_pos (by omega), hrd]
        by_cases g : w.f1 ≥ ((im.getD w.f0.toNat []).length : Int)
        · rw [if_pos g, if_pos (by omega)]
        · rw [if_neg g, w64 (by omega) (by omega)]
          by_cases g2 : w.f1 > ((im.getD w.f0.toNat []).length : Int) - (w.f2.length : Int)
          · rw [if_pos (by omega), if_pos g2]
          · rw [if_neg (by omega), if_neg g2]
theorem ev_rcoal_loop (im : Img) (hs : sizesErr (lens im) = 0) (ws : List WS) (hl : ws.length ≤ 1048576) (hd : ∀ w ∈ ws, w.f2.length ≤ 1048576) : ∀ (n j : Nat), ws.length - j = n → j ≤ ws.length → (∀ i, j = i + 1 → fitsC im (ws.getD i z66) = 0) →
    Ev (fun k => standbyref22_Check.l0 k ws (lens im) (j : Int)) (coalG (fitsC im) (prevW ws j) (ws.drop j))
  | 0, j, hn, hj, hp => by
    rw [List.drop_eq_nil_of_le (by omega), show coalG (fitsC im) (prevW ws j) [] = 0 by cases prevW ws j <;> rfl]
    exact Ev.step (f := fun _ => some 0) (fun k => by rw [standbyref22_Check.l0, if_neg (by omega)]) (Ev.now 0)
  | n + 1, j, hn, hj, hp => by
    have h1 : j < ws.length := by omega
    have hm : ws.getD j z66 ∈ ws := by rw [getD_at _ _ _ h1]; exact List.getElem_mem h1
    have hrd : ∀ i : Nat, rd_T66 ws (i : Int) = ws.getD i z66 := fun i => by unfold rd_T66; rw [Int.toNat_natCast]
    have hfs := ev_rfitssz im hs (ws.getD j z66) (hd _ hm)
    have ih : fitsC im (ws.getD j z66) = 0 → Ev (fun k => standbyref22_Check.l0 k ws (lens im) ((j + 1 : Nat) : Int)) (coalG (fitsC im) (prevW ws (j + 1)) (ws.drop (j + 1))) := fun h => ev_rcoal_loop im hs ws hl hd n (j + 1) (by omega) (by omega) (fun i hi => (by have e : i = j := (by omega); subst e; exact h))
    cases j with
    | zero =>
      rw [coalG_drop0 _ _ h1]
      refine Ev.step (f := fun k => (standbyref07_FitsSizes.f k (lens im) (ws.getD 0 z66).f0 (ws.getD 0 z66).f1 (ws.getD 0 z66).f2).bind fun t => (if t = 0 then standbyref22_Check.l0 k ws (lens im) ((0 + 1 : Nat) : Int) else some t)) (fun k => by rw [standbyref22_Check.l0, if_pos (by omega), if_pos (by omega), hrd, up1 0 ws.length h1 hl]; rfl) (Ev.bind hfs ?_)
      by_cases q : fitsC im (ws.getD 0 z66) = 0
      · simp only [q, if_true]; exact ih q
      · simp only [q, if_false]; exact Ev.now _
    | succ i =>
      rw [coalG_drop _ _ i h1]
      have hpi := hp i rfl
      obtain ⟨p0, p1, p2, p3, p4⟩ := fitsC_zero hpi
      have hrow := sizes_le hs (ws.getD i z66).f0.toNat (by omega)
      have hix : wrap64 (((i + 1 : Nat) : Int) - 1) = (i : Int) := by rw [show ((i + 1 : Nat) : Int) - 1 = (i : Int) by omega]; exact w64 (by omega) (by omega)
      have hpw : wrap64 (wrap64 ((ws.getD i z66).f1 + ((ws.getD i z66).f2.length : Int)) + 1) = (ws.getD i z66).f1 + ((ws.getD i z66).f2.length : Int) + 1 := by rw [w64 (n := (ws.getD i z66).f1 + ((ws.getD i z66).f2.length : Int)) (by omega) (by omega)]; exact w64 (by omega) (by omega)
      refine Ev.step (f := fun k => (standbyref07_FitsSizes.f k (lens im) (ws.getD (i + 1) z66).f0 (ws.getD (i + 1) z66).f1 (ws.getD (i + 1) z66).f2).bind fun t => (if t = 0 then (if ordX (ws.getD i z66) (ws.getD (i + 1) z66) = true then some 3 else standbyref22_Check.l0 k ws (lens im) ((i + 1 + 1 : Nat) : Int)) else some t)) (fun k => ?_) (Ev.bind hfs ?_)
      · rw [standbyref22_Check.l0, if_pos (by omega), if_pos (by omega), hrd, up1 (i + 1) ws.length h1 hl, hix, hrd]
        congr 1
        funext t
        by_cases ht : t = 0
        · rw [if_pos ht, if_pos ht, if_neg (by omega), if_pos (by omega), if_pos (by omega), hpw]
          unfold ordX
          by_cases o1 : (ws.getD (i + 1) z66).f0 < (ws.getD i z66).f0
          · rw [if_pos o1, decide_eq_true o1, Bool.true_or, if_pos rfl]
          · rw [if_neg o1, decide_eq_false o1, Bool.false_or]
            by_cases o2 : (ws.getD (i + 1) z66).f0 = (ws.getD i z66).f0
            · rw [if_pos o2, decide_eq_true o2, Bool.true_and]
              by_cases o3 : (ws.getD (i + 1) z66).f1 ≤ (ws.getD i z66).f1 + ((ws.getD i z66).f2.length : Int)
              · rw [if_pos (by omega), if_pos (by rw [decide_eq_true o3])]
              · rw [if_neg (by omega), if_neg (by rw [decide_eq_false o3]; simp)]
            · rw [if_neg o2, decide_eq_false o2, Bool.false_and, if_neg (by simp)]
        · rw [if_neg ht, if_neg ht]
      · by_cases q : fitsC im (ws.getD (i + 1) z66) = 0
        · simp only [q, if_true]
          by_cases o : ordX (ws.getD i z66) (ws.getD (i + 1) z66) = true
          · simp only [o, if_true]; exact Ev.now 3
          · simp only [o, if_false]; exact ih q
        · simp only [q, if_false]; exact Ev.now _
theorem ev_rcoal (im : Img) (ws : List WS) (hl : ws.length ≤ 1048576) (hi : im.length ≤ 1048576) (hd : ∀ w ∈ ws, w.f2.length ≤ 1048576) : Ev (fun k => standbyref22_Check.f k ws (lens im)) (coalX ws (lens im)) := by
  unfold coalX
  refine Ev.bind (ev_sizes (lens im) (by rw [lens_len]; exact hi)) ?_
  by_cases hs : sizesErr (lens im) = 0
  · simp only [hs, if_true]
    have hz := lens_zero (lens im) (sizes_mem hs).2.2
    have h := ev_rcoal_loop ((lens im).map zRow) (by rw [hz]; exact hs) ws hl hd ws.length 0 (by omega) (by omega) (fun i hi => by omega)
    rw [hz] at h
    have e : fitsF ((lens im).map zRow) = fitsC ((lens im).map zRow) := by funext w; unfold fitsF; rw [if_pos (by rw [hz]; exact hs)]
    rw [e]
    exact h
  · simp only [hs, if_false]
    exact Ev.now _
theorem ev_rpos_loop (l : List Int) (hl : l.length ≤ 1048576) : ∀ (n j : Nat), l.length - j = n → j ≤ l.length → Ev (fun k => standbyref23_positions.l0 k l (j : Int)) (if (l.drop j).any badPos then 2 else 0)
  | 0, j, hn, hj => by
    rw [List.drop_eq_nil_of_le (by omega)]
    exact Ev.step (f := fun _ => some 0) (fun k => by rw [standbyref23_positions.l0, if_neg (by omega)]) (Ev.now 0)
  | n + 1, j, hn, hj => by
    have h1 : j < l.length := by omega
    have hrd : rd l (j : Int) = l[j] := by unfold rd; rw [Int.toNat_natCast, List.getD_eq_getElem?_getD, List.getElem?_eq_getElem h1]; rfl
    have ih := ev_rpos_loop l hl n (j + 1) (by omega) (by omega)
    rw [List.drop_eq_getElem_cons h1, List.any_cons]
    have hunf : ∀ k, standbyref23_positions.l0 (k + 1) l (j : Int) = (if l[j] < 0 then some 2 else if l[j] > 1073741824 then some 2 else standbyref23_positions.l0 k l ((j + 1 : Nat) : Int)) := fun k => by
      rw [standbyref23_positions.l0, if_pos (by omega), if_pos (by omega), hrd, up1 j l.length h1 hl]
    have hbp : badPos l[j] = (decide (l[j] < 0) || decide (1073741824 < l[j])) := by
      unfold badPos inB
      by_cases a : l[j] < 0
      · rw [decide_eq_false (show ¬ 0 ≤ l[j] by omega), decide_eq_true a]; rfl
      · rw [decide_eq_true (show 0 ≤ l[j] by omega), decide_eq_false a]
        by_cases b : 1073741824 < l[j]
        · rw [decide_eq_false (show ¬ l[j] ≤ 1073741824 by omega), decide_eq_true b]; rfl
        · rw [decide_eq_true (show l[j] ≤ 1073741824 by omega), decide_eq_false b]; rfl
    rw [hbp]
    by_cases e : l[j] < 0
    · rw [decide_eq_true e]
      exact Ev.step (f := fun _ => some 2) (fun k => by rw [hunf, if_pos e]) (Ev.now 2)
    · by_cases e2 : 1073741824 < l[j]
      · rw [decide_eq_true e2, Bool.or_true]
        exact Ev.step (f := fun _ => some 2) (fun k => by rw [hunf, if_neg e, if_pos e2]) (Ev.now 2)
      · rw [decide_eq_false e, decide_eq_false e2, Bool.or_false, Bool.false_or]
        exact Ev.step (fun k => by rw [hunf, if_neg e, if_neg e2]) ih
theorem ev_rccheck (b n t : Int) (pos : List Int) (ws : List WS) (im : Img) (hi : im.length ≤ 1048576) (hpl : pos.length ≤ 1048576) (hl : ws.length ≤ 1048576) (hd : ∀ w ∈ ws, w.f2.length ≤ 1048576) : Ev (fun k => standbyref23_Check.f k b n t pos ws (lens im)) (cycErr b n t pos ws (lens im)) := by
  unfold cycErr
  refine Ev.bind (ev_sizes (lens im) (by rw [lens_len]; exact hi)) ?_
  by_cases hs : sizesErr (lens im) = 0
  · simp only [hs, if_true]
    have two : Ev (fun k => standbyref23_Check.j0 k (lens im) true b n t pos ws) 2 := Ev.step (f := fun _ => some 2) (fun k => by rw [standbyref23_Check.j0, if_pos rfl]) (Ev.now 2)
    by_cases h1 : b < 0
    · rw [if_pos (.inl h1)]; exact Ev.congr (fun k => by rw [if_pos h1]) two
    · by_cases h2 : n ≤ b
      · rw [if_pos (.inr (.inl h2))]; exact Ev.congr (fun k => by rw [if_neg h1, if_pos h2]) two
      · by_cases h3 : 1073741824 < n
        · rw [if_pos (.inr (.inr h3))]; exact Ev.congr (fun k => by rw [if_neg h1, if_neg h2, decide_eq_true h3]) two
        · rw [if_neg (by omega)]
          refine Ev.congr (f := fun k => standbyref23_Check.j0 k (lens im) false b n t pos ws) (fun k => by rw [if_neg h1, if_neg h2, decide_eq_false h3]) ?_
          by_cases h4 : 0 ≤ t ∧ t ≤ 1073741824
          · rw [if_pos h4]
            refine Ev.step (f := fun k => standbyref23_Check.j1 k (lens im) false b n t pos ws) (fun k => by rw [standbyref23_Check.j0, if_neg (by simp), if_neg (by omega), decide_eq_false (by omega)]) ?_
            unfold posErr inB
            rw [decide_eq_true (show (0 : Int) ≤ (pos.length : Int) by omega), Bool.true_and]
            by_cases h5 : (pos.length : Int) ≤ 8
            · rw [decide_eq_true h5, if_pos rfl]
              refine Ev.step (f := fun k => (standbyref23_positions.f k pos).bind fun t314 => (if t314 = 0 then ((standbyref22_Check.f k ws (lens im)).bind fun t315 => (some t315)) else (some t314))) (fun k => by rw [standbyref23_Check.j1, if_neg (by simp), if_neg (by omega)]) (Ev.bind (ev_rpos_loop pos hpl pos.length 0 (by omega) (by omega)) ?_)
              rw [List.drop_zero]
              cases pos.any badPos with
              | false => exact Ev.bind (ev_rcoal im ws hl hi hd) (Ev.now _)
              | true => exact Ev.now 2
            · rw [decide_eq_false h5, if_neg (by simp)]
              exact Ev.step (f := fun _ => some 6) (fun k => by rw [standbyref23_Check.j1, if_neg (by simp), if_pos (by omega)]) (Ev.now 6)
          · rw [if_neg h4]
            refine Ev.step (f := fun k => standbyref23_Check.j1 k (lens im) true b n t pos ws) (fun k => ?_) (Ev.step (f := fun _ => some 24) (fun k => by rw [standbyref23_Check.j1, if_pos rfl]) (Ev.now 24))
            rw [standbyref23_Check.j0, if_neg (by simp)]
            by_cases h5 : t < 0
            · rw [if_pos h5]
            · rw [if_neg h5, decide_eq_true (by omega)]
  · simp only [hs, if_false]
    exact Ev.now _
theorem ev_rcycle (s : Img) (l : List (List XE)) (b n t : Int) (pos : List Int) (hs : s.length ≤ 1048576) (hok : okLs l) (hpl : pos.length ≤ 1048576) (htot : ((volL 0 l).map (sliceX s)).length ≤ 1048576) : Ev (fun k => standbyref45_Cycle.f k s l b n t pos) (cycleX s l b n t pos) := by
  have hshort := writes_short s l
  have hlen : (writesX s l).1.length ≤ 1048576 := by
    unfold writesX
    split
    · split
      · exact htot
      · simp
    · simp
  unfold cycleX
  refine Ev.bind (ev_rwrites s l hs hok htot) ?_
  by_cases hw : (writesX s l).2 = 0
  · simp only [hw, if_true]
    have hpp : ([] : List Int).length + pos.length < 17592186044416 := by rw [List.length_nil]; omega
    simp only [hpp, if_true, Option.bind_some, List.nil_append]
    refine Ev.bind (ev_sizesof_loop s hs s.length 0 (by omega) (by omega)) (Ev.bind (ev_rccheck b n t pos _ s hs hpl hlen hshort) ?_)
    by_cases hz : cycErr b n t pos (writesX s l).1 (lens s) = 0
    · simp only [hz, if_true]; exact Ev.now _
    · simp only [hz, if_false]; exact Ev.now _
  · simp only [hw, if_false]
    exact Ev.now _
theorem ev_law_writes (s : Img) (l : List (List XE)) (b n t : Int) (pos : List Int) (hx : ∀ x ∈ l, ∀ e ∈ x, okX e) : Ev (fun k => standbylaw45_ResyncWrites.f k s l b n t pos) true := by
  have yes : Ev (fun k => standbylaw45_ResyncWrites.j0 k s l true b n t pos) true := Ev.step (f := fun k => (standbylaw45_awake.f k).bind fun t => some t) (fun k => by rw [standbylaw45_ResyncWrites.j0, if_pos rfl]) (Ev.bind ev_awake (Ev.now true))
  refine Ev.bind (ev_few s) ?_
  cases h1 : fewI s with
  | false => exact yes
  | true =>
    simp only [if_true]
    refine Ev.bind (ev_fewl l) ?_
    cases h3 : fewL l with
    | false => exact yes
    | true =>
      simp only [if_true]
      by_cases hp : (pos.length : Int) > 20
      · rw [decide_eq_true hp]; exact yes
      · rw [decide_eq_false hp]
        obtain ⟨a1, _⟩ := fewI_le h1
        obtain ⟨a3, a4⟩ := fewL_le h3
        have hok : okLs l := ⟨by omega, fun x hxl => ⟨hx x hxl, by have := a4 x hxl; omega⟩⟩
        have htot : ((volL 0 l).map (sliceX s)).length ≤ 1048576 := by rw [List.length_map]; have := volL_le 40 l 0 a4; omega
        have e1 : resync_Writes.f s l = some (writesX s l) := by unfold resync_Writes.f; rw [if_pos ⟨by omega, hok⟩]
        have e2 : resync_Cycle.f s l b n t pos = some (cycleX s l b n t pos) := by unfold resync_Cycle.f; rw [if_pos ⟨by omega, hok, by omega⟩]
        have hlen : (writesX s l).1.length ≤ 1048576 := by
          unfold writesX
          split
          · split
            · exact htot
            · simp
          · simp
        have hsame := ev_samewr (writesX s l).1 hlen (writes_short s l)
        have hcw : (cycleX s l b n t pos).2.2.2.2.1.length ≤ 1048576 ∧ (∀ r ∈ (cycleX s l b n t pos).2.2.2.2.1, r.f2.length ≤ 1048576) ∧ (cycleX s l b n t pos).2.2.2.1.length ≤ 1048576 := by
          unfold cycleX
          split
          · split
            · exact ⟨hlen, writes_short s l, by show pos.length ≤ 1048576; omega⟩
            · exact ⟨by simp, by simp, by simp⟩
          · exact ⟨by simp, by simp, by simp⟩
        have hcs : Ev (fun k => standbyref23_Same.f k (cycleX s l b n t pos).1 (cycleX s l b n t pos).2.1 (cycleX s l b n t pos).2.2.1 (cycleX s l b n t pos).2.2.2.1 (cycleX s l b n t pos).2.2.2.2.1 (cycleX s l b n t pos).1 (cycleX s l b n t pos).2.1 (cycleX s l b n t pos).2.2.1 (cycleX s l b n t pos).2.2.2.1 (cycleX s l b n t pos).2.2.2.2.1) true := by
          have hsw : Ev (fun k => standbyref03_SameWrites.f k (cycleX s l b n t pos).2.2.2.2.1 (cycleX s l b n t pos).2.2.2.2.1) true := Ev.congr (fun k => by unfold standbyref03_SameWrites.f; rw [if_pos rfl]; rfl) (ev_samewr_loop _ hcw.1 hcw.2.1 _ 0 rfl (by omega))
          refine Ev.congr (f := fun k => (standbyref23_SameInts.f k (cycleX s l b n t pos).2.2.2.1 (cycleX s l b n t pos).2.2.2.1).bind fun t331 => (if t331 = true then ((standbyref03_SameWrites.f k (cycleX s l b n t pos).2.2.2.2.1 (cycleX s l b n t pos).2.2.2.2.1).bind fun t332 => (some t332)) else (some false))) (fun k => by unfold standbyref23_Same.f; rw [if_pos rfl, if_pos rfl, if_pos rfl]) (Ev.bind (ev_sameints _ hcw.2.2) ?_)
          simp only [if_true]
          exact Ev.bind hsw (Ev.now true)
        refine Ev.step (f := fun k => (standbyref45_Writes.f k s l).bind fun bt341 => ((standbyref45_Cycle.f k s l b n t pos).bind fun bt356 => ((standbylaw45_awake.f k).bind fun t367 => (if t367 = true then ((standbyref22_Same.f k (writesX s l).1 bt341.1).bind fun t368 => (if t368 = true then (if (writesX s l).2 = bt341.2 then ((standbyref23_Same.f k (cycleX s l b n t pos).1 (cycleX s l b n t pos).2.1 (cycleX s l b n t pos).2.2.1 (cycleX s l b n t pos).2.2.2.1 (cycleX s l b n t pos).2.2.2.2.1 bt356.1 bt356.2.1 bt356.2.2.1 bt356.2.2.2.1 bt356.2.2.2.2.1).bind fun t369 => (if t369 = true then (some ((cycleX s l b n t pos).2.2.2.2.2 == bt356.2.2.2.2.2)) else (some false))) else (some false)) else (some false))) else (some false))))) (fun k => ?_) ?_
        · rw [standbylaw45_ResyncWrites.j0, if_neg (by simp), e1]
          simp only [Option.bind_some]
          rw [e2]
          simp only [Option.bind_some]
        · refine Ev.bind (ev_rwrites s l (by omega) hok htot) (Ev.bind (ev_rcycle s l b n t pos (by omega) hok (by omega) htot) (Ev.bind ev_awake ?_))
          simp only [if_true]
          refine Ev.bind hsame ?_
          simp only [if_true]
          refine Ev.bind hcs ?_
          simp only [if_true, beq_self_eq_true]
          exact Ev.now true
end Go.Proofs.YtdplnbmioioniaaGreat.Pq
end
