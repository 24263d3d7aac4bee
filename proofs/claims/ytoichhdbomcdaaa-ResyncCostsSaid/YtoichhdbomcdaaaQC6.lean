import Derived.Test.YtoichhdbomcdaaaQC5
section
namespace Go.Proofs.Ytoichhdbomcdaaa.Pq
open Go.RowKit Go.Proofs.YtoichhdbomcdaaaW.PrintWords Go.Proofs.YtoichhdbomcdaaaW.PrintLast Go.Proofs.YtoichhdbomcdaaaW.PrintMore
set_option linter.unusedVariables false
set_option linter.unusedSimpArgs false
theorem getD_at {α : Type} (l : List α) (z : α) (j : Nat) (h : j < l.length) : l.getD j z = l[j] := by rw [List.getD_eq_getElem?_getD, List.getElem?_eq_getElem h]; rfl
theorem rdE (l : List (List XE)) (j : Nat) : rd_L7 l (j : Int) = l.getD j [] := by unfold rd_L7; rw [Int.toNat_natCast]
theorem rdX (l : List XE) (j : Nat) : rd_T54 l (j : Int) = l.getD j z54 := by unfold rd_T54; rw [Int.toNat_natCast]
theorem up1 (j n : Nat) (h : j < n) (hn : n ≤ 1048576) : wrap64 ((j : Int) + 1) = ((j + 1 : Nat) : Int) := by rw [w64 (by omega) (by omega)]; rfl
def fewL (l : List (List XE)) : Bool := (l.take 20).all (fun x => decide (x.length ≤ 40)) && decide (l.length ≤ 20)
theorem ev_fewl_loop (l : List (List XE)) : ∀ (n j : Nat), 20 - j = n → j ≤ l.length → j ≤ 20 → Ev (fun k => standbyref45_FewLists.l0 k l (j : Int)) (((l.take 20).drop j).all (fun x => decide (x.length ≤ 40)) && decide (l.length ≤ 20))
  | n, j, hn, hj, h20 => by
    by_cases h1 : j < l.length ∧ j < 20
    · have ht : j < (l.take 20).length := by rw [List.length_take]; omega
      rw [List.drop_eq_getElem_cons ht, List.all_cons, List.getElem_take]
      by_cases e : l[j].length ≤ 40
      · rw [decide_eq_true e, Bool.true_and]
        have ih := ev_fewl_loop l (n - 1) (j + 1) (by omega) (by omega) (by omega)
        refine Ev.step (f := fun k => standbyref45_FewLists.j1 k l (j : Int) true) (fun k => by rw [standbyref45_FewLists.l0, if_pos (by omega), decide_eq_true (by omega)]) ?_
        exact Ev.step (fun k => by rw [standbyref45_FewLists.j1, if_pos rfl, if_pos (by omega), if_pos (by omega), rdE, getD_at _ _ _ h1.1, if_neg (by omega), up1 j 20 h1.2 (by omega)]) ih
      · rw [decide_eq_false e, Bool.false_and, Bool.false_and]
        refine Ev.step (f := fun k => standbyref45_FewLists.j1 k l (j : Int) true) (fun k => by rw [standbyref45_FewLists.l0, if_pos (by omega), decide_eq_true (by omega)]) ?_
        exact Ev.step (f := fun _ => some false) (fun k => by rw [standbyref45_FewLists.j1, if_pos rfl, if_pos (by omega), if_pos (by omega), rdE, getD_at _ _ _ h1.1, if_pos (by omega)]) (Ev.now false)
    · rw [List.drop_eq_nil_of_le (by rw [List.length_take]; omega), List.all_nil, Bool.true_and]
      refine Ev.step (f := fun k => standbyref45_FewLists.j1 k l (j : Int) false) (fun k => ?_) (Ev.step (f := fun _ => some (decide (l.length ≤ 20))) (fun k => ?_) (Ev.now _))
      · rw [standbyref45_FewLists.l0]
        by_cases h2 : j < l.length
        · rw [if_pos (by omega), decide_eq_false (by omega)]
        · rw [if_neg (by omega)]
      · rw [standbyref45_FewLists.j1, if_neg (by simp)]
        exact congrArg some (decide_eq_decide.2 (by omega))
termination_by n => n
theorem ev_fewl (l : List (List XE)) : Ev (fun k => standbyref45_FewLists.f k l) (fewL l) := ev_fewl_loop l 20 0 rfl (by omega) (by omega)
theorem fewL_le {l : List (List XE)} (h : fewL l = true) : l.length ≤ 20 ∧ ∀ x ∈ l, x.length ≤ 40 := by
  unfold fewL at h
  rw [Bool.and_eq_true, decide_eq_true_eq, List.all_eq_true] at h
  refine ⟨h.2, fun x hx => ?_⟩
  rw [List.take_of_length_le h.2] at h
  exact of_decide_eq_true (h.1 x hx)
end Go.Proofs.Ytoichhdbomcdaaa.Pq
end
section
namespace Go.Proofs.Ytoichhdbomcdaaa.Pq
open Go.RowKit Go.Proofs.YtoichhdbomcdaaaW.PrintWords Go.Proofs.YtoichhdbomcdaaaW.PrintLast Go.Proofs.YtoichhdbomcdaaaW.PrintMore
set_option linter.unusedVariables false
set_option linter.unusedSimpArgs false
def mkN (n : Nat) (p : Int → Bool) : List Bool := (List.range n).map fun (i : Nat) => p (i : Int)
theorem mkN_len (n : Nat) (p : Int → Bool) : (mkN n p).length = n := by simp [mkN]
theorem mkN_congr {n : Nat} {p q : Int → Bool} (h : ∀ x : Int, 0 ≤ x → x < n → p x = q x) : mkN n p = mkN n q := by
  unfold mkN
  exact List.map_congr_left fun i hi => h i (by omega) (by have := List.mem_range.1 hi; omega)
theorem mkN_set (n : Nat) (p : Int → Bool) (i : Int) (b : Bool) (h0 : 0 ≤ i) (h1 : i < n) : (mkN n p).set i.toNat b = mkN n (fun x => if x = i then b else p x) := by
  apply List.ext_getElem?
  intro j
  unfold mkN
  rw [List.getElem?_set, List.getElem?_map]
  by_cases hj : j < n
  · rw [List.getElem?_map, List.getElem?_range hj]
    by_cases e : i.toNat = j
    · rw [if_pos e, if_pos (by simp; omega)]
      simp only [Option.map_some]
      rw [if_pos (by omega)]
    · rw [if_neg e]
      simp only [Option.map_some]
      rw [if_neg (by omega)]
  · rw [List.getElem?_map, List.getElem?_eq_none (by simp; omega)]
    rw [if_neg (by omega)]
    rfl
theorem mkN_at (n : Nat) (p : Int → Bool) (i : Int) (h0 : 0 ≤ i) (h1 : i < n) : rdOf false (mkN n p) i = p i := by
  unfold rdOf mkN
  rw [List.getD_eq_getElem?_getD, List.getElem?_map, List.getElem?_range (by omega)]
  simp only [Option.map_some, Option.getD_some]
  rw [show ((i.toNat : Nat) : Int) = i by omega]
theorem ev_add_loop (N : Nat) (hN : N ≤ 4096) (tt : Int) (htt : tt ≤ N) : ∀ (n : Nat) (p : Int → Bool) (i : Int), (tt - i).toNat = n → 0 ≤ i → i ≤ 4096 → Ev (fun k => standbyref01_Add.l0 k (mkN N p) tt i) (mkN N (fun x => p x || (decide (i ≤ x) && decide (x < tt))))
  | 0, p, i, hn, h0, h4 => by
    have : mkN N (fun x => p x || (decide (i ≤ x) && decide (x < tt))) = mkN N p := mkN_congr fun x _ _ => by
      by_cases a : i ≤ x
      · rw [decide_eq_false (show ¬ x < tt by omega)]; simp
      · rw [decide_eq_false a]; simp
    rw [this]
    exact Ev.step (f := fun _ => some (mkN N p)) (fun k => by rw [standbyref01_Add.l0, if_neg (by omega)]) (Ev.now _)
  | n + 1, p, i, hn, h0, h4 => by
    have ih := ev_add_loop N hN tt htt n (fun x => if x = i then true else p x) (i + 1) (by omega) (by omega) (by omega)
    have : mkN N (fun x => (if x = i then true else p x) || (decide (i + 1 ≤ x) && decide (x < tt))) = mkN N (fun x => p x || (decide (i ≤ x) && decide (x < tt))) := mkN_congr fun x _ _ => by
      by_cases a : x = i
      · subst a
        rw [if_pos rfl, decide_eq_true (show x ≤ x by omega), decide_eq_true (show x < tt by omega)]; simp
      · rw [if_neg a, show decide (i + 1 ≤ x) = decide (i ≤ x) from decide_eq_decide.2 (by omega)]
    rw [this] at ih
    exact Ev.step (fun k => by rw [standbyref01_Add.l0, if_pos (by omega), if_pos h0, if_pos (by rw [mkN_len]; omega), mkN_set N p i true h0 (by omega), w64 (by omega) (by omega)]) ih
theorem ev_add (p : Int → Bool) (s c : Int) (hs : isI s) (hc : isI c) : Ev (fun k => standbyref01_Add.f k (mkN 4096 p) s c) (mkN 4096 (fun x => p x || inX ⟨s, c⟩ x)) := by
  obtain ⟨s1, s2⟩ := hs
  obtain ⟨c1, c2⟩ := hc
  have fin : ∀ (fr tt : Int), 0 ≤ fr → fr ≤ 4096 → tt ≤ 4096 → (∀ x : Int, 0 ≤ x → x < 4096 → ((fr ≤ x ∧ x < tt) ↔ inX ⟨s, c⟩ x = true)) → Ev (fun k => standbyref01_Add.l0 k (mkN 4096 p) tt fr) (mkN 4096 (fun x => p x || inX ⟨s, c⟩ x)) := by
    intro fr tt h0 h1 h2 hx
    have := ev_add_loop 4096 (Nat.le_refl _) tt h2 _ p fr rfl h0 h1
    rwa [show mkN 4096 (fun x => p x || (decide (fr ≤ x) && decide (x < tt))) = mkN 4096 (fun x => p x || inX ⟨s, c⟩ x) from mkN_congr fun x a b => by
      have h := hx x a b
      by_cases q : inX ⟨s, c⟩ x = true
      · obtain ⟨q1, q2⟩ := h.2 q
        rw [q, decide_eq_true q1, decide_eq_true q2]; rfl
      · rw [Bool.eq_false_iff.2 q]
        by_cases q1 : fr ≤ x
        · rw [decide_eq_false (fun q2 => q (h.1 ⟨q1, q2⟩))]; simp
        · rw [decide_eq_false q1]; simp] at this
  have none : (∀ x : Int, 0 ≤ x → x < 4096 → inX ⟨s, c⟩ x = false) → Ev (fun k => standbyref01_Add.j0 k (mkN 4096 p) true s c) (mkN 4096 (fun x => p x || inX ⟨s, c⟩ x)) := fun h => by
    rw [show mkN 4096 (fun x => p x || inX ⟨s, c⟩ x) = mkN 4096 p from mkN_congr fun x a b => by rw [h x a b, Bool.or_false]]
    exact Ev.step (f := fun _ => some (mkN 4096 p)) (fun k => by rw [standbyref01_Add.j0, if_pos rfl]) (Ev.now _)
  by_cases h1 : c ≤ 0
  · refine Ev.congr (fun k => by unfold standbyref01_Add.f; rw [if_pos h1]) (none fun x _ _ => ?_)
    refine Bool.eq_false_iff.2 fun h => ?_
    have := ((inX_iff _ _).1 h).1
    dsimp only at this
    omega
  · by_cases h2 : 4096 ≤ s
    · refine Ev.congr (fun k => by unfold standbyref01_Add.f; rw [if_neg h1, mkN_len, decide_eq_true (by omega)]) (none fun x _ hx => ?_)
      refine Bool.eq_false_iff.2 fun h => ?_
      have := ((inX_iff _ _).1 h).2.1
      dsimp only [mx] at this
      split at this <;> omega
    · refine Ev.congr (f := fun k => standbyref01_Add.j0 k (mkN 4096 p) false s c) (fun k => by unfold standbyref01_Add.f; rw [if_neg h1, mkN_len, decide_eq_false (by omega)]) ?_
      by_cases h3 : s < 0
      · refine Ev.step (f := fun k => standbyref01_Add.j1 k (mkN 4096 p) 0 (mn 4096 (s + c))) (fun k => by rw [standbyref01_Add.j0, if_neg (by simp), if_pos h3, mkN_len, w64 (by omega) (by omega)]; rfl) (Ev.step (fun k => by rw [standbyref01_Add.j1]) (fin 0 (mn 4096 (s + c)) (by omega) (by omega) (by unfold mn; split <;> omega) fun x hx0 hx1 => ?_))
        rw [inX_iff]
        unfold mn mx
        dsimp only
        constructor
        · rintro ⟨a, b⟩
          refine ⟨by omega, by split <;> omega, ?_⟩
          split at b <;> split <;> omega
        · rintro ⟨a, b, d⟩
          refine ⟨by omega, ?_⟩
          split at d <;> split <;> omega
      · refine Ev.step (f := fun k => standbyref01_Add.j1 k (mkN 4096 p) s (mn 4096 (s + mn c 4096))) (fun k => by rw [standbyref01_Add.j0, if_neg (by simp), if_neg h3, mkN_len, w64 (by unfold mn; split <;> omega) (by unfold mn; split <;> omega)]; rfl) (Ev.step (fun k => by rw [standbyref01_Add.j1]) (fin s (mn 4096 (s + mn c 4096)) (by omega) (by omega) (by unfold mn; split <;> omega) fun x hx0 hx1 => ?_))
        rw [inX_iff]
        unfold mn mx
        dsimp only
        constructor
        · rintro ⟨a, b⟩
          refine ⟨by omega, by split <;> omega, ?_⟩
          repeat' split at b
          all_goals (split <;> omega)
        · rintro ⟨a, b, d⟩
          refine ⟨by split at b <;> omega, ?_⟩
          split at d <;> (repeat' split) <;> omega
theorem ev_marks_loop (l : List XE) (hl : l.length ≤ 1048576) (hok : ∀ x ∈ l, okX x) : ∀ (n j : Nat), l.length - j = n → j ≤ l.length → Ev (fun k => standbyref01_Marks.l0 k l (mkN 4096 (inL (l.take j))) (j : Int)) (mkN 4096 (inL l))
  | 0, j, hn, hj => by
    rw [List.take_of_length_le (by omega)]
    exact Ev.step (f := fun _ => some (mkN 4096 (inL l))) (fun k => by rw [standbyref01_Marks.l0, if_neg (by omega)]) (Ev.now _)
  | n + 1, j, hn, hj => by
    have h1 : j < l.length := by omega
    have ih := ev_marks_loop l hl hok n (j + 1) (by omega) (by omega)
    obtain ⟨o1, o2⟩ := hok _ (List.getElem_mem h1)
    have ha := ev_add (inL (l.take j)) l[j].f0 l[j].f1 o1 o2
    rw [show mkN 4096 (fun x => inL (l.take j) x || inX ⟨l[j].f0, l[j].f1⟩ x) = mkN 4096 (inL (l.take (j + 1))) from mkN_congr fun x _ _ => by
      unfold inL; rw [List.take_succ_eq_append_getElem h1, List.any_append, List.any_cons, List.any_nil, Bool.or_false]] at ha
    exact Ev.step (f := fun k => (standbyref01_Add.f k (mkN 4096 (inL (l.take j))) l[j].f0 l[j].f1).bind fun t => standbyref01_Marks.l0 k l t ((j + 1 : Nat) : Int)) (fun k => by rw [standbyref01_Marks.l0, if_pos (by omega), if_pos (by omega), rdX, getD_at _ _ _ h1, up1 j l.length h1 hl]) (Ev.bind ha ih)
theorem ev_marks (l : List XE) (hok : okL l) : Ev (fun k => standbyref01_Marks.f k l) (mkN 4096 (inL l)) := by
  have h := ev_marks_loop l (by have := hok.2; omega) hok.1 l.length 0 (by omega) (by omega)
  rw [show mkN 4096 (inL (l.take 0)) = List.replicate 4096 false from by
    unfold mkN
    rw [show (fun i : Nat => inL (l.take 0) (i : Int)) = fun _ => false from by funext i; simp [inL], List.map_const', List.length_range]] at h
  exact Ev.congr (fun k => by unfold standbyref01_Marks.f; rw [if_pos (by decide)]; rfl) h
theorem ev_count_loop (N : Nat) (hN : N ≤ 1048576) (p : Int → Bool) (hb : ∀ n : Nat, 0 ≤ countp p n ∧ countp p n ≤ n) : ∀ (n j : Nat), N - j = n → j ≤ N → Ev (fun k => standbyref01_Count.l0 k (mkN N p) (countp p j) (j : Int)) (countp p N)
  | 0, j, hn, hj => by
    have : j = N := by omega
    subst this
    exact Ev.step (f := fun _ => some (countp p j)) (fun k => by rw [standbyref01_Count.l0, mkN_len, if_neg (by omega)]) (Ev.now _)
  | n + 1, j, hn, hj => by
    have h1 : j < N := by omega
    have ih := ev_count_loop N hN p hb n (j + 1) (by omega) (by omega)
    have hat := mkN_at N p j (by omega) (by omega)
    have := hb j
    rw [countp] at ih
    by_cases hp : p j = true
    · rw [if_pos hp] at ih
      exact Ev.step (fun k => by rw [standbyref01_Count.l0, mkN_len, if_pos (by omega), if_pos (by omega), hat, if_pos hp, w64 (by omega) (by omega), up1 j N h1 hN]) ih
    · rw [if_neg hp] at ih
      exact Ev.step (fun k => by rw [standbyref01_Count.l0, mkN_len, if_pos (by omega), if_pos (by omega), hat, if_neg hp, up1 j N h1 hN]) ih
theorem ev_rcount (a : List XE) (ha : okL a) : Ev (fun k => standbyref01_Count.f k a) (countp (inL a) 4096) :=
  Ev.bind (ev_marks a ha) (ev_count_loop 4096 (by decide) (inL a) (countp_le _) 4096 0 (by decide) (by decide))
end Go.Proofs.Ytoichhdbomcdaaa.Pq
end
section
namespace Go.Proofs.Ytoichhdbomcdaaa.Pq
open Go.RowKit Go.Proofs.YtoichhdbomcdaaaW.PrintWords Go.Proofs.YtoichhdbomcdaaaW.PrintLast Go.Proofs.YtoichhdbomcdaaaW.PrintMore
set_option linter.unusedVariables false
set_option linter.unusedSimpArgs false
theorem ev_samex_in (x : List (List XE)) (hx : x.length ≤ 1048576) (hr : ∀ r ∈ x, r.length ≤ 1048576) (j : Nat) (hj : j < x.length) (hnext : Ev (fun k => standbyref36_SameExtents.l0 k x x ((j + 1 : Nat) : Int)) true) : ∀ (n i : Nat), (x[j]).length - i = n → i ≤ (x[j]).length → Ev (fun k => standbyref36_SameExtents.l1 k x x (j : Int) (i : Int)) true
  | 0, i, hn, hi => Ev.step (fun k => by rw [standbyref36_SameExtents.l1, if_pos (by omega), if_pos (by omega), rdE, getD_at _ _ _ hj, if_neg (by omega), up1 j x.length hj hx]) hnext
  | n + 1, i, hn, hi => by
    have h1 : i < (x[j]).length := by omega
    have ih := ev_samex_in x hx hr j hj hnext n (i + 1) (by omega) (by omega)
    exact Ev.step (fun k => by rw [standbyref36_SameExtents.l1, if_pos (by omega), if_pos (by omega), rdE, getD_at _ _ _ hj, if_pos (by omega), if_pos (by omega), if_pos (by omega), if_pos (by omega), beq_self_eq_true, beq_self_eq_true, if_neg (by simp), up1 i (x[j]).length h1 (hr _ (List.getElem_mem hj))]) ih
theorem ev_samex_loop (x : List (List XE)) (hx : x.length ≤ 1048576) (hr : ∀ r ∈ x, r.length ≤ 1048576) : ∀ (n j : Nat), x.length - j = n → j ≤ x.length → Ev (fun k => standbyref36_SameExtents.l0 k x x (j : Int)) true
  | 0, j, hn, hj => Ev.step (f := fun _ => some true) (fun k => by rw [standbyref36_SameExtents.l0, if_neg (by omega)]) (Ev.now true)
  | n + 1, j, hn, hj => by
    have h1 : j < x.length := by omega
    have ih := ev_samex_loop x hx hr n (j + 1) (by omega) (by omega)
    exact Ev.step (f := fun k => standbyref36_SameExtents.l1 k x x (j : Int) ((0 : Nat) : Int)) (fun k => by rw [standbyref36_SameExtents.l0, if_pos (by omega), if_pos (by omega), if_pos (by omega), if_pos rfl]; rfl) (ev_samex_in x hx hr j h1 ih _ 0 rfl (by omega))
theorem ev_samex (x : List (List XE)) (hx : x.length ≤ 1048576) (hr : ∀ r ∈ x, r.length ≤ 1048576) : Ev (fun k => standbyref36_SameExtents.f k x x) true :=
  Ev.congr (fun k => by unfold standbyref36_SameExtents.f; rw [if_pos rfl]; rfl) (ev_samex_loop x hx hr x.length 0 (by omega) (by omega))
theorem ev_samesec (x : List SS) (hx : x.length ≤ 1048576) : ∀ (n j : Nat), x.length - j = n → j ≤ x.length → Ev (fun k => standbyref03_SameSectors.l0 k x x (j : Int)) true
  | 0, j, hn, hj => Ev.step (f := fun _ => some true) (fun k => by rw [standbyref03_SameSectors.l0, if_neg (by omega)]) (Ev.now true)
  | n + 1, j, hn, hj => by
    have h1 : j < x.length := by omega
    have ih := ev_samesec x hx n (j + 1) (by omega) (by omega)
    exact Ev.step (fun k => by rw [standbyref03_SameSectors.l0, if_pos (by omega), if_pos (by omega), if_pos (by omega)]; simp only [beq_self_eq_true, Bool.not_true, Bool.or_false, if_false, Bool.false_eq_true, up1 j x.length h1 hx]) ih
theorem ev_samewr_loop (x : List S57) (hx : x.length ≤ 1048576) (hr : ∀ r ∈ x, r.f2.length ≤ 1048576) : ∀ (n j : Nat), x.length - j = n → j ≤ x.length → Ev (fun k => standbyref03_SameWrites.l0 k x x (j : Int)) true
  | 0, j, hn, hj => Ev.step (f := fun _ => some true) (fun k => by rw [standbyref03_SameWrites.l0, if_neg (by omega)]) (Ev.now true)
  | n + 1, j, hn, hj => by
    have h1 : j < x.length := by omega
    have ih := ev_samewr_loop x hx hr n (j + 1) (by omega) (by omega)
    have hrd : rd_T57 x (j : Int) = x[j] := by unfold rd_T57; rw [Int.toNat_natCast, getD_at _ _ _ h1]
    have hsec : Ev (fun k => standbyref03_SameSectors.f k (x[j]).f2 (x[j]).f2) true := Ev.congr (fun k => by unfold standbyref03_SameSectors.f; rw [if_pos rfl]; rfl) (ev_samesec (x[j]).f2 (hr _ (List.getElem_mem h1)) _ 0 rfl (by omega))
    refine Ev.step (f := fun k => (standbyref03_SameSectors.f k (x[j]).f2 (x[j]).f2).bind fun t => (if t = true then standbyref03_SameWrites.l0 k x x ((j + 1 : Nat) : Int) else some false)) (fun k => by rw [standbyref03_SameWrites.l0, if_pos (by omega), if_pos (by omega), if_pos (by omega), if_pos rfl, if_pos rfl, hrd, up1 j x.length h1 hx]) (Ev.bind hsec ?_)
    simp only [if_true]
    exact ih
theorem ev_samewr (x : List S57) (hx : x.length ≤ 1048576) (hr : ∀ r ∈ x, r.f2.length ≤ 1048576) : Ev (fun k => standbyref22_Same.f k x x) true :=
  Ev.bind (Ev.congr (fun k => by unfold standbyref03_SameWrites.f; rw [if_pos rfl]; rfl) (ev_samewr_loop x hx hr x.length 0 (by omega) (by omega))) (Ev.now true)
theorem ev_rcost_loop (l : List (List XE)) (hl : l.length ≤ 1048576) (hok : ∀ x ∈ l, okL x) : ∀ (n j : Nat) (s : Int), l.length - j = n → j ≤ l.length → 0 ≤ s → s ≤ 4096 * j → s + sumI (mp (fun _ x => countp (inL x) 4096) j (l.drop j)) = costX l → Ev (fun k => standbyref45_Cost.l0 k l s (j : Int)) (costX l)
  | 0, j, s, hn, hj, h0, h1, he => by
    rw [List.drop_eq_nil_of_le (by omega)] at he
    have : s = costX l := by simpa [mp, sumI] using he
    rw [this]
    exact Ev.step (f := fun _ => some (costX l)) (fun k => by rw [standbyref45_Cost.l0, if_neg (by omega)]) (Ev.now _)
  | n + 1, j, s, hn, hj, h0, h1, he => by
    have hlt : j < l.length := by omega
    rw [mp_drop _ l [] j hlt, sumI] at he
    have hc := ev_rcount (l.getD j []) (by rw [getD_at _ _ _ hlt]; exact hok _ (List.getElem_mem hlt))
    obtain ⟨b1, b2⟩ := countp_le (inL (l.getD j [])) 4096
    have ih := ev_rcost_loop l hl hok n (j + 1) (s + countp (inL (l.getD j [])) 4096) (by omega) (by omega) (by omega) (by omega) (by rw [← he]; omega)
    exact Ev.step (f := fun k => (standbyref01_Count.f k (l.getD j [])).bind fun t => standbyref45_Cost.l0 k l (wrap64 (s + t)) ((j + 1 : Nat) : Int)) (fun k => by rw [standbyref45_Cost.l0, if_pos (by omega), if_pos (by omega), rdE, up1 j l.length hlt hl]) (Ev.bind hc (by rw [w64 (by omega) (by omega)]; exact ih))
theorem ev_rcost (l : List (List XE)) (hok : okLs l) : Ev (fun k => standbyref45_Cost.f k l) (costX l) :=
  ev_rcost_loop l hok.1 hok.2 l.length 0 0 (by omega) (by omega) (by omega) (by omega) (by rw [Int.zero_add, List.drop_zero]; rfl)
end Go.Proofs.Ytoichhdbomcdaaa.Pq
end
section
namespace Go.Proofs.Ytoichhdbomcdaaa.Pq
open Go.RowKit Go.Proofs.YtoichhdbomcdaaaW.PrintWords Go.Proofs.YtoichhdbomcdaaaW.PrintLast Go.Proofs.YtoichhdbomcdaaaW.PrintMore
set_option linter.unusedVariables false
set_option linter.unusedSimpArgs false
theorem canon_low : ∀ (l : List XE) (lo : Int), Canon lo l → ∀ x ∈ l, lo ≤ x.f0 ∧ 0 < x.f1
  | [], _, _, _, h => by cases h
  | y :: r, lo, h, x, hx => by
    rcases List.mem_cons.1 hx with rfl | hx
    · exact ⟨h.1, h.2.1⟩
    · obtain ⟨a, b⟩ := canon_low r _ h.2.2 x hx
      exact ⟨by have := h.1; have := h.2.1; omega, b⟩
theorem inL_mem (l : List XE) (h : ∀ x ∈ l, 0 ≤ x.f0 ∧ 0 < x.f1 ∧ x.f0 + x.f1 ≤ 4096) (i : Int) : inL l i = true ↔ MemX l i := by
  unfold inL MemX
  rw [List.any_eq_true]
  constructor
  · rintro ⟨x, hx, hi⟩
    obtain ⟨a, b, c⟩ := h x hx
    obtain ⟨_, p, q⟩ := (inX_iff x i).1 hi
    refine ⟨x, hx, ?_, ?_⟩
    · unfold mx at p; split at p <;> omega
    · unfold mn at q; split at q <;> omega
  · rintro ⟨x, hx, hi, hj⟩
    obtain ⟨a, b, c⟩ := h x hx
    refine ⟨x, hx, (inX_iff x i).2 ⟨b, ?_, ?_⟩⟩
    · unfold mx; split <;> omega
    · unfold mn; split <;> omega
theorem canon_self (l : List XE) (hc : Canon 0 l) (h : ∀ x ∈ l, x.f0 + x.f1 ≤ 4096) : canon (inL l) 4096 = l := by
  have h' : ∀ x ∈ l, 0 ≤ x.f0 ∧ 0 < x.f1 ∧ x.f0 + x.f1 ≤ 4096 := fun x hx => ⟨(canon_low l 0 hc x hx).1, (canon_low l 0 hc x hx).2, h x hx⟩
  refine (eq_canon hc (inL l) 4096 fun j => ?_).symm
  rw [inL_mem l h' j]
  constructor
  · rintro ⟨x, hx, a, b⟩
    obtain ⟨p, q, r⟩ := h' x hx
    exact ⟨by omega, by omega, x, hx, a, b⟩
  · exact fun h => h.2.2
abbrev srcA : Img := [[⟨1, 0, 0, 0, 0, 0, 0, 0⟩, ⟨2, 0, 0, 0, 0, 0, 0, 0⟩, ⟨0, 0, 0, 0, 0, 0, 0, 0⟩, ⟨0, 0, 0, 0, 0, 0, 0, 0⟩, ⟨3, 0, 0, 0, 0, 0, 0, 0⟩]]
abbrev tgtA : Img := [[⟨0, 0, 0, 0, 0, 0, 0, 0⟩, ⟨2, 0, 0, 0, 0, 0, 0, 0⟩, ⟨0, 0, 0, 0, 0, 0, 0, 0⟩, ⟨0, 0, 0, 0, 0, 0, 0, 0⟩, ⟨0, 0, 0, 0, 0, 0, 0, 0⟩]]
abbrev lA : List (List XE) := [[⟨0, 2⟩, ⟨4, 1⟩]]
abbrev nA : List (List XE) := [[⟨0, 1⟩, ⟨4, 1⟩]]
abbrev wA : List S57 := [⟨0, 0, [⟨1, 0, 0, 0, 0, 0, 0, 0⟩, ⟨2, 0, 0, 0, 0, 0, 0, 0⟩]⟩, ⟨0, 4, [⟨3, 0, 0, 0, 0, 0, 0, 0⟩]⟩]
theorem okA : okLs lA := by decide
theorem okB : okLs nA := by decide
theorem awake_w : resync_Writes.f srcA lA = some (wA, 0) := by
  unfold resync_Writes.f
  rw [if_pos ⟨by decide, okA⟩]
  rfl
theorem awake_pair : pairX srcA tgtA = 0 := rfl
theorem awake_fit : fitsX srcA lA = 0 := rfl
theorem awake_fit2 : fitsX srcA nA = 0 := rfl
theorem awake_dif : difL srcA tgtA = nA := rfl
theorem awake_inter : canon (fun i => inL [⟨0, 1⟩, ⟨4, 1⟩] i && inL [⟨0, 2⟩, ⟨4, 1⟩] i) 4096 = [⟨0, 1⟩, ⟨4, 1⟩] := by
  refine (eq_canon (lo := 0) (l := [⟨0, 1⟩, ⟨4, 1⟩]) ⟨by decide, by decide, by decide, by decide, trivial⟩ _ 4096 fun j => ?_).symm
  rw [Bool.and_eq_true, inL_mem _ (by decide), inL_mem _ (by decide)]
  simp only [memx_cons, memx_nil, hasX, or_false]
  omega
theorem awake_n : neededX srcA tgtA lA = (nA, 0) := by
  unfold neededX
  rw [if_pos awake_pair, if_pos awake_fit, awake_dif]
  have : mp (needF lA) 0 nA = [needF lA 0 [⟨0, 1⟩, ⟨4, 1⟩]] := rfl
  rw [this, show needF lA 0 [⟨0, 1⟩, ⟨4, 1⟩] = [⟨0, 1⟩, ⟨4, 1⟩] from awake_inter]
theorem awake_x : exactX srcA tgtA nA = (true, 0) := by
  unfold exactX
  rw [show (neededX srcA tgtA nA).2 = 0 from by unfold neededX; rw [if_pos awake_pair, if_pos awake_fit2], if_pos rfl, awake_dif]
  rfl
theorem awake_y : exactX srcA tgtA lA = (false, 0) := by
  unfold exactX
  rw [awake_n, if_pos rfl, awake_dif]
  rfl
theorem awake_c (l : List XE) (hc : Canon 0 l) (h : ∀ x ∈ l, x.f0 + x.f1 ≤ 4096) : costX [l] = sumc l := by
  have : costX [l] = countp (inL l) 4096 + 0 := rfl
  rw [this, ← sumc_canon, canon_self l hc h, Int.add_zero]
theorem ev_awake : Ev (fun k => standbylaw45_awake.f k) true := by
  have e2 : resync_Needed.f srcA tgtA lA = some (nA, 0) := by unfold resync_Needed.f; rw [if_pos ⟨by decide, by decide, okA⟩, awake_n]
  have e3 : resync_Exact.f srcA tgtA nA = some (true, 0) := by unfold resync_Exact.f; rw [if_pos ⟨by decide, by decide, okB⟩, awake_x]
  have e4 : resync_Exact.f srcA tgtA lA = some (false, 0) := by unfold resync_Exact.f; rw [if_pos ⟨by decide, by decide, okA⟩, awake_y]
  have e5 : resync_Cost.f lA = some 3 := by unfold resync_Cost.f; rw [if_pos okA, awake_c [⟨0, 2⟩, ⟨4, 1⟩] ⟨by decide, by decide, by decide, by decide, trivial⟩ (by decide)]; rfl
  have e6 : resync_Cost.f nA = some 2 := by unfold resync_Cost.f; rw [if_pos okB, awake_c [⟨0, 1⟩, ⟨4, 1⟩] ⟨by decide, by decide, by decide, by decide, trivial⟩ (by decide)]; rfl
  refine Ev.congr (f := fun k => (standbyref22_Same.f k wA wA).bind fun t => standbylaw45_awake.j0 k lA nA true false (!t)) (fun k => ?_) (Ev.bind (ev_samewr wA (by decide) (by decide)) (Ev.step (f := fun k => (standbyref36_SameExtents.f k nA nA).bind fun t => (if t = true then some true else some false)) (fun k => ?_) (Ev.bind (ev_samex nA (by decide) (by decide)) ?_)))
  · unfold standbylaw45_awake.f
    simp only [Option.bind_some]
    rw [awake_w]
    simp only [Option.bind_some]
    rw [e2]
    simp only [Option.bind_some]
    rw [e3]
    simp only [Option.bind_some]
    rw [e4]
    simp only [Option.bind_some]
    rw [if_pos (show wrap64 (wrap64 (wrap64 (0 + 0) + 0) + 0) = 0 from by unfold wrap64; omega)]
  · rw [standbylaw45_awake.j0, if_neg (by simp)]
    simp only [if_true, Bool.false_eq_true, if_false]
    rw [e5]
    simp only [Option.bind_some, if_true]
    rw [e6]
    simp only [Option.bind_some]
    rfl
  · simp only [if_true]
    exact Ev.now true
theorem ev_law_costs (l : List (List XE)) (hx : ∀ x ∈ l, ∀ e ∈ x, okX e) : Ev (fun k => standbylaw45_ResyncCosts.f k l) true := by
  refine Ev.bind ev_awake ?_
  simp only [if_true]
  refine Ev.bind (ev_fewl l) ?_
  cases h3 : fewL l with
  | false => exact Ev.now true
  | true =>
    obtain ⟨a3, a4⟩ := fewL_le h3
    have hok : okLs l := ⟨by omega, fun x hxl => ⟨hx x hxl, by have := a4 x hxl; omega⟩⟩
    have e1 : resync_Cost.f l = some (costX l) := by unfold resync_Cost.f; rw [if_pos hok]
    simp only [if_true, e1, Option.bind_some]
    refine Ev.bind (ev_rcost l hok) ?_
    rw [beq_self_eq_true]
    exact Ev.now true
end Go.Proofs.Ytoichhdbomcdaaa.Pq
end
